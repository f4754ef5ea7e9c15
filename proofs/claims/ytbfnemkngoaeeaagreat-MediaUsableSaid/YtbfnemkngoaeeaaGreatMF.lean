/- Proved here: The project in memory of its own, for use in the proofs of the given statements; conditions stand in each theorem. -/
import Derived.Test.YtbfnemkngoaeeaaGreatTC
import Derived.Test.YtbfnemkngoaeeaaGreatVX
import Derived.Test.YtbfnemkngoaeeaaGreatMC
import Derived.Test.YtbfnemkngoaeeaaGreatMH
import Derived.Test.YtbfnemkngoaeeaaGreatZG
set_option linter.unusedSimpArgs false
set_option linter.unusedVariables false
set_option linter.unusedSectionVars false
set_option linter.unnecessarySimpa false
namespace Go.Proofs.YtbfnemkngoaeeaaGreat
open Go.RowKit
set_option maxRecDepth 4000
theorem rowT_same {α : Type} [Inhabited α] (c : α → List T) {L:List α} {j:Nat} (hj:j<L.length) {r:List T} (h:r=c (L.getD j default)):(L.map c).set j r=L.map c:=by
 refine set_same (by rw [List.length_map];exact hj) ?_
 rw [List.getElem_map,h,getD_of_lt hj]
theorem cCloneCues (l:List CueR) (hl:l.length≤65536) (hll:∀ c∈l,c.lines.length≤65536):CPure Tryz.prog 126 [.t (tcues l)] (.t (tcues l)):=by
 refine cpure_of Tryz.xen126 Tryz.func126 rfl Tryz.ntmps126 (by rw [Tryz.results126]) (aw_ok _ ?_)
 simp only [go_sem,simprocAttr,decide_true,decide_false]
 refine icall_io (cCloneQ l hl) [] rfl (by omega) (by decide) ?_ rfl rfl rfl rfl ?_
 ·simp only [go_sem,simprocAttr,decide_true,decide_false]
 ·simp only [go_sem,simprocAttr,decide_true,decide_false,List.getElem?_nil]
  refine awp_loop_f (fun (k:Nat) σ => setS 9 (vint k) (deadS [4,10,11,12,13,14,15,16,17,18,19,20,21,22] (cleanS σ))) (fun k=>k≤l.length) (fun k=>l.length - k) 0 (weak_self ?_) (Nat.zero_le _) ?_
  ·simp only [go_sem,simprocAttr,decide_true,decide_false]
   simp
  ·intro k hk
   refine aw_ok _ ?_
   simp only [go_sem,simprocAttr,decide_true,decide_false]
   refine ⟨fun hlt=>?_,fun hge=>?_⟩
   ·simp only [bxx] at hlt
    have hkl:k<l.length:=by omega
    unfold awS
    simp only [go_sem,simprocAttr,decide_true,decide_false]
    refine ⟨⟨by omega,by omega⟩,by omega,icall_pure (cCloneStr _ (hll _ (mem_getD hkl))) rfl ?_⟩
    simp only [go_sem,simprocAttr,decide_true,decide_false]
    rw [rowT_same CueR.c hkl (by rfl)]
    refine ⟨⟨by omega,by omega⟩,by omega,k+1,weak_self ?_,by omega,by omega⟩
    simp only [go_sem,simprocAttr,decide_true,decide_false]
    simp [wrap1 (show k<9223372036854775807 by omega)]
   ·simp only [bxx] at hge
    unfold awS
    simp only [go_sem,simprocAttr,decide_true,decide_false]
set_option maxHeartbeats 4000000 in
theorem cCloneTracks (ts:List (List ClipR)) (h1:ts.length≤65536) (h2:∀ t∈ts,t.length≤65536 ∧ ∀ c∈t,c.chan.length≤65536):CPure Tryz.prog 127 [.t (ttracks ts)] (.t (ttracks ts)):=by
 refine cpure_of Tryz.xen127 Tryz.func127 rfl Tryz.ntmps127 (by rw [Tryz.results127]) (aw_ok _ ?_)
 simp only [go_sem,simprocAttr,decide_true,decide_false]
 refine icall_io (cCloneTr ts h1) [] rfl (by omega) (by decide) ?_ rfl rfl rfl rfl ?_
 ·simp only [go_sem,simprocAttr,decide_true,decide_false]
 ·simp only [go_sem,simprocAttr,decide_true,decide_false,List.getElem?_nil]
  refine awp_loop_f (fun (i:Nat) σ => setS 10 (vint i) (deadS [4,5,11,12,13,14,15,16,17,18,19,20,21,22,23,24,25,26,27,28,29,30,31,32,33,34,35,36,37,38,39,40,41,42,43,44,45,46] (cleanS σ))) (fun i=>i≤ts.length) (fun i=>ts.length - i) 0 (weak_self ?_) (by omega) ?_
  ·simp only [go_sem,simprocAttr,decide_true,decide_false]
   simp
  ·intro i hi
   refine aw_ok _ ?_
   simp only [go_sem,simprocAttr,decide_true,decide_false]
   refine ⟨fun hlt=>?_,fun hge=>?_⟩
   ·simp only [bxx] at hlt
    have hil:i<ts.length:=by omega
    obtain ⟨L,hL⟩:∃ L,L=ts.getD i default:=⟨_,rfl⟩
    have hLm:L∈ts:=by rw [hL];exact mem_getD hil
    obtain ⟨q1,q2⟩:=h2 L hLm
    have hnt:∀ d,nth d (ts.map trackC) i=trackC L:=fun d=>by
     unfold nth
     rw [List.getElem?_map,List.getElem?_eq_getElem hil,hL,getD_of_lt hil]
     rfl
    unfold awS
    simp only [go_sem,simprocAttr,decide_true,decide_false,hnt,List.length_map]
    refine ⟨⟨by omega,by omega⟩,by omega,icall_io (cCloneCl L q1) [] rfl (by omega) (by decide) ?_ rfl rfl rfl rfl ?_⟩
    ·simp only [go_sem,simprocAttr,decide_true,decide_false]
    ·simp only [go_sem,simprocAttr,decide_true,decide_false,List.getElem?_nil,List.length_map]
     obtain ⟨R,hR⟩:∃ R,R=(tRows (ts.map trackC)).set i [V.own 1]:=⟨_,rfl⟩
     have hRl:R.length=ts.length:=by rw [hR,rows_len]
     have hRn:∀ d,nthV d R i = [V.own 1]:=fun d=>by rw [hR];exact rows_nth trackC hil d _
     have hRo:rowOwn R=true:=by rw [hR];exact rowOwn_put _ _ (by rw [List.length_map];exact hil)
     rw [← hR]
     simp only [go_sem,simprocAttr,decide_true,decide_false,hRl,hRn]
     refine ⟨⟨by omega,by omega⟩,by omega,⟨by omega,by omega⟩,by omega,?_⟩
     refine awp_loop_f (fun (j:Nat) σ => setS 26 (vint j) (deadS [5,27,28,29,30,31,32,33,34,35,36,37,38,39,40,41,42,43,44,45] (cleanS σ))) (fun j=>j≤L.length) (fun j=>L.length - j) 0 (weak_self ?_) (by omega) ?_
     ·simp only [go_sem,simprocAttr,decide_true,decide_false,hRo]
      refine ⟨by simp,by simp,?_⟩
      rw [hR]
      exact wkVss_put (k:=1) _ _ (by rfl) _ _
     ·intro j hj
      refine aw_ok _ ?_
      simp only [go_sem,simprocAttr,decide_true,decide_false]
      refine ⟨fun hlt2=>?_,fun hge2=>?_⟩
      ·simp only [bxx] at hlt2
       have hjl:j<L.length:=by omega
       unfold awS
       simp only [go_sem,simprocAttr,decide_true,decide_false]
       refine drawC_of 17 .done rfl (by kernel_rfl) (by kernel_rfl) (by decide) ?_
       simp only [go_sem,simprocAttr,decide_true,decide_false,hRl,hRn,List.length_map]
       refine ⟨⟨by omega,by omega⟩,by omega,⟨by omega,by omega⟩,by omega,⟨by omega,by omega⟩,by omega,_,cClone _ (q2 _ (mem_getD hjl)),?_⟩
       simp only [go_sem,simprocAttr,decide_true,decide_false,hRl,hRn,List.length_map]
       rw [rows_sameG ClipR.c hjl (by rfl)]
       refine ⟨⟨by omega,by omega⟩,by omega,by kernel_rfl,j+1,weak_self ?_,by omega,by omega⟩
       simp only [go_sem,simprocAttr,decide_true,decide_false,hRo]
       refine ⟨⟨by simp,by simp,?_⟩,by rw [wrap1 (show j<9223372036854775807 by omega)];simp⟩
       rw [hR]
       exact wkVss_put (k:=1) _ _ (by rfl) _ _
      ·simp only [bxx] at hge2
       have:j=L.length:=by omega
       subst this
       unfold awS
       simp only [go_sem,simprocAttr,decide_true,decide_false]
       refine ⟨i+1,weak_of [(0,some 0)] ?_,by omega,by omega⟩
       simp only [go_sem,simprocAttr,decide_true,decide_false]
       have hk:lendC [(1,RowC L),(0, .row 27 1 (trackC []) R)] 6 (.own 1)=some (tclips L):=by
        simp only [go_sem,simprocAttr]<;>rfl
       have hfR:lendRs (lendC [(1,RowC L),(0, .row 27 1 (trackC []) R)] 6) R=some (ts.map trackC):=by
        conv=>lhs;rw [hR]
        rw [lendRs_put (fun a=>by simp only [lendC]) (by rw [← hR];exact hk),rowT_same trackC hil (by rw [← hL];rfl)]
       have hfr:reachRs (reach [(1,RowC L),(0, .row 27 1 (trackC []) R)] 8) R = [1]:=by
        conv=>lhs;rw [hR]
        rw [reachRs_put (fun x=>reach_t _ _ x) _ _ (by rw [List.length_map];exact hil)]
        simp only [go_sem,simprocAttr]
       rw [hfR,hfr,wrap1 (show i<9223372036854775807 by omega)]
       simp only [go_sem,simprocAttr,decide_true,decide_false]
       simp
   ·simp only [bxx] at hge
    unfold awS
    simp only [go_sem,simprocAttr,decide_true,decide_false]
theorem cCloneProj (p:ProjR) (hp:p.media.length≤65536) (hq:p.seqs.length≤65536) (hm:∀ m∈p.media,m.cues.length≤65536 ∧ ∀ c∈m.cues,c.lines.length≤65536)
  (hs:∀ s∈p.seqs,(s.cues.length≤65536 ∧ ∀ c∈s.cues,c.lines.length≤65536)∧(s.video.length≤65536 ∧ ∀ t∈s.video,t.length≤65536 ∧ ∀ c∈t,c.chan.length≤65536)∧(s.sound.length≤65536 ∧ ∀ t∈s.sound,t.length≤65536 ∧ ∀ c∈t,c.chan.length≤65536)) :
  CPure Tryz.prog 58 [vproj p] (vproj p):=by
 refine cpure_of Tryz.xen58 Tryz.func58 rfl Tryz.ntmps58 (by rw [Tryz.results58]) (aw_ok _ ?_)
 simp only [go_sem,simprocAttr,decide_true,decide_false]
 refine drawF_of [] [2,5] 9 .done rfl (by kernel_rfl) (by kernel_rfl) (by decide) ?_
 simp only [go_sem,simprocAttr,decide_true,decide_false]
 refine fcall (cCloneM p.media hp) rfl ?_
 simp only [go_sem,simprocAttr,decide_true,decide_false]
 refine fcall (cCloneSq p.seqs hq) rfl ?_
 simp only [go_sem,simprocAttr,decide_true,decide_false]
 refine ⟨by kernel_rfl,?_⟩
 refine awp_loop_f (fun (k:Nat) σ => setS 17 (vint k) (deadS [4,7,8,9,10,11,12,13,18,19,20,21,22,23,24,25,26,27,28,29,30,31,32] (cleanS σ))) (fun k=>k≤p.media.length) (fun k=>p.media.length - k) 0 (weak_self ?_) (Nat.zero_le _) ?_
 ·simp only [go_sem,simprocAttr,decide_true,decide_false]
  simp
 ·intro k hk
  refine aw_ok _ ?_
  simp only [go_sem,simprocAttr,decide_true,decide_false]
  refine ⟨fun hlt=>?_,fun hge=>?_⟩
  ·simp only [bxx] at hlt
   have hkl:k<p.media.length:=by omega
   unfold awS
   simp only [go_sem,simprocAttr,decide_true,decide_false]
   refine drawC_of 13 .done rfl (by kernel_rfl) (by kernel_rfl) (by decide) ?_
   simp only [go_sem,simprocAttr,decide_true,decide_false]
   refine ⟨⟨by omega,by omega⟩,by omega,_,cCloneCues _ (hm _ (mem_getD hkl)).1 (hm _ (mem_getD hkl)).2,?_⟩
   simp only [go_sem,simprocAttr,decide_true,decide_false]
   rw [med_same,rows_sameG MediumR.c hkl (by rfl)]
   refine ⟨⟨by omega,by omega⟩,by omega,by kernel_rfl,k+1,weak_self ?_,by omega,by omega⟩
   simp only [go_sem,simprocAttr,decide_true,decide_false]
   simp [wrap1 (show k<9223372036854775807 by omega)]
  ·simp only [bxx] at hge
   have:k=p.media.length:=by omega
   subst this
   unfold awS
   simp only [go_sem,simprocAttr,decide_true,decide_false]
   refine awp_loop_f (fun (k:Nat) σ => setS 36 (vint k) (deadS [4,5,6,18,19,20,21,22,23,24,25,26,27,28,29,30,31,32,37,38,39,40,41,42,43,44,45,46,47,48,49,50,51,52,53,54,55,56,57,58,59,60,61,62,63,64,65,66,67] (cleanS σ))) (fun k=>k≤p.seqs.length) (fun k=>p.seqs.length - k) 0 (weak_self ?_) (Nat.zero_le _) ?_
   ·simp only [go_sem,simprocAttr,decide_true,decide_false]
    simp
   ·intro k hk
    refine aw_ok _ ?_
    simp only [go_sem,simprocAttr,decide_true,decide_false]
    refine ⟨fun hlt=>?_,fun hge=>?_⟩
    ·simp only [bxx] at hlt
     have hkl:k<p.seqs.length:=by omega
     obtain ⟨q1,q2,q3⟩:=hs _ (mem_getD (d:=default) hkl)
     have hn2:=rows_nth SequenceR.c hkl
     have hl2:=rows_len SequenceR.c p.seqs k
     unfold awS
     simp only [go_sem,simprocAttr,decide_true,decide_false]
     refine ⟨⟨by omega,by omega⟩,?_⟩
     refine drawC_of 27 .done rfl (by kernel_rfl) (by kernel_rfl) (by decide) ?_
     simp only [go_sem,simprocAttr,decide_true,decide_false]
     refine ⟨hkl,_,cCloneTracks _ q2.1 q2.2,?_⟩
     simp only [go_sem,simprocAttr,decide_true,decide_false]
     refine ⟨hkl,_,cCloneTracks _ q3.1 q3.2,?_⟩
     simp only [go_sem,simprocAttr,decide_true,decide_false]
     refine ⟨hkl,_,cCloneCues _ q1.1 q1.2,?_⟩
     simp only [go_sem,simprocAttr,decide_true,decide_false,hn2,hl2,List.set_set]
     rw [rows_sameG SequenceR.c hkl (by rfl)]
     refine ⟨hkl,hkl,hkl,by kernel_rfl,k+1,weak_self ?_,by omega,by omega⟩
     simp only [go_sem,simprocAttr,decide_true,decide_false]
     simp [wrap1 (show k<9223372036854775807 by omega)]
    ·simp only [bxx] at hge
     have:k=p.seqs.length:=by omega
     subst this
     unfold awS
     simp only [go_sem,simprocAttr,decide_true,decide_false]
open Go.RowKit
set_option maxRecDepth 4000
def unus (s:StateR) (L:List ByteArray):List ByteArray:=L.filter fun n=>decide (status s n≠1)
def resStep (s:StateR) (a:ProjR×List ByteArray) (n:ByteArray):ProjR×List ByteArray :=
 if status s (proxyOf s n)=1∧(swapP a.1 n (proxyOf s n)).2=0 then ((swapP a.1 n (proxyOf s n)).1,a.2) else (a.1,a.2 ++ [n])
def resF (s:StateR) (p:ProjR) (K:List ByteArray):ProjR×List ByteArray:=K.foldl (resStep s) (p,[])
def resolveP (s:StateR) (p:ProjR) (name:ByteArray):ProjR×List ByteArray×Int :=
 if validSt s=false then (⟨[],[]⟩,[],1) else
 if (usesP p name).2≠0 then (⟨[],[]⟩,[],(usesP p name).2) else
 ((resF s p (sortN (unus s (usesP p name).1))).1,sortN (resF s p (sortN (unus s (usesP p name).1))).2,0)
def prxT (s:StateR) (L:List ByteArray):List Ent:=L.map fun n=>(.string n,false,[tstr (proxyOf s n)])
theorem prx_cons (s:StateR) (n:ByteArray) (L:List ByteArray):tEs (prxT s (n::L))=(.string n,vstr (proxyOf s n))::tEs (prxT s L):=rfl
theorem prx_keys (s:StateR) (L:List ByteArray):(tEs (prxT s L)).map (·.1)=L.map Value.string:=by
 unfold prxT tEs
 rw [List.map_map,List.map_map]
 rfl
theorem keyB_str (a b:ByteArray):keyB (.string a) (.string b)=decide (a=b):=rfl
theorem prx_put (s:StateR) {n:ByteArray}:∀ {L:List ByteArray},n ∉ L→putE (.string n) (vstr (proxyOf s n)) (tEs (prxT s L))=tEs (prxT s (L ++ [n]))
 | [],_=>rfl
 | a::L,h=>by
  rw [List.mem_cons,not_or] at h
  have ih:=prx_put s (L:=L) h.2
  rw [prx_cons,List.cons_append,prx_cons, ← ih]
  show (if keyB (.string n) (.string a)=true then _ else _)=_
  rw [if_neg (show ¬ keyB (.string n) (.string a)=true by rw [keyB_str,decide_eq_true_eq];exact h.1)]
theorem prx_look (s:StateR) {n:ByteArray}:∀ {L:List ByteArray},n∈L→lookE (.string n) (tEs (prxT s L))=some (vstr (proxyOf s n))
 | [],h=>by cases h
 | a::L,h=>by
  rw [prx_cons]
  show (if keyB (.string n) (.string a)=true then _ else _)=_
  by_cases e:n=a
  ·subst e
   rw [if_pos (show keyB (.string n) (.string n)=true by rw [keyB_str,decide_eq_true_eq])]
  ·rw [if_neg (show ¬ keyB (.string n) (.string a)=true by rw [keyB_str,decide_eq_true_eq];exact e)]
   exact prx_look s (by rcases List.mem_cons.1 h with h | h;exact absurd h e;exact h)
theorem prx_rmF (s:StateR) {n:ByteArray}:∀ {L:List ByteArray},L.Nodup→rmE (.string n) (tEs (prxT s L))=tEs (prxT s (L.filter fun x=>decide (x≠n)))
 | [],_=>rfl
 | a::L,h=>by
  rw [List.nodup_cons] at h
  have ih:=prx_rmF s (n:=n) h.2
  rw [prx_cons]
  show (if keyB (.string n) (.string a)=true then _ else _)=_
  by_cases e:n=a
  ·subst e
   rw [if_pos (show keyB (.string n) (.string n)=true by rw [keyB_str,decide_eq_true_eq]),List.filter_cons_of_neg (by simp)]
   congr 2
   refine (List.filter_eq_self.2 fun x hx=>?_).symm
   rw [decide_eq_true_eq]
   exact fun h1=>h.1 (h1 ▸ hx)
  ·rw [if_neg (show ¬ keyB (.string n) (.string a)=true by rw [keyB_str,decide_eq_true_eq];exact e),List.filter_cons_of_pos (by simpa using fun h1=>e h1.symm),ih]
   rfl
theorem prx_kinds (s:StateR) (L:List ByteArray):kindsB .string (tEs (prxT s L))=true:=by
 induction L with
 | nil=>rfl
 | cons a L ih =>
  rw [prx_cons]
  simp only [kindsB,ih,Bool.and_true]
  rfl
theorem uses_names {p:ProjR} (h:p.fit) {name:ByteArray} (h0:(usesP p name).2=0):FilmOk p∧(usesP p name).1.Nodup∧(∀ x∈(usesP p name).1,x∈p.media.map MediumR.name∧x.size≤maxLen)∧(usesP p name).1.length≤16:=by
 unfold usesP at h0 ⊢
 by_cases hv:validP p≠0
 ·rw [if_pos hv] at h0
  exact absurd h0 hv
 ·rw [if_neg hv] at h0 ⊢
  have hv0:validP p=0:=by omega
  have hok:=filmOk_of h hv0
  cases hs:seqOf p.seqs name with
  | none=>rw [hs] at h0;simp at h0
  | some q =>
   simp only
   have hcm:=coll_med hok 5 name ([],[]) (fun x hx=>by cases hx)
   have hsm:=valid_small hv0
   have hm:∀ x∈sortN (once (collF p 5 name ([],[])).1),x∈p.media.map MediumR.name∧x.size≤maxLen:=fun x hx=>med_name hok (hcm x (mem_once.1 ((sortN_perm _).mem_iff.1 hx)))
   refine ⟨hok,(sortN_perm _).nodup_iff.2 (once_nodup _),hm,?_⟩
   have:=nodup_le ((sortN_perm _).nodup_iff.2 (once_nodup (collF p 5 name ([],[])).1)) fun x hx=>(hm x hx).1
   rw [List.length_map] at this
   omega
theorem swapP_fit {p:ProjR} (h:p.fit) (f g:ByteArray):(swapP p f g).1.fit:=by
 have z:(⟨[],[]⟩:ProjR).fit:=⟨fun m hm=>(by cases hm),fun s hs=>(by cases hs)⟩
 unfold swapP
 split
 ·exact z
 ·split
  ·split
   ·exact swapT_fit h f g
   ·exact z
  ·exact z
theorem resF_snoc (s:StateR) (p:ProjR) {K:List ByteArray} {k:Nat} (h:k<K.length):resF s p (K.take (k+1))=resStep s (resF s p (K.take k)) (K.getD k default):=by
 unfold resF
 rw [take_snoc h,List.foldl_append]
 rfl
theorem resF_fit {s:StateR} {p:ProjR} (h:p.fit) (K:List ByteArray):∀ k,k≤K.length→(resF s p (K.take k)).1.fit
 | 0,_=>h
 | k+1,hk=>by
  rw [resF_snoc s p (by omega)]
  have ih:=resF_fit (s:=s) h K k (by omega)
  unfold resStep
  split
  ·exact swapP_fit ih _ _
  ·exact ih
theorem resF_sub (s:StateR) (p:ProjR) (K:List ByteArray):∀ k,k≤K.length → ∀ x∈(resF s p (K.take k)).2,x∈K.take k
 | 0,_=>fun x hx=>by cases hx
 | k+1,hk=>fun x hx=>by
  rw [resF_snoc s p (by omega)] at hx
  rw [take_snoc (by omega),List.mem_append]
  unfold resStep at hx
  split at hx
  ·exact .inl (resF_sub s p K k (by omega) x hx)
  ·rcases List.mem_append.1 hx with hx | hx
   ·exact .inl (resF_sub s p K k (by omega) x hx)
   ·exact .inr hx
theorem nodup_at {α : Type} [Inhabited α] {K:List α} (h:K.Nodup) {k:Nat} (hk:k<K.length):K.getD k default ∉ K.take k:=by
 intro hm
 obtain ⟨i,hi,e⟩:=List.getElem_of_mem hm
 rw [List.length_take] at hi
 rw [List.getElem_take,getD_of_lt hk] at e
 have:=(List.getElem_inj h).1 e
 omega
theorem unus_take (s:StateR) {L:List ByteArray} {k:Nat} (h:k<L.length):unus s (L.take (k+1))=if status s (L.getD k default)≠1 then unus s (L.take k) ++ [L.getD k default] else unus s (L.take k):=by
 unfold unus
 rw [take_snoc h,List.filter_append]
 by_cases e:status s (L.getD k default)=1
 ·rw [if_neg (by simpa using e),List.filter_cons_of_neg (by simpa using e)]
  simp
 ·rw [if_pos e,List.filter_cons_of_pos (by simpa using e)]
  rfl
def leftB (s:StateR) (p:ProjR) (K:List ByteArray) (k:Nat) (n:ByteArray):Bool := !memB n (K.take k)||memB n (resF s p (K.take k)).2
def left (s:StateR) (p:ProjR) (U K:List ByteArray) (k:Nat):List ByteArray:=U.filter (leftB s p K k)
theorem leftB_iff {s:StateR} {p:ProjR} {K:List ByteArray} {k:Nat} {n:ByteArray}:leftB s p K k n=true ↔ (n ∉ K.take k∨n∈(resF s p (K.take k)).2):=by
 unfold leftB
 rw [Bool.or_eq_true,memB_iff,Bool.not_eq_true', ← Bool.not_eq_true,memB_iff]
theorem left_zero (s:StateR) (p:ProjR) (U K:List ByteArray):left s p U K 0=U:=by
 unfold left
 refine List.filter_eq_self.2 fun x _=>?_
 exact leftB_iff.2 (.inl (by simp))
theorem left_mem {s:StateR} {p:ProjR} {U K:List ByteArray} {k:Nat} (hK:K.Nodup) (hU:∀ x∈K,x∈U) (hk:k<K.length):K.getD k default∈left s p U K k:=by
 unfold left
 exact List.mem_filter.2 ⟨hU _ (mem_getD hk),leftB_iff.2 (.inl (nodup_at hK hk))⟩
theorem left_same {s:StateR} {p:ProjR} {U K:List ByteArray} {k:Nat} (hK:K.Nodup) (hk:k<K.length) (h:resF s p (K.take (k+1))=((resF s p (K.take k)).1,(resF s p (K.take k)).2 ++ [K.getD k default])):left s p U K (k+1)=left s p U K k:=by
 unfold left
 refine List.filter_congr fun x _=>?_
 rw [Bool.eq_iff_iff,leftB_iff,leftB_iff,h,take_snoc hk]
 simp only [List.mem_append,List.mem_singleton,not_or]
 by_cases e:x=K.getD k default
 ·rw [e]
  simp only [not_true_eq_false,and_false,or_true,false_or,true_iff]
  exact .inl (nodup_at hK hk)
 ·simp only [e,not_false_eq_true,and_true,or_false]
theorem left_less {s:StateR} {p:ProjR} {U K:List ByteArray} {k:Nat} (hK:K.Nodup) (hk:k<K.length) (h:(resF s p (K.take (k+1))).2=(resF s p (K.take k)).2):left s p U K (k+1)=(left s p U K k).filter fun x=>decide (x≠K.getD k default):=by
 unfold left
 rw [List.filter_filter]
 refine List.filter_congr fun x _=>?_
 rw [Bool.eq_iff_iff,Bool.and_eq_true,decide_eq_true_eq,leftB_iff,leftB_iff,h,take_snoc hk]
 simp only [List.mem_append,List.mem_singleton,not_or]
 have hn:=nodup_at hK hk
 have hsub:=resF_sub s p K k (by omega)
 by_cases e:x=K.getD k default
 ·rw [e]
  simp only [not_true_eq_false,and_false,false_or,ne_eq,false_and,iff_false]
  exact fun hm=>hn (hsub _ hm)
 ·simp only [e,not_false_eq_true,and_true,ne_eq,true_and]
theorem left_end {s:StateR} {p:ProjR} {U K:List ByteArray} (hU:U.Nodup) (hK:K.Nodup) (hm:∀ x,x∈K ↔ x∈U) (hd:(resF s p K).2.Nodup):sortN (left s p U K K.length)=sortN (resF s p K).2:=by
 refine sortN_of_perm ?_
 unfold left
 refine (List.perm_ext_iff_of_nodup (hU.filter _) hd).2 fun x=>?_
 rw [List.mem_filter,leftB_iff,List.take_length]
 have hsub:=resF_sub s p K K.length (Nat.le_refl _) x
 rw [List.take_length] at hsub
 constructor
 ·rintro ⟨h1,h2 | h2⟩
  ·exact absurd ((hm x).2 h1) h2
  ·exact h2
 ·exact fun h=>⟨(hm x).1 (hsub h), .inr h⟩
theorem resF_nodup {s:StateR} {p:ProjR} {K:List ByteArray} (hK:K.Nodup):∀ k,k≤K.length→(resF s p (K.take k)).2.Nodup
 | 0,_=>List.nodup_nil
 | k+1,hk=>by
  rw [resF_snoc s p (by omega)]
  have ih:=resF_nodup (s:=s) (p:=p) hK k (by omega)
  unfold resStep
  split
  ·exact ih
  ·refine List.nodup_append.2 ⟨ih,by simp,fun a ha b hb=>?_⟩
   simp only [List.mem_cons,List.not_mem_nil,or_false] at hb
   subst hb
   exact fun e=>nodup_at hK (show k<K.length by omega) (e ▸ resF_sub s p K k (by omega) a ha)
open Go.RowKit
set_option maxRecDepth 4000
abbrev vresolve (r:ProjR×List ByteArray×Int):V := .tup [vproj r.1, .t (tstrs r.2.1),vint r.2.2]
theorem pureW_rnil (k:Int) {h:Heap}:pureW (vresolve (⟨[],[]⟩,[],k)) (.tup [.agg [.t (.lit (.slice none 0 0)), .t (.lit (.slice none 0 0))], .t (.lit (.slice none 0 0)),vint k]) h :=
 pureW_as (r' := .tup [.agg [.t (.lit (.slice none 0 0)), .t (.lit (.slice none 0 0))], .t (.lit (.slice none 0 0)),vint k]) rfl rfl (as_impTup (by exact ⟨as_impAgg (by exact ⟨as_nilL,as_nilL,trivial⟩),as_nilL,as_refl,trivial⟩))
set_option maxHeartbeats 8000000 in
theorem cResolve (s:StateR) (p:ProjR) (name:ByteArray) (hf:s.files.length≤maxLen) (hl:s.links.length≤maxLen) (h:p.fit):CPure Tryz.prog 20 [vstate s,vproj p,vstr name] (vresolve (resolveP s p name)):=by
 refine cpure_ofW Tryz.xen20 Tryz.func20 rfl Tryz.ntmps20 (by rw [Tryz.results20]) (aw_ok _ ?_)
 simp only [go_sem,simprocAttr,decide_true,decide_false]
 refine ⟨_,cValidS s hf hl,?_⟩
 simp only [go_sem,simprocAttr,decide_true,decide_false]
 refine ⟨fun hv=>?_,fun hv=>?_⟩
 ·have e:resolveP s p name=(⟨[],[]⟩,[],1):=by unfold resolveP;rw [if_pos (nt hv)]
  rw [e]
  unfold awS
  simp only [go_sem,simprocAttr,decide_true,decide_false]
  exact pureW_rnil _
 ·have hv':=nf hv
  unfold awS
  simp only [go_sem,simprocAttr,decide_true,decide_false]
  refine ⟨_,cUsesP p h name,?_⟩
  simp only [go_sem,simprocAttr,decide_true,decide_false]
  obtain ⟨u,hu⟩:∃ u,u=usesP p name:=⟨_,rfl⟩
  rw [← hu]
  refine brW (b:=decide (u.2≠0)) ?_ ⟨fun h0=>?_,fun h0=>?_⟩
  ·rw [Bool.eq_iff_iff,decide_eq_true_eq,bne_iff_ne]
  ·have h1:=of_decide_eq_true h0
   have e:resolveP s p name=(⟨[],[]⟩,[],u.2):=by unfold resolveP;rw [if_neg (by rw [hv'];decide), ← hu,if_pos h1]
   rw [e]
   unfold awS
   simp only [go_sem,simprocAttr,decide_true,decide_false]
   exact pureW_rnil _
  ·have h1:u.2=0:=by simpa using h0
   obtain ⟨hok,hnd,hnm,hl16⟩:=uses_names (p:=p) (name:=name) h (by rw [← hu];exact h1)
   rw [← hu] at hnd hnm hl16
   have e:resolveP s p name=((resF s p (sortN (unus s u.1))).1,sortN (resF s p (sortN (unus s u.1))).2,0):=by unfold resolveP;rw [if_neg (by rw [hv'];decide), ← hu,if_neg (by omega)]
   rw [e]
   obtain ⟨N,hN⟩:∃ N,N=u.1:=⟨_,rfl⟩
   rw [← hN] at hnd hnm hl16 ⊢
   unfold awS
   simp only [go_sem,simprocAttr,decide_true,decide_false]
   refine awp_loop_f (fun (k:Nat) σ => setB 3 (.map (tEs (prxT s (unus s (N.take k))))) (setS 37 (vint k) (deadS [13,38,39,40,41,42,43,44,45,46,47,48,49] (cleanS σ)))) (fun k=>k≤N.length) (fun k=>N.length - k) 0 (weak_self ?_) (Nat.zero_le _) ?_
   ·simp only [go_sem,simprocAttr,decide_true,decide_false]
    exact ⟨by simp,rfl,by simp,by simp,by simp⟩
   ·intro k hk
    refine aw_ok _ ?_
    simp only [go_sem,simprocAttr,decide_true,decide_false]
    refine ⟨fun hlt=>?_,fun hge=>?_⟩
    ·simp only [bxx] at hlt
     have hkl:k<N.length:=by omega
     obtain ⟨n,hn⟩:∃ n,n=N.getD k default:=⟨_,rfl⟩
     have hT:=unus_take s hkl
     rw [← hn] at hT
     have hni:n ∉ unus s (N.take k):=fun hm=>by
      unfold unus at hm
      rw [hn] at hm
      exact nodup_at hnd hkl (List.mem_filter.1 hm).1
     unfold awS
     simp only [go_sem,simprocAttr,decide_true,decide_false]
     rw [show N.getD k ⟨#[]⟩=n from hn.symm]
     refine ⟨⟨by omega,by omega⟩,_,cStatus s n hf hl,?_⟩
     simp only [go_sem,simprocAttr,decide_true,decide_false]
     refine brW (b:=decide (status s n≠1)) ?_ ⟨fun h2=>?_,fun h2=>?_⟩
     ·rw [Bool.eq_iff_iff,decide_eq_true_eq,bne_iff_ne]
     ·have h3:=of_decide_eq_true h2
      rw [if_pos h3] at hT
      unfold awS
      simp only [go_sem,simprocAttr,decide_true,decide_false]
      refine ⟨_,cProxy s n hl,?_⟩
      simp only [go_sem,simprocAttr,decide_true,decide_false,prx_kinds]
      rw [prx_put s hni, ← hT]
      refine ⟨k+1,weak_self ?_,by omega,by omega⟩
      simp only [go_sem,simprocAttr,decide_true,decide_false]
      rw [wrap1 (show k<9223372036854775807 by omega)]
      simp
     ·have h3 : ¬ status s n≠1:=by simpa using h2
      rw [if_neg h3] at hT
      unfold awS
      simp only [go_sem,simprocAttr,decide_true,decide_false]
      refine ⟨k+1,weak_self ?_,by omega,by omega⟩
      simp only [go_sem,simprocAttr,decide_true,decide_false]
      rw [hT,wrap1 (show k<9223372036854775807 by omega)]
      simp
    ·simp only [bxx] at hge
     have:k=N.length:=by omega
     subst this
     rw [List.take_length]
     unfold awS
     simp only [go_sem,simprocAttr,decide_true,decide_false]
     have hlm:=med_lens hok
     have hls:=seq_lens hok
     have hsm:=hok.small
     unfold smallB at hsm
     simp only [Bool.and_eq_true,decide_eq_true_eq] at hsm
     refine ⟨_,cCloneProj p (by omega) (by omega) hlm hls,?_⟩
     simp only [go_sem,simprocAttr,decide_true,decide_false]
     refine icall_of Tryz.xen60 Tryz.func60 rfl Tryz.ntmps60 (by rw [Tryz.results60]) (aw_ok _ ?_)
     simp only [go_sem,simprocAttr,decide_true,decide_false]
     have hun:(unus s N).Nodup:=hnd.filter _
     have huz:∀ x∈unus s N,x.size≤maxLen:=fun x hx=>(hnm x (List.mem_filter.1 hx).1).2
     have hul:(unus s N).length≤16:=Nat.le_trans (List.length_filter_le _ _) hl16
     refine lcall_io Tryz.xen59 (icall_io (cioSortedS (tEs (prxT s (unus s N))) (unus s N) (strC ⟨#[]⟩) (prx_keys s _) hun huz (by omega)) [5,3] rfl (by omega) (by decide) ?_ rfl rfl rfl rfl ?_)
     ·simp only [go_sem,simprocAttr,decide_true,decide_false,(ren_tEs id _).2,(ren_tEs _ _).1]
     ·simp only [go_sem,simprocAttr,decide_true,decide_false,(ren_tEs id _).2,(ren_tEs _ _).1]
      obtain ⟨U,hUe⟩:∃ U,U=unus s N:=⟨_,rfl⟩
      obtain ⟨K,hKe⟩:∃ K,K=sortN U:=⟨_,rfl⟩
      have hUn:U.Nodup:=by rw [hUe];exact hun
      have hUz:∀ x∈U,x.size≤maxLen:=by rw [hUe];exact huz
      have hUl:U.length≤16:=by rw [hUe];exact hul
      have hKm:∀ x,x∈K ↔ x∈U:=fun x=>by rw [hKe];exact (sortN_perm _).mem_iff
      have hKn:K.Nodup:=by rw [hKe,(sortN_perm _).nodup_iff,hUe];exact hun
      have hKl:K.length≤16:=by rw [hKe,(sortN_perm _).length_eq,hUe];exact hul
      have hKk:(K.map fun k=>[T.lit (Value.string k)])=K.map strC:=rfl
      rw [← hUe, ← hKe] at *
      refine awp_loop_f (fun (k:Nat) σ => setB 4 (.box [.t (tmedia (resF s p (K.take k)).1.media), .t (tseqs (resF s p (K.take k)).1.seqs)]) (setB 3 (.map (tEs (prxT s (left s p U K k)))) (setS 57 (vint k) (deadS [16,17,18,19,53,54,58,59,60,61,62,63,64,65,66,67,68,69,70,71,72,73,74,75,76,77,78,79,80] (cleanS σ))))) (fun k=>k≤K.length) (fun k=>K.length - k) 0 (weak_self ?_) (Nat.zero_le _) ?_
      ·simp only [go_sem,simprocAttr,decide_true,decide_false]
       rw [left_zero]
       refine ⟨?_,?_,?_,?_⟩<;>first | rfl | exact ⟨rfl,rfl⟩ | (simp;done) | (simp;exact ⟨rfl,rfl⟩)
      ·intro k hk
       refine awp_seq (aw_ok _ ?_)
       simp only [go_sem,simprocAttr,decide_true,decide_false]
       refine awp_seq (aw_ok _ ?_)
       simp only [go_sem,simprocAttr,decide_true,decide_false]
       refine ⟨fun hlt=>?_,fun hge=>?_⟩
       ·simp only [bxx] at hlt
        have hkl:k<K.length:=by omega
        obtain ⟨n,hn⟩:∃ n,n=K.getD k default:=⟨_,rfl⟩
        have hin:=left_mem (s:=s) (p:=p) (U:=U) hKn (fun x hx=>(hKm x).1 hx) hkl
        have hR:=resF_snoc s p hkl
        have hfit:=resF_fit (s:=s) h K k hk
        rw [← hn] at hin hR
        have hnK:nth (strC ⟨#[]⟩) (K.map fun k=>[T.lit (Value.string k)]) k = [tstr n]:=by rw [hn];exact nth_map strC ⟨#[]⟩ K k
        unfold awS
        simp only [go_sem,simprocAttr,decide_true,decide_false]
        refine awp_seq (awp_block (awp_seq (aw_ok _ ?_)))
        simp only [go_sem,simprocAttr,decide_true,decide_false,hnK]
        refine ⟨⟨by omega,by omega⟩,awp_seq (aw_ok _ ?_)⟩
        simp only [go_sem,simprocAttr,decide_true,decide_false,prx_kinds,prx_look s hin]
        refine awp_seq (aw_ok _ ?_)
        simp only [go_sem,simprocAttr,decide_true,decide_false]
        refine ⟨_,cStatus s (proxyOf s n) hf hl,?_⟩
        simp only [go_sem,simprocAttr,decide_true,decide_false]
        unfold resStep at hR
        refine brW (b:=decide (status s (proxyOf s n)≠1)) ?_ ⟨fun h2=>?_,fun h2=>?_⟩
        ·rw [Bool.eq_iff_iff,decide_eq_true_eq,bne_iff_ne]
        ·have h3:=of_decide_eq_true h2
         rw [if_neg (fun h=>h3 h.1)] at hR
         unfold awS
         simp only [go_sem,simprocAttr,decide_true,decide_false]
         refine aw_ok _ ?_
         simp only [go_sem,simprocAttr,decide_true,decide_false]
         refine ⟨k+1,weak_self ?_,by omega,by omega⟩
         simp only [go_sem,simprocAttr,decide_true,decide_false]
         rw [wrap1 (show k<9223372036854775807 by omega),left_same hKn hkl (by rw [hR,hn]),hR]
         simp
        ·have h3:status s (proxyOf s n)=1:=by simpa using h2
         unfold awS
         simp only [go_sem,simprocAttr,decide_true,decide_false]
         refine awp_seq (aw_ok _ ?_)
         simp only [go_sem,simprocAttr,decide_true,decide_false]
         refine ⟨_,cSwapP _ hfit n (proxyOf s n),?_⟩
         simp only [go_sem,simprocAttr,decide_true,decide_false]
         obtain ⟨r,hr⟩:∃ r,r=swapP (resF s p (K.take k)).1 n (proxyOf s n):=⟨_,rfl⟩
         rw [← hr] at hR ⊢
         refine awp_seq (aw_ok _ ?_)
         simp only [go_sem,simprocAttr,decide_true,decide_false]
         refine awp_cond ?_
         simp only [go_sem,simprocAttr,decide_true,decide_false]
         refine brW (b:=decide (r.2=0)) ?_ ⟨fun h4=>?_,fun h4=>?_⟩
         ·rw [Bool.eq_iff_iff,decide_eq_true_eq,beq_iff_eq]
         ·have h5:=of_decide_eq_true h4
          rw [if_pos ⟨h3,h5⟩] at hR
          refine awp_seq (aw_ok _ ?_)
          simp only [go_sem,simprocAttr,decide_true,decide_false]
          refine awp_region_part 2 ?_
          simp only [go_sem,simprocAttr,decide_true,decide_false,List.take_succ_cons,List.take_zero,List.drop_succ_cons,List.drop_zero,List.take,List.drop]
          refine semS_del rfl rfl rfl rfl ?_
          simp only [go_sem,simprocAttr,decide_true,decide_false,prx_kinds]
          refine semS_steps ?_
          simp only [go_sem,simprocAttr,decide_true,decide_false]
          refine aw_ok _ ?_
          simp only [go_sem,simprocAttr,decide_true,decide_false]
          refine ⟨k+1,weak_self ?_,by omega,by omega⟩
          simp only [go_sem,simprocAttr,decide_true,decide_false]
          have hln:(left s p U K k).Nodup:=hUn.filter _
          rw [wrap1 (show k<9223372036854775807 by omega),prx_rmF s hln,left_less hKn hkl (by rw [hR]),hR, ← hn]
          simp
         ·have h5 : ¬ r.2=0:=by simpa using h4
          rw [if_neg (fun h=>h5 h.2)] at hR
          refine aw_ok _ ?_
          simp only [go_sem,simprocAttr,decide_true,decide_false]
          refine aw_ok _ ?_
          simp only [go_sem,simprocAttr,decide_true,decide_false]
          refine ⟨k+1,weak_self ?_,by omega,by omega⟩
          simp only [go_sem,simprocAttr,decide_true,decide_false]
          rw [wrap1 (show k<9223372036854775807 by omega),left_same hKn hkl (by rw [hR,hn]),hR]
          simp
       ·simp only [bxx] at hge
        have:k=K.length:=by omega
        subst this
        unfold awS
        simp only [go_sem,simprocAttr,decide_true,decide_false]
        rw [List.take_length]
        refine drawI_of (.alt (.step 0 (.step 1 (.step 2 (.step 3 (.step 4 (.step 5 (.step 6 .done))))))) (.step 1 (.alt (.step 0 (.step 2 (.step 3 (.step 4 (.step 5 (.step 6 .done)))))) (.step 2 (.alt (.step 0 (.step 3 (.step 4 (.step 5 (.step 6 .done))))) (.step 3 (.step 0 (.step 4 (.step 5 (.step 6 .done)))))))))) rfl (by kernel_rfl) ?_
        have hMe:=left_end (s:=s) (p:=p) hUn hKn hKm (by have:=resF_nodup (s:=s) (p:=p) hKn K.length (Nat.le_refl _);rw [List.take_length] at this;exact this)
        have hMn:(left s p U K K.length).Nodup:=hUn.filter _
        have hMz:∀ x∈left s p U K K.length,x.size≤maxLen:=fun x hx=>hUz x (List.mem_filter.1 hx).1
        have hMl:(left s p U K K.length).length≤16:=Nat.le_trans (List.length_filter_le _ _) hUl
        obtain ⟨M,hM⟩:∃ M,M=left s p U K K.length:=⟨_,rfl⟩
        rw [← hM] at hMe hMn hMz hMl ⊢
        simp only [go_sem,simprocAttr,decide_true,decide_false]
        refine ⟨?_,?_,?_⟩
        ·refine icall_of Tryz.xen60 Tryz.func60 rfl Tryz.ntmps60 (by rw [Tryz.results60]) (aw_ok _ ?_)
         simp only [go_sem,simprocAttr,decide_true,decide_false]
         refine lcall_io Tryz.xen59 (icall_io (cioSortedS (tEs (prxT s M)) M (strC ⟨#[]⟩) (prx_keys s _) hMn hMz (by omega)) [6,3] rfl (by omega) (by decide) ?_ rfl rfl rfl rfl ?_)
         ·simp only [go_sem,simprocAttr,decide_true,decide_false,(ren_tEs id _).2,(ren_tEs _ _).1]
         ·simp only [go_sem,simprocAttr,decide_true,decide_false,(ren_tEs id _).2,(ren_tEs _ _).1]
          rw [hMe]
          exact pureW_self rfl rfl
        ·refine icall_of Tryz.xen60 Tryz.func60 rfl Tryz.ntmps60 (by rw [Tryz.results60]) (aw_ok _ ?_)
         simp only [go_sem,simprocAttr,decide_true,decide_false]
         refine lcall_io Tryz.xen59 (icall_io (cioSortedS (tEs (prxT s M)) M (strC ⟨#[]⟩) (prx_keys s _) hMn hMz (by omega)) [6,3] rfl (by omega) (by decide) ?_ rfl rfl rfl rfl ?_)
         ·simp only [go_sem,simprocAttr,decide_true,decide_false,(ren_tEs id _).2,(ren_tEs _ _).1]
         ·simp only [go_sem,simprocAttr,decide_true,decide_false,(ren_tEs id _).2,(ren_tEs _ _).1]
          rw [hMe]
          exact pureW_self rfl rfl
        ·refine icall_of Tryz.xen60 Tryz.func60 rfl Tryz.ntmps60 (by rw [Tryz.results60]) (aw_ok _ ?_)
         simp only [go_sem,simprocAttr,decide_true,decide_false]
         refine ⟨?_,?_⟩
         ·refine lcall_io Tryz.xen59 (icall_io (cioSortedS (tEs (prxT s M)) M (strC ⟨#[]⟩) (prx_keys s _) hMn hMz (by omega)) [6,3] rfl (by omega) (by decide) ?_ rfl rfl rfl rfl ?_)
          ·simp only [go_sem,simprocAttr,decide_true,decide_false,(ren_tEs id _).2,(ren_tEs _ _).1]
          ·simp only [go_sem,simprocAttr,decide_true,decide_false,(ren_tEs id _).2,(ren_tEs _ _).1]
           rw [hMe]
           exact pureW_self rfl rfl
         ·refine lcall_io Tryz.xen59 (icall_io (cioSortedS (tEs (prxT s M)) M (strC ⟨#[]⟩) (prx_keys s _) hMn hMz (by omega)) [6,3] rfl (by omega) (by decide) ?_ rfl rfl rfl rfl ?_)
          ·simp only [go_sem,simprocAttr,decide_true,decide_false,(ren_tEs id _).2,(ren_tEs _ _).1]
          ·simp only [go_sem,simprocAttr,decide_true,decide_false,(ren_tEs id _).2,(ren_tEs _ _).1]
           rw [hMe]
           exact pureW_self rfl rfl
end Go.Proofs.YtbfnemkngoaeeaaGreat
