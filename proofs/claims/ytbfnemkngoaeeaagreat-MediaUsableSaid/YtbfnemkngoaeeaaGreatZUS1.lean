/- Proved here: The media that a sequence needs, as the program collects them, for use in the proofs of the given statements; conditions stand in each theorem. -/
import Derived.Test.YtbfnemkngoaeeaaGreatZU
import Derived.Test.YtbfnemkngoaeeaaGreatYJ
import Derived.Test.YtbfnemkngoaeeaaGreatY6
set_option linter.unusedSimpArgs false
set_option linter.unusedVariables false
set_option linter.unusedSectionVars false
set_option linter.unnecessarySimpa false
namespace Go.Proofs.YtbfnemkngoaeeaaGreat
open Go.RowKit
set_option maxRecDepth 4000
def shown (p:ProjR) (n:ByteArray) (kind:Int):List ByteArray:=namedS ((seqOf p.seqs n).getD default) kind
def memB (n:ByteArray) (l:List ByteArray):Bool:=(lastOf (fun m:ByteArray=>m) n l).isSome
theorem memB_iff {n:ByteArray} {l:List ByteArray}:memB n l=true ↔ n∈l:=by
 unfold memB
 cases e:lastOf (fun m:ByteArray=>m) n l with
 | none =>
  have:=lastOf_none.1 e
  exact ⟨fun h=>(by cases h),fun h=>absurd rfl (this n h)⟩
 | some y =>
  obtain ⟨h1,h2⟩:=lastOf_mem e
  exact ⟨fun _=>by rw [← h2];exact h1,fun _=>rfl⟩
def collF (p:ProjR):Nat→ByteArray→List ByteArray×List ByteArray→List ByteArray×List ByteArray
 | 0,_,r=>r
 | f+1,n,r=>if memB n r.2=true then r else (shown p n 2).foldl (fun r x=>collF p f x r) (r.1++shown p n 1,r.2 ++ [n])
theorem look_N (n:ByteArray) (l:List ByteArray):lookT (.string n) (setN l)=if memB n l=true then some (vbool true) else none:=by
 unfold setN memB
 rw [lookT_mapOf]
 cases lastOf (fun m:ByteArray=>m) n l<;>rfl
theorem str_nth0 {l:List ByteArray} {k:Nat} (h:k<l.length) (d:List T):nth d (l.map strC) k = [tstr (l.getD k default)]:=by
 unfold nth
 rw [List.getElem?_map,List.getElem?_eq_getElem h,getD_of_lt h]
 rfl
theorem shown_of {p:ProjR} (h:FilmOk p):ShownOk p :=
 shown_ok h.small (by rw [List.all_eq_true.2 h.med,List.all_eq_true.2 h.seq];rfl) (List.all_eq_true.2 h.compl)
theorem named_len {s:SequenceR} (h:SeqOk s) (kind:Int):(namedS s kind).length≤1000000:=by
 unfold namedS
 rw [(sortN_perm _).length_eq]
 exact Nat.le_trans (once_length_le _) (h.hn kind)
set_option maxHeartbeats 4000000 in
theorem cCollect (p:ProjR) (hp:ShownOk p):∀ (f:Nat) (n:ByteArray) (r:List ByteArray×List ByteArray),(seqOf p.seqs n).isSome=true → ¬ Wk p f n →
  CIO Tryz.prog 72 2 [(1, .map (tEs (setN r.2))),(0, .map (tEs (setN r.1)))] [vcat p,vstr n, .own 0, .own 1] (.tup []) [(1, .map (tEs (setN (collF p f n r).2))),(0, .map (tEs (setN (collF p f n r).1)))] 2
 | 0,n,r,_,h=>absurd trivial h
 | f+1,n,r,hs,hk=>by
  obtain ⟨s,hsn⟩:=Option.isSome_iff_exists.1 hs
  obtain ⟨hsm,hsname⟩:=lastOf_mem hsn
  have hso:=hp.ok s hsm
  have ih:=cCollect p hp f
  have e1:∀ kind,shown p n kind=namedS s kind:=fun kind=>by unfold shown;rw [hsn];rfl
  have hin:inner p n=namedS s 2:=by unfold inner;rw [hsn];rfl
  have c1:=cNamed p n 1 s hsn hso.hv hso.hs hso.hm (hso.hz 1) (hso.hn 1)
  have c2:=cNamed p n 2 s hsn hso.hv hso.hs hso.hm (hso.hz 2) (hso.hn 2)
  have l1:=named_len hso 1
  have l2:=named_len hso 2
  have hth:∀ x∈namedS s 2,(seqOf p.seqs x).isSome=true ∧ ¬ Wk p f x:=fun x hx=>⟨hp.there s hsm x (mem_namedS.1 hx),wk_inner hk (by rw [hin];exact hx)⟩
  refine cio_of Tryz.xen72 Tryz.func72 rfl Tryz.ntmps72 (by rw [Tryz.results72]) (aw_ok _ ?_)
  cases hm:memB n r.2 with
  | true =>
   have e0:collF p (f+1) n r=r:=by unfold collF;rw [if_pos hm]
   rw [e0]
   simp only [go_sem,simprocAttr,look_N,hm]
   refine weak_of [(1,some 1),(0,some 0)] ?_
   simp only [go_sem,simprocAttr]<;>simp
  | false =>
   have e0:collF p (f+1) n r=(namedS s 2).foldl (fun r x=>collF p f x r) (r.1++namedS s 1,r.2 ++ [n]):=by
    conv=>lhs;unfold collF
    rw [if_neg (by rw [hm];decide),e1,e1]
   rw [e0]
   clear e0
   generalize namedS s 1=ns at c1 l1 ⊢
   generalize namedS s 2=ms at c2 l2 hth ⊢
   simp only [go_sem,simprocAttr,look_N,hm,put_yes]
   refine ⟨_,c1,?_⟩
   simp only [go_sem,simprocAttr]
   refine awp_loop_f (fun (k:Nat) σ => setB 0 (.map (tEs (setN (r.1++ns.take k)))) (setS 21 (vint k) (deadS [9,22,23,24,25,26,27] (cleanS σ)))) (fun k=>k≤ns.length) (fun k=>ns.length - k) 0 (weak_self ?_) (Nat.zero_le _) ?_
   ·simp only [go_sem,simprocAttr]<;>simp
   ·intro k hk
    refine aw_ok _ ?_
    simp only [go_sem,simprocAttr]
    refine ⟨fun hlt=>?_,fun hge=>?_⟩
    ·simp only [bxx] at hlt
     have hk':k<ns.length:=by omega
     have hwk:IntKind.i64.wrap ((k:Int)+1)=((k+1:Nat):Int):=by rw [wrap1 (by omega)];omega
     have hx:=str_nth0 hk'
     have htk:=take_snoc hk'
     generalize ns.getD k default=x at hx htk
     unfold awS
     simp only [go_sem,simprocAttr,hx,List.length_map,put_yes]
     refine ⟨⟨by omega,by omega⟩,k+1,weak_self ?_,by omega,by omega⟩
     simp only [go_sem,simprocAttr,hwk,htk,List.append_assoc]
     simp
    ·simp only [bxx] at hge
     unfold awS
     simp only [go_sem,simprocAttr]
     rw [List.take_of_length_le (show ns.length≤k by omega)]
     refine ⟨_,c2,?_⟩
     simp only [go_sem,simprocAttr]
     refine awp_loop_f (fun (k:Nat) σ => setB 0 (.map (tEs (setN ((ms.take k).foldl (fun r x=>collF p f x r) (r.1++ns,r.2 ++ [n])).1))) (setB 1 (.map (tEs (setN ((ms.take k).foldl (fun r x=>collF p f x r) (r.1++ns,r.2 ++ [n])).2))) (setS 32 (vint k) (deadS [9,11,22,23,24,25,26,27,33,34,35,36,37,38,39,40,41] (cleanS σ))))) (fun k=>k≤ms.length) (fun k=>ms.length - k) 0 (weak_self ?_) (Nat.zero_le _) ?_
     ·simp only [go_sem,simprocAttr]<;>simp
     ·intro j hj
      refine aw_ok _ ?_
      simp only [go_sem,simprocAttr]
      refine ⟨fun hlt2=>?_,fun hge2=>?_⟩
      ·simp only [bxx] at hlt2
       have hj':j<ms.length:=by omega
       have hwj:IntKind.i64.wrap ((j:Int)+1)=((j+1:Nat):Int):=by rw [wrap1 (by omega)];omega
       have hx:=str_nth0 hj'
       have htk:=take_snoc hj'
       have hxm:=hth _ (mem_getD (d:=default) hj')
       have hfl:(ms.take (j+1)).foldl (fun r x=>collF p f x r) (r.1++ns,r.2 ++ [n])=collF p f (ms.getD j default) ((ms.take j).foldl (fun r x=>collF p f x r) (r.1++ns,r.2 ++ [n])):=by
        rw [htk,List.foldl_append]
        rfl
       obtain ⟨q,hq⟩:∃ q,q=(ms.take j).foldl (fun r x=>collF p f x r) (r.1++ns,r.2 ++ [n]):=⟨_,rfl⟩
       rw [← hq] at hfl ⊢
       generalize ms.getD j default=x at hx hxm hfl
       unfold awS
       simp only [go_sem,simprocAttr,hx,List.length_map]
       refine ⟨⟨by omega,by omega⟩,lcall_io Tryz.xen72 (icall_io (ih x q hxm.1 hxm.2) [0,1] rfl (by omega) (by decide) ?_ rfl rfl rfl rfl ?_)⟩
       ·simp only [go_sem,simprocAttr,(ren_tEs id _).2,(ren_tEs _ _).1]
       ·simp only [go_sem,simprocAttr]
        refine ⟨j+1,weak_self ?_,by omega,by omega⟩
        simp only [go_sem,simprocAttr,hwj,hfl]
        simp [(ren_tEs _ _).1]
      ·simp only [bxx] at hge2
       unfold awS
       simp only [go_sem,simprocAttr]
       rw [List.take_of_length_le (show ms.length≤j by omega)]
       refine weak_of [(1,some 1),(0,some 0)] ?_
       simp only [go_sem,simprocAttr]<;>simp
theorem nodup_le {α : Type}:∀ {l m:List α},l.Nodup→(∀ x∈l,x∈m)→l.length≤m.length
 | [],m,_,_=>Nat.zero_le _
 | x::l,m,hn,h=>by
  rw [List.nodup_cons] at hn
  obtain ⟨a,b,rfl⟩:=List.append_of_mem (h x (by simp))
  have:=nodup_le (l:=l) (m:=a++b) hn.2 fun y hy=>by
   have h1:=h y (by simp [hy])
   simp only [List.mem_append,List.mem_cons] at h1 ⊢
   rcases h1 with h1 | rfl | h1
   ·exact .inl h1
   ·exact absurd hy hn.1
   ·exact .inr h1
  simp only [List.length_cons,List.length_append] at this ⊢
  omega
theorem fold_mem {α β : Type} {P : α → Prop} {f : α → β → α} (hf:∀ a b,P a→P (f a b)):∀ (l:List β) (a : α),P a→P (l.foldl f a)
 | [],a,h=>h
 | b::l,a,h=>fold_mem hf l (f a b) (hf a b h)
theorem coll_med {p:ProjR} (hp:FilmOk p):∀ (f:Nat) (n:ByteArray) (r:List ByteArray×List ByteArray),(∀ x∈r.1,(medOf p.media x).isSome=true) → ∀ x∈(collF p f n r).1,(medOf p.media x).isSome=true
 | 0,n,r,h=>h
 | f+1,n,r,h=>by
  unfold collF
  split
  ·exact h
  ·refine fold_mem (P:=fun r:List ByteArray×List ByteArray => ∀ x∈r.1,(medOf p.media x).isSome=true) (fun r x hr=>coll_med hp f x r hr) _ _ fun x hx=>?_
   rcases List.mem_append.1 hx with hx | hx
   ·exact h x hx
   ·unfold shown at hx
    cases hs:seqOf p.seqs n with
    | none =>
     rw [hs] at hx
     cases mem_namedS.1 hx
    | some s =>
     rw [hs] at hx
     have hx:=mem_namedS.1 hx
     unfold namesK at hx
     obtain ⟨y,hy,rfl⟩:=List.mem_map.1 hx
     obtain ⟨hy1,hy2⟩:=List.mem_filter.1 hy
     obtain ⟨c,hc,hyc⟩:=List.mem_flatMap.1 hy1
     have hcl:=List.all_eq_true.1 (hp.compl s (lastOf_mem hs).1) c hc
     unfold clipThere at hcl
     rw [Bool.and_eq_true] at hcl
     have hy3:srcThere p y=true:=by
      simp only [List.mem_cons,List.not_mem_nil,or_false] at hyc
      rcases hyc with rfl | rfl
      ·exact hcl.1
      ·exact hcl.2
     unfold srcThere at hy3
     cases e:medOf p.media y.name with
     | some _=>rfl
     | none =>
      rw [e,hy2] at hy3
      simp at hy3
theorem med_name {p:ProjR} (hp:FilmOk p) {x:ByteArray} (h:(medOf p.media x).isSome=true):x∈p.media.map MediumR.name∧x.size≤maxLen:=by
 obtain ⟨m,hm⟩:=Option.isSome_iff_exists.1 h
 obtain ⟨h1,h2⟩:=lastOf_mem hm
 refine ⟨by rw [← h2];exact List.mem_map_of_mem h1,?_⟩
 have:=hp.med m h1
 unfold medOk vName at this
 simp only [Bool.and_eq_true,decide_eq_true_eq] at this
 have h3:m.name=x:=h2
 rw [h3] at this
 unfold maxLen
 omega
def usesP (p:ProjR) (name:ByteArray):List ByteArray×Int :=
 if validP p≠0 then ([],validP p) else
 match seqOf p.seqs name with
 | none=>([],7)
 | some _=>(sortN (once (collF p 5 name ([],[])).1),0)
abbrev vuses (r:List ByteArray×Int):V := .tup [.t (tstrs r.1),vint r.2]
theorem pureW_unil (k:Int) {h:Heap}:pureW (vuses ([],k)) (.tup [.t (.lit (.slice none 0 0)),vint k]) h :=
 pureW_as (r' := .tup [.t (.lit (.slice none 0 0)),vint k]) rfl rfl (as_impTup (by exact ⟨as_nilL,as_refl,trivial⟩))
theorem nopUses:NopD Tryz.prog 69:=by
 refine ⟨Tryz.xen69,fun cap w=>callsDIn_of_wpSIn Tryz.func69 rfl trivial fun c₀ cs hu=>?_⟩
 have k1 : 2<cap.size+(4 - cap.size):=by omega
 have k2 : 3<cap.size+(4 - cap.size):=by omega
 have k3 : 2<max 4 cap.size:=by omega
 have k4 : 3<max 4 cap.size:=by omega
 apply wpSIn_seq
 apply wpSIn_region
 simp [wpOpsSIn,Fence.wide,go_sem,recoverD,hu,Tryz.ntmps69,Exit.thenS,k1,k2,k3,k4]
 refine wpSIn_cond (t:=false) (by simp [Act.eval,k2,k4]) ?_
 refine wpSIn_of_wpIn rfl (wpIn_skip ?_)
 refine ⟨rfl, .returning,by rw [← hu], .tuple #[],?_,⟨_,rfl⟩,rfl,rfl⟩
 simp [results,Tryz.results69,go_sem]
theorem cUsesP (p:ProjR) (h:p.fit) (name:ByteArray):CPure Tryz.prog 25 [vproj p,vstr name] (vuses (usesP p name)):=by
 refine cpure_ofW Tryz.xen25 Tryz.func25 rfl Tryz.ntmps25 (by rw [Tryz.results25]) (aw_ok _ ?_)
 simp only [go_sem,simprocAttr,decide_true,decide_false]
 refine ⟨_,cValid p h,?_⟩
 simp only [go_sem,simprocAttr,decide_true,decide_false]
 refine brW (b:=decide (validP p≠0)) ?_ ⟨fun hv=>?_,fun hv=>?_⟩
 ·rw [Bool.eq_iff_iff,decide_eq_true_eq,bne_iff_ne]
 ·have hv':=of_decide_eq_true hv
  have e:usesP p name=([],validP p):=by unfold usesP;rw [if_pos hv']
  rw [e]
  unfold awS
  simp only [go_sem,simprocAttr,decide_true,decide_false]
  exact ⟨nopUses,pureW_unil _⟩
 ·have hv':validP p=0:=by simpa using hv
  have hok:=filmOk_of h hv'
  unfold awS
  simp only [go_sem,simprocAttr,decide_true,decide_false]
  have hsm:=valid_small hv'
  refine icall_pure (cCat p hsm.1 hsm.2.1) rfl ?_
  cases hs:seqOf p.seqs name with
  | none =>
   have e:usesP p name=([],7):=by unfold usesP;rw [hv',hs];rfl
   rw [e]
   simp only [go_sem,simprocAttr,decide_true,decide_false,look_S,hs,Option.map_none]
   exact ⟨nopUses,pureW_unil _⟩
  | some s =>
   have e:usesP p name=(sortN (once (collF p 5 name ([],[])).1),0):=by unfold usesP;rw [hv',hs];rfl
   rw [e]
   simp only [go_sem,simprocAttr,decide_true,decide_false,look_S,hs,Option.map_some]
   have hw:=hok.wk s (lastOf_mem hs).1
   rw [show s.name=name from (lastOf_mem hs).2] at hw
   have hcm:=coll_med hok 5 name ([],[]) (fun x hx=>by cases hx)
   have hC:=cCollect p (shown_of hok) 5 name ([],[]) (by rw [hs];rfl) hw
   generalize collF p 5 name ([],[])=q at hC hcm ⊢
   have hol:(once q.1).length≤1000000:=by
    have:=nodup_le (once_nodup q.1) fun x hx=>(med_name hok (hcm x (mem_once.1 hx))).1
    rw [List.length_map] at this
    have:=hsm.1
    omega
   refine lcall_io Tryz.xen72 (icall_io hC [5,6] rfl (by omega) (by decide) ?_ rfl rfl rfl rfl ?_)
   ·simp only [go_sem,simprocAttr,(ren_tEs id _).2,(ren_tEs _ _).1]
    rfl
   ·simp only [go_sem,simprocAttr,(ren_tEs id _).2,(ren_tEs _ _).1]
    refine icall_of Tryz.xen73 Tryz.func73 rfl Tryz.ntmps73 (by rw [Tryz.results73]) (aw_ok _ ?_)
    simp only [go_sem,simprocAttr]
    refine lcall_io Tryz.xen59 (icall_io (cioSorted (tEs (setN q.1)) (once q.1) (strC ⟨#[]⟩) (keys_setN _) (once_nodup _) (fun x hx=>(med_name hok (hcm x (mem_once.1 hx))).2) hol) [7,5] rfl (by omega) (by decide) ?_ rfl rfl rfl rfl ?_)
    ·simp only [go_sem,simprocAttr,(ren_tEs id _).2,(ren_tEs _ _).1]
     exact decide_eq_true trivial
    ·simp only [go_sem,simprocAttr,decide_true,decide_false]
     exact ⟨nopUses,pureW_self rfl rfl⟩
end Go.Proofs.YtbfnemkngoaeeaaGreat
