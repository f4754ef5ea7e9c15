/- Proved here: The deferred function that recovers does nothing where there is no panic, for use in the proofs of the given statements; conditions stand in each theorem. -/
import Derived.Test.YtkjdkbmfaamhaaaGreatZG
import Derived.Test.YtkjdkbmfaamhaaaGreatZH
import Derived.RecoverIn
import Derived.Test.YtkjdkbmfaamhaaaGreatZT
import Derived.Test.YtkjdkbmfaamhaaaGreatZS
import Derived.Test.YtkjdkbmfaamhaaaGreatZJ
set_option linter.unusedSimpArgs false
set_option linter.unusedVariables false
set_option linter.unusedSectionVars false
set_option linter.unnecessarySimpa false
namespace Go.Proofs.YtkjdkbmfaamhaaaGreat
open Go.RowKit
set_option maxRecDepth 4000
theorem nopValid:NopD Tryz.prog 35:=by
 refine ⟨Tryz.xen35,fun cap w=>callsDIn_of_wpSIn Tryz.func35 rfl trivial fun c₀ cs hu=>?_⟩
 have k1 : 1<cap.size+(3 - cap.size):=by omega
 have k2 : 2<cap.size+(3 - cap.size):=by omega
 have k3 : 1<max 3 cap.size:=by omega
 have k4 : 2<max 3 cap.size:=by omega
 apply wpSIn_seq
 apply wpSIn_region
 simp [wpOpsSIn,Fence.wide,go_sem,recoverD,hu,Tryz.ntmps35,Exit.thenS,k1,k2,k3,k4]
 refine wpSIn_cond (t:=false) (by simp [Act.eval,k2,k4]) ?_
 refine wpSIn_of_wpIn rfl (wpIn_skip ?_)
 refine ⟨rfl, .returning,by rw [← hu], .tuple #[],?_,⟨_,rfl⟩,rfl,rfl⟩
 simp [results,Tryz.results35,go_sem]
open Go.RowKit
set_option maxRecDepth 4000
def srcThere (p:ProjR) (x:SourceR):Bool := !(x.kind==1&&(medOf p.media x.name).isNone||x.kind==2&&(seqOf p.seqs x.name).isNone)
def clipThere (p:ProjR) (c:ClipR):Bool:=srcThere p c.a&&srcThere p c.b
def complS (p:ProjR) (s:SequenceR):Bool:=(clipsOf s).all (clipThere p)
theorem nth_one (d a:List T):nth d [a] 0=a:=rfl
theorem wr1:IntKind.i64.wrap 1=1:=by decide
theorem wr2:IntKind.i64.wrap 2=2:=by decide
theorem cast2:((2:Nat):Int)=2:=rfl
theorem look_M (n:ByteArray) (l:List MediumR):lookT (.string n) (catM l)=(medOf l n).map fun m => .agg (vmed m):=lookT_mapOf _ _ n l
theorem look_S (n:ByteArray) (l:List SequenceR):lookT (.string n) (catS l)=(seqOf l n).map fun m=>vsequence m:=lookT_mapOf _ _ n l
theorem notCompl {p:ProjR} {s:SequenceR} {tr:List (List ClipR)} {i k:Nat} {c:ClipR} (htr:tr=s.video++s.sound) (hi:i<tr.length) (hk:k<(tr.getD i []).length) (hc:c=(tr.getD i []).getD k default) (hn:clipThere p c=false):complS p s=false:=by
 unfold complS clipsOf
 rw [← htr,List.all_eq_false]
 refine ⟨c,?_,by rw [hn];exact Bool.false_ne_true⟩
 rw [List.mem_flatten]
 refine ⟨tr.getD i [],?_,?_⟩
 ·rw [List.getD_eq_getElem?_getD,List.getElem?_eq_getElem hi]
  exact List.getElem_mem hi
 ·rw [hc,getD_of_lt hk]
  exact List.getElem_mem hk
set_option maxHeartbeats 20000000 in
theorem cCompl (p:ProjR) (s:SequenceR) (hv:s.video.length≤8) (hs:s.sound.length≤8) (hm:∀ t∈s.video++s.sound,t.length≤maxLen):CPure Tryz.prog 42 [vcat p,vsequence s] (vbool (complS p s)):=by
 refine cpure_of Tryz.xen42 Tryz.func42 rfl Tryz.ntmps42 (by rw [Tryz.results42]) (aw_ok _ ?_)
 simp only [go_sem,simprocAttr]
 refine icall_pure (cClips s) rfl ?_
 simp only [go_sem,simprocAttr]
 refine ⟨Tryz.xen115,?_⟩
 unfold rangeB
 refine ⟨rfl,icall_of Tryz.xen115 Tryz.func115 rfl Tryz.ntmps115 (by rw [Tryz.results115]) (aw_ok _ ?_)⟩
 simp only [go_sem,simprocAttr,nth_one,SequenceR.c]
 refine lcall_give ?_
 simp only [go_sem,simprocAttr]
 refine ⟨_,cConcatTr _ s.video s.sound hv hs,?_⟩
 simp only [go_sem,simprocAttr]
 obtain ⟨tr,htr⟩:∃ tr,tr=s.video++s.sound:=⟨_,rfl⟩
 rw [← htr]
 have hlen:tr.length≤16:=by rw [htr,List.length_append];omega
 refine awp_loop_f (fun (i:Nat) σ => setS 14 (vint i) (deadS [4,6,15,16,17,18,19,20,21,22,23,24,25,26,27,28,29] (cleanS σ))) (fun i=>i≤tr.length∧(tr.take i).flatten.all (clipThere p)=true) (fun i=>tr.length - i) 0 (weak_self ?_) ⟨Nat.zero_le _,rfl⟩ ?_
 ·simp only [go_sem,simprocAttr]<;>simp
 ·rintro i ⟨hi,hall⟩
  refine aw_ok _ ?_
  simp only [go_sem,simprocAttr]
  refine ⟨fun hlt=>?_,fun hge=>?_⟩
  ·simp only [bxx] at hlt
   have hi':i<tr.length:=by omega
   unfold awS
   simp only [go_sem,simprocAttr,hi',List.length_map]
   refine ⟨⟨by omega,by omega⟩,?_⟩
   refine awp_loop_f (fun (k:Nat) σ => setS 20 (vint k) (deadS [6,21,22,23,24,25,26,27,28] (cleanS σ))) (fun k=>k≤(tr.getD i []).length∧((tr.getD i []).take k).all (clipThere p)=true) (fun k=>(tr.getD i []).length - k) 0 (weak_self ?_) ⟨Nat.zero_le _,rfl⟩ ?_
   ·simp only [go_sem,simprocAttr]<;>simp
   ·rintro k ⟨hk,hallk⟩
    refine aw_ok _ ?_
    simp only [go_sem,simprocAttr]
    refine ⟨fun hlt=>?_,fun hge=>?_⟩
    ·simp only [bxx] at hlt
     have hk':k<(tr.getD i []).length:=by omega
     have hmt:(tr.getD i []).length≤maxLen:=hm _ (by rw [← htr,List.getD_eq_getElem?_getD,List.getElem?_eq_getElem hi'];exact List.getElem_mem hi')
     have hk9:k<9223372036854775807:=by unfold maxLen at hmt;omega
     unfold awS
     simp only [go_sem,simprocAttr,hk',List.length_map]
     refine ⟨⟨by omega,by omega⟩,aw_ok _ ?_⟩
     simp only [go_sem,simprocAttr]
     refine aw_ok _ ?_
     simp only [go_sem,simprocAttr]
     refine awp_loopL ?_
     refine awpL_step (aw_ok _ ?_)
     simp only [go_sem,simprocAttr,decide_true,decide_false,wr1,wr2,cast2]
     obtain ⟨c,hc⟩:∃ c,c=(tr.getD i []).getD k default:=⟨_,rfl⟩
     rw [← hc]
     rcases h1:medOf p.media c.a.name with _ | m1<;>rcases h2:seqOf p.seqs c.a.name with _ | q1
     rotate_left 3
     ·simp only [go_sem,simprocAttr,decide_true,decide_false,wr1,wr2,cast2,look_M,look_S,h1,h2,Option.map_some,Option.map_none]
      have hb:(!srcThere p c.a)=false:=by unfold srcThere;rw [h1,h2];cases (c.a.kind==1)<;>cases (c.a.kind==2)<;>rfl
      refine awpL_step (aw_ok _ ?_)
      simp only [go_sem,simprocAttr,decide_true,decide_false,wr1,wr2,cast2]
      rcases h3:medOf p.media c.b.name with _ | m2<;>rcases h4:seqOf p.seqs c.b.name with _ | q2
      rotate_left 3
      ·simp only [go_sem,simprocAttr,decide_true,decide_false,wr1,wr2,cast2,look_M,look_S,h3,h4,Option.map_some,Option.map_none]
       have hb':(!srcThere p c.b)=false:=by unfold srcThere;rw [h3,h4];cases (c.b.kind==1)<;>cases (c.b.kind==2)<;>rfl
       refine awpL_step (aw_ok _ ?_)
       simp only [go_sem,simprocAttr,decide_true,decide_false,wr1,wr2,cast2]
       refine ⟨fun h=>absurd h (by decide),fun _=>?_⟩
       unfold awS
       simp only [go_sem,simprocAttr,decide_true,decide_false]
       refine ⟨k+1,weak_self ?_,⟨by omega,?_⟩,by omega⟩
       ·simp only [go_sem,simprocAttr]<;>simp [wrap1 hk9]
       ·simp only [Bool.not_eq_false'] at hb hb'
        rw [take_snoc hk',List.all_append,hallk, ← hc]
        simp [clipThere,hb,hb']
      all_goals
       simp only [go_sem,simprocAttr,decide_true,decide_false,wr1,wr2,cast2,look_M,look_S,h3,h4,Option.map_some,Option.map_none]
       refine brW (b := !srcThere p c.b) (by unfold srcThere;rw [h3,h4];cases (c.b.kind==1)<;>cases (c.b.kind==2)<;>rfl) ⟨fun hb'=>?_,fun hb'=>?_⟩
       ·unfold awS
        simp only [go_sem,simprocAttr,decide_true,decide_false]
        refine ⟨fun _=>?_,fun h=>absurd h (by decide)⟩
        unfold awS
        simp only [go_sem,simprocAttr,decide_true,decide_false]
        simp only [Bool.not_eq_true'] at hb'
        rw [notCompl htr hi' hk' hc (by unfold clipThere;rw [hb',Bool.and_false])]
       ·unfold awS
        simp only [go_sem,simprocAttr,decide_true,decide_false,wr1,wr2,cast2]
        refine awpL_step (aw_ok _ ?_)
        simp only [go_sem,simprocAttr,decide_true,decide_false,wr1,wr2,cast2]
        refine ⟨fun h=>absurd h (by decide),fun _=>?_⟩
        unfold awS
        simp only [go_sem,simprocAttr,decide_true,decide_false]
        refine ⟨k+1,weak_self ?_,⟨by omega,?_⟩,by omega⟩
        ·simp only [go_sem,simprocAttr]<;>simp [wrap1 hk9]
        ·simp only [Bool.not_eq_false'] at hb hb'
         rw [take_snoc hk',List.all_append,hallk, ← hc]
         simp [clipThere,hb,hb']
     all_goals
      simp only [go_sem,simprocAttr,decide_true,decide_false,wr1,wr2,cast2,look_M,look_S,h1,h2,Option.map_some,Option.map_none]
      refine brW (b := !srcThere p c.a) (by unfold srcThere;rw [h1,h2];cases (c.a.kind==1)<;>cases (c.a.kind==2)<;>rfl) ⟨fun hb=>?_,fun hb=>?_⟩
      ·unfold awS
       simp only [go_sem,simprocAttr,decide_true,decide_false]
       refine ⟨fun _=>?_,fun h=>absurd h (by decide)⟩
       unfold awS
       simp only [go_sem,simprocAttr,decide_true,decide_false]
       simp only [Bool.not_eq_true'] at hb
       rw [notCompl htr hi' hk' hc (by unfold clipThere;rw [hb];rfl)]
      ·unfold awS
       simp only [go_sem,simprocAttr,decide_true,decide_false,wr1,wr2,cast2]
       refine awpL_step (aw_ok _ ?_)
       simp only [go_sem,simprocAttr,decide_true,decide_false,wr1,wr2,cast2]
       rcases h3:medOf p.media c.b.name with _ | m2<;>rcases h4:seqOf p.seqs c.b.name with _ | q2
       rotate_left 3
       ·simp only [go_sem,simprocAttr,decide_true,decide_false,wr1,wr2,cast2,look_M,look_S,h3,h4,Option.map_some,Option.map_none]
        have hb':(!srcThere p c.b)=false:=by unfold srcThere;rw [h3,h4];cases (c.b.kind==1)<;>cases (c.b.kind==2)<;>rfl
        refine awpL_step (aw_ok _ ?_)
        simp only [go_sem,simprocAttr,decide_true,decide_false,wr1,wr2,cast2]
        refine ⟨fun h=>absurd h (by decide),fun _=>?_⟩
        unfold awS
        simp only [go_sem,simprocAttr,decide_true,decide_false]
        refine ⟨k+1,weak_self ?_,⟨by omega,?_⟩,by omega⟩
        ·simp only [go_sem,simprocAttr]<;>simp [wrap1 hk9]
        ·simp only [Bool.not_eq_false'] at hb hb'
         rw [take_snoc hk',List.all_append,hallk, ← hc]
         simp [clipThere,hb,hb']
       all_goals
        simp only [go_sem,simprocAttr,decide_true,decide_false,wr1,wr2,cast2,look_M,look_S,h3,h4,Option.map_some,Option.map_none]
        refine brW (b := !srcThere p c.b) (by unfold srcThere;rw [h3,h4];cases (c.b.kind==1)<;>cases (c.b.kind==2)<;>rfl) ⟨fun hb'=>?_,fun hb'=>?_⟩
        ·unfold awS
         simp only [go_sem,simprocAttr,decide_true,decide_false]
         refine ⟨fun _=>?_,fun h=>absurd h (by decide)⟩
         unfold awS
         simp only [go_sem,simprocAttr,decide_true,decide_false]
         simp only [Bool.not_eq_true'] at hb'
         rw [notCompl htr hi' hk' hc (by unfold clipThere;rw [hb',Bool.and_false])]
        ·unfold awS
         simp only [go_sem,simprocAttr,decide_true,decide_false,wr1,wr2,cast2]
         refine awpL_step (aw_ok _ ?_)
         simp only [go_sem,simprocAttr,decide_true,decide_false,wr1,wr2,cast2]
         refine ⟨fun h=>absurd h (by decide),fun _=>?_⟩
         unfold awS
         simp only [go_sem,simprocAttr,decide_true,decide_false]
         refine ⟨k+1,weak_self ?_,⟨by omega,?_⟩,by omega⟩
         ·simp only [go_sem,simprocAttr]<;>simp [wrap1 hk9]
         ·simp only [Bool.not_eq_false'] at hb hb'
          rw [take_snoc hk',List.all_append,hallk, ← hc]
          simp [clipThere,hb,hb']
    ·simp only [bxx] at hge
     unfold awS
     simp only [go_sem,simprocAttr]
     refine ⟨i+1,weak_self ?_,⟨by omega,?_⟩,by omega⟩
     ·simp only [go_sem,simprocAttr]<;>simp [wrap1 (show i<9223372036854775807 by omega)]
     ·rw [List.take_of_length_le (show (tr.getD i []).length≤k by omega)] at hallk
      rw [take_snoc hi',List.flatten_append,List.all_append,hall,show (default:List ClipR) = [] from rfl]
      simpa using hallk
  ·simp only [bxx] at hge
   unfold awS
   simp only [go_sem,simprocAttr]
   rw [List.take_of_length_le (show tr.length≤i by omega)] at hall
   unfold complS clipsOf
   rw [← htr,hall]
open Go.RowKit
set_option maxRecDepth 4000
def namesK (kind:Int) (l:List ClipR):List ByteArray:=((l.flatMap fun c=>[c.a,c.b]).filter fun x=>x.kind==kind).map fun x=>x.name
theorem namesK_append (kind:Int) (l r:List ClipR):namesK kind (l++r)=namesK kind l++namesK kind r:=by
 unfold namesK
 rw [List.flatMap_append,List.filter_append,List.map_append]
def addK (kind:Int) (x:SourceR) (l:List ByteArray):List ByteArray:=if x.kind==kind then l ++ [x.name] else l
theorem namesK_snoc (kind:Int) (l:List ClipR) (c:ClipR):namesK kind (l ++ [c])=addK kind c.b (addK kind c.a (namesK kind l)):=by
 rw [namesK_append]
 unfold addK
 simp only [namesK,List.flatMap_cons,List.flatMap_nil,List.append_nil,List.filter_cons,List.filter_nil]
 cases h1:(c.a.kind==kind)<;>cases h2:(c.b.kind==kind)<;>simp
def yesC:Bool×List T:=(false,[.lit (.bool true)])
def setN (l:List ByteArray):List Ent:=mapOf (fun n:ByteArray=>n) (fun _=>yesC) l
theorem setN_snoc (l:List ByteArray) (n:ByteArray):setN (l ++ [n])=putT (.string n) yesC (setN l):=mapOf_snoc _ _ l n
theorem put_yes (n:ByteArray) (l:List ByteArray):putE (.string n) (vbool true) (tEs (setN l))=tEs (setN (l ++ [n])):=by
 rw [setN_snoc]
 exact putE_tEs (.string n) yesC (setN l)
theorem kinds_N (l:List ByteArray):kindsT .string (setN l)=true:=kindsT_str (mapOf_str _ _ _)
attribute [go_sem] kinds_N
theorem keys_setN (l:List ByteArray):(tEs (setN l)).map (·.1)=(once l).map Value.string:=by
 have h1:(setN l).map (fun e=>strK e.1)=once l:=by
  have:=keys_mapOf (fun n:ByteArray=>n) (fun _=>yesC) l
  rw [List.map_id'] at this
  exact this
 have h2:strKs (setN l):=mapOf_str _ _ _
 unfold tEs
 rw [List.map_map, ← h1,List.map_map]
 refine List.map_congr_left fun e he=>?_
 obtain ⟨s,hs⟩:=h2 e he
 simp only [Function.comp_apply,hs,strK]
theorem ren_tEs (g:Nat→Nat):∀ es:List Ent,V.renE g (tEs es)=tEs es∧mentE (tEs es) = []
 | []=>⟨rfl,rfl⟩
 | e::es=>by
  have h:=ren_tEs g es
  have h1:=pure_ren g (mkV e.2) (mkV_pure e.2)
  unfold tEs at h ⊢
  simp only [List.map_cons,V.renE,mentE,h1.1,h1.2,h.1,h.2,List.nil_append,and_self]
def namedS (s:SequenceR) (kind:Int):List ByteArray:=sortN (once (namesK kind (clipsOf s)))
abbrev tnames (l:List ByteArray):T:=tstrs l
@[go_sem] def setB (i:Nat) (b:Blk) (σ : St):St := { σ with h := σ.h.set i b }
set_option maxHeartbeats 20000000 in
theorem cNamed (p:ProjR) (n:ByteArray) (kind:Int) (s:SequenceR) (hs:seqOf p.seqs n=some s) (hv:s.video.length≤8) (hs':s.sound.length≤8) (hm:∀ t∈s.video++s.sound,t.length≤maxLen)
  (hz:∀ x∈namesK kind (clipsOf s),x.size≤maxLen) (hn:(namesK kind (clipsOf s)).length≤1000000) :
  CPure Tryz.prog 82 [vcat p,vstr n,vint kind] (.t (tnames (namedS s kind))):=by
 refine cpure_of Tryz.xen82 Tryz.func82 rfl Tryz.ntmps82 (by rw [Tryz.results82]) (aw_ok _ ?_)
 simp only [go_sem,simprocAttr,look_S,hs,Option.map_some]
 refine icall_pure (cClips s) rfl ?_
 simp only [go_sem,simprocAttr]
 refine ⟨Tryz.xen115,?_⟩
 unfold rangeB
 refine ⟨rfl,icall_of Tryz.xen115 Tryz.func115 rfl Tryz.ntmps115 (by rw [Tryz.results115]) (aw_ok _ ?_)⟩
 simp only [go_sem,simprocAttr,nth_one,SequenceR.c]
 refine lcall_give ?_
 simp only [go_sem,simprocAttr]
 refine ⟨_,cConcatTr _ s.video s.sound hv hs',?_⟩
 simp only [go_sem,simprocAttr]
 obtain ⟨tr,htr⟩:∃ tr,tr=s.video++s.sound:=⟨_,rfl⟩
 rw [← htr]
 have hlen:tr.length≤16:=by rw [htr,List.length_append];omega
 refine awp_loop_f (fun (i:Nat) σ => setB 2 (.map (tEs (setN (namesK kind (tr.take i).flatten)))) (setS 14 (vint i) (deadS [4,6,15,16,17,18,19,20,21,22,23,24,25,26,27,28,29] (cleanS σ)))) (fun i=>i≤tr.length) (fun i=>tr.length - i) 0 (weak_self ?_) (Nat.zero_le _) ?_
 ·simp only [go_sem,simprocAttr]<;>simp [setN,namesK,mapOf,tEs]
 ·intro i hi
  refine aw_ok _ ?_
  simp only [go_sem,simprocAttr]
  refine ⟨fun hlt=>?_,fun hge=>?_⟩
  ·simp only [bxx] at hlt
   have hi':i<tr.length:=by omega
   have hmt:(tr.getD i []).length≤maxLen:=hm _ (by rw [← htr,List.getD_eq_getElem?_getD,List.getElem?_eq_getElem hi'];exact List.getElem_mem hi')
   unfold awS
   simp only [go_sem,simprocAttr,hi',List.length_map]
   refine ⟨⟨by omega,by omega⟩,?_⟩
   refine awp_loop_f (fun (k:Nat) σ => setB 2 (.map (tEs (setN (namesK kind ((tr.take i).flatten++(tr.getD i []).take k))))) (setS 20 (vint k) (deadS [6,21,22,23,24,25,26,27,28] (cleanS σ)))) (fun k=>k≤(tr.getD i []).length) (fun k=>(tr.getD i []).length - k) 0 (weak_self ?_) (Nat.zero_le _) ?_
   ·simp only [go_sem,simprocAttr]<;>simp
   ·intro k hk
    refine aw_ok _ ?_
    simp only [go_sem,simprocAttr]
    refine ⟨fun hlt=>?_,fun hge=>?_⟩
    ·simp only [bxx] at hlt
     have hk':k<(tr.getD i []).length:=by omega
     have hk9:k<9223372036854775807:=by unfold maxLen at hmt;omega
     unfold awS
     simp only [go_sem,simprocAttr,hk',List.length_map]
     refine ⟨⟨by omega,by omega⟩,aw_ok _ ?_⟩
     simp only [go_sem,simprocAttr]
     refine aw_ok _ ?_
     simp only [go_sem,simprocAttr]
     obtain ⟨c,hc⟩:∃ c,c=(tr.getD i []).getD k default:=⟨_,rfl⟩
     rw [← hc]
     obtain ⟨l,hl⟩:∃ l,l=namesK kind ((tr.take i).flatten++(tr.getD i []).take k):=⟨_,rfl⟩
     rw [← hl]
     refine awp_loopL ?_
     rcases ha:(c.a.kind==kind) with _ | _<;>rcases hb:(c.b.kind==kind) with _ | _
     all_goals
      refine awpL_step (aw_ok _ ?_)
      simp only [go_sem,simprocAttr,decide_true,decide_false,wr1,wr2,cast2,ha,hb,put_yes]
      refine awpL_step (aw_ok _ ?_)
      simp only [go_sem,simprocAttr,decide_true,decide_false,wr1,wr2,cast2,ha,hb,put_yes]
      refine awpL_step (aw_ok _ ?_)
      simp only [go_sem,simprocAttr,decide_true,decide_false,wr1,wr2,cast2]
      refine ⟨fun h=>absurd h (by decide),fun _=>?_⟩
      unfold awS
      simp only [go_sem,simprocAttr,decide_true,decide_false]
      refine ⟨k+1,weak_self ?_,by omega,by omega⟩
      simp only [go_sem,simprocAttr]
      rw [take_snoc hk', ← hc, ← List.append_assoc,namesK_snoc, ← hl]
      simp [wrap1 hk9,addK,ha,hb]
    ·simp only [bxx] at hge
     unfold awS
     simp only [go_sem,simprocAttr]
     refine ⟨i+1,weak_self ?_,by omega,by omega⟩
     simp only [go_sem,simprocAttr]
     rw [take_snoc hi',List.flatten_append,show (default:List ClipR) = [] from rfl,List.take_of_length_le (show (tr.getD i []).length≤k by omega)]
     simp [wrap1 (show i<9223372036854775807 by omega)]
  ·simp only [bxx] at hge
   unfold awS
   simp only [go_sem,simprocAttr]
   rw [List.take_of_length_le (show tr.length≤i by omega)]
   refine icall_of Tryz.xen118 Tryz.func118 rfl Tryz.ntmps118 (by rw [Tryz.results118]) (aw_ok _ ?_)
   simp only [go_sem,simprocAttr]
   have hcl:tr.flatten=clipsOf s:=by rw [htr];rfl
   rw [hcl]
   refine lcall_io Tryz.xen117 (icall_io (cioSorted (tEs (setN (namesK kind (clipsOf s)))) (once (namesK kind (clipsOf s))) (strC ⟨#[]⟩) (keys_setN _) (once_nodup _) (fun x hx=>hz x (mem_once.1 hx)) (Nat.le_trans (once_length_le _) hn)) [7,2] rfl (by omega) (by decide) ?_ rfl rfl rfl rfl ?_)
   ·simp only [go_sem,simprocAttr,(ren_tEs id _).2,(ren_tEs _ _).1]
    exact decide_eq_true trivial
   ·simp only [go_sem,simprocAttr]<;>rfl
open Go.RowKit
set_option maxRecDepth 4000
abbrev KM:=List (ByteArray×Int)
def kE (K:KM):List (Value×V):=K.map fun e=>(Value.string e.1,vint e.2)
def getK (n:ByteArray):KM→Option Int
 | []=>none
 | e::K=>if n=e.1 then some e.2 else getK n K
def putK (n:ByteArray) (v:Int):KM→KM
 | []=>[(n,v)]
 | e::K=>if n=e.1 then (n,v)::K else e::putK n v K
theorem look_K (n:ByteArray):∀ K:KM,lookE (.string n) (kE K)=(getK n K).map fun v=>vint v
 | []=>rfl
 | e::K=>by
  have h:=look_K n K
  unfold kE at h ⊢
  simp only [List.map_cons,lookE,getK,keyB,decide_eq_true_eq,h]
  split<;>rfl
theorem put_K (n:ByteArray) (v:Int):∀ K:KM,putE (.string n) (vint v) (kE K)=kE (putK n v K)
 | []=>rfl
 | e::K=>by
  have h:=put_K n v K
  unfold kE at h ⊢
  simp only [List.map_cons,putE,putK,keyB,decide_eq_true_eq,h]
  split<;>rfl
theorem kinds_K:∀ K:KM,kindsB .string (kE K)=true
 | []=>rfl
 | e::K=>by
  have h:=kinds_K K
  unfold kE at h ⊢
  simp only [List.map_cons,kindsB,kindB,h,Bool.and_self]
attribute [go_sem] kinds_K
theorem getK_put (n m:ByteArray) (v:Int):∀ K:KM,getK n (putK m v K)=if n=m then some v else getK n K
 | []=>rfl
 | e::K=>by
  have ih:=getK_put n m v K
  unfold putK
  split
  ·rename_i h
   subst h
   simp only [getK]
   split<;>rfl
  ·rename_i h
   simp only [getK,ih]
   split
   ·rename_i h2
    subst h2
    rw [if_neg (fun h3=>h h3.symm)]
   ·rfl
def valK (n:ByteArray) (K:KM):Int:=(getK n K).getD 0
def inner (p:ProjR) (n:ByteArray):List ByteArray:=namedS ((seqOf p.seqs n).getD default) 2
def chainL (go:ByteArray→KM→Int×KM):List ByteArray→KM→Int→Bool×Int×KM
 | [],K,l=>(true,l,K)
 | x::xs,K,l=>if (go x K).1=0 then (false,l,(go x K).2) else chainL go xs (go x K).2 (max l (IntKind.i64.wrap ((go x K).1+1)))
theorem chainL_snoc (go:ByteArray→KM→Int×KM) (x:ByteArray):∀ (xs:List ByteArray) (K:KM) (l:Int),chainL go (xs ++ [x]) K l =
  if (chainL go xs K l).1=true then (if (go x (chainL go xs K l).2.2).1=0 then (false,(chainL go xs K l).2.1,(go x (chainL go xs K l).2.2).2) else (true,max (chainL go xs K l).2.1 (IntKind.i64.wrap ((go x (chainL go xs K l).2.2).1+1)),(go x (chainL go xs K l).2.2).2)) else chainL go xs K l
 | [],K,l=>by by_cases h:(go x K).1=0<;>simp [chainL,h]
 | y::xs,K,l=>by
  simp only [List.cons_append,chainL]
  split
  ·rfl
  ·exact chainL_snoc go x xs _ _
theorem chainL_stop {go:ByteArray→KM→Int×KM}:∀ {xs:List ByteArray} {K:KM} {l:Int} (ys:List ByteArray),(chainL go xs K l).1=false→chainL go (xs++ys) K l=chainL go xs K l
 | [],K,l,ys,h=>by unfold chainL at h;cases h
 | x::xs,K,l,ys,h=>by
  by_cases h0:(go x K).1=0
  ·simp [chainL,h0]
  ·simp only [List.cons_append,chainL,if_neg h0] at h ⊢
   exact chainL_stop ys h
@[go_sem] theorem mapOwn_kE:∀ K:KM,mapOwn (kE K)=false
 | []=>rfl
 | e::K=>by
  have h:=mapOwn_kE K
  unfold kE at h ⊢
  simp only [List.map_cons,mapOwn,isOwnH,h,Bool.false_or]
theorem pureEs_kE:∀ K:KM,pureEs (kE K)=True
 | []=>rfl
 | e::K=>by
  have h:=pureEs_kE K
  unfold kE at h ⊢
  simp only [List.map_cons,pureEs,h,and_true]
  exact eq_true rfl
attribute [go_sem] pureEs_kE
theorem ren_kE (g:Nat→Nat):∀ K:KM,V.renE g (kE K)=kE K∧mentE (kE K) = []
 | []=>⟨rfl,rfl⟩
 | e::K=>by
  have h:=ren_kE g K
  unfold kE at h ⊢
  simp only [List.map_cons,V.renE,mentE,h.1,h.2,V.ren,V.ment,List.nil_append,and_self]
def chainF (p:ProjR):Nat→ByteArray→KM→Int×KM
 | 0,_,K=>(0,K)
 | f+1,n,K=>if valK n K≠0 then (max (valK n K) 0,K) else
   if (chainL (chainF p f) (inner p n) (putK n (-1) K) 1).1=true
   then ((chainL (chainF p f) (inner p n) (putK n (-1) K) 1).2.1,putK n (chainL (chainF p f) (inner p n) (putK n (-1) K) 1).2.1 (chainL (chainF p f) (inner p n) (putK n (-1) K) 1).2.2)
   else (0,(chainL (chainF p f) (inner p n) (putK n (-1) K) 1).2.2)
theorem valK_put (n m:ByteArray) (v:Int) (K:KM):valK n (putK m v K)=if n=m then v else valK n K:=by
 unfold valK
 rw [getK_put]
 split<;>rfl
def unk (l:List SequenceR) (K:KM):Nat:=(l.filter fun s=>decide (valK s.name K=0)).length
def grows (K K':KM):Prop := ∀ n,valK n K≠0→valK n K'≠0
theorem grows.refl (K:KM):grows K K:=fun _ h=>h
theorem grows.trans {a b c:KM} (h:grows a b) (h':grows b c):grows a c:=fun n hn=>h' n (h n hn)
theorem grows_put (n:ByteArray) {v:Int} (hv:v≠0) (K:KM):grows K (putK n v K):=fun m h=>by
 rw [valK_put]
 split
 ·exact hv
 ·exact h
theorem unk_le {K K':KM} (h:grows K K'):∀ l:List SequenceR,unk l K'≤unk l K
 | []=>Nat.le_refl _
 | s::l=>by
  have ih:=unk_le h l
  unfold unk at ih ⊢
  simp only [List.filter_cons]
  have h1:=h s.name
  by_cases h2:valK s.name K=0
  ·rw [decide_eq_true h2]
   split<;>simp<;>omega
  ·rw [decide_eq_false h2,decide_eq_false (h1 h2)]
   simpa using ih
theorem unk_put {K:KM} {n:ByteArray} {v:Int} (hv:v≠0) (hn:valK n K=0):∀ {l:List SequenceR},(∃ s∈l,s.name=n)→unk l (putK n v K)<unk l K
 | [],h=>by obtain ⟨s,hs,_⟩:=h;cases hs
 | s::l,h=>by
  have hle:=unk_le (grows_put n hv K) l
  have ih:=fun h'=>unk_put (K:=K) (n:=n) hv hn (l:=l) h'
  unfold unk at ih hle ⊢
  simp only [List.filter_cons]
  by_cases hs:s.name=n
  ·rw [hs,decide_eq_true hn,valK_put,if_pos rfl,decide_eq_false hv]
   simp
   omega
  ·have h':∃ s∈l,s.name=n:=by
    obtain ⟨s',h1,h2⟩:=h
    rcases List.mem_cons.1 h1 with rfl | h1
    ·exact absurd h2 hs
    ·exact ⟨s',h1,h2⟩
   have ih:=ih h'
   rw [valK_put,if_neg hs]
   split<;>simp<;>omega
theorem chainL_ge {go:ByteArray→KM→Int×KM}:∀ (xs:List ByteArray) (K:KM) (l:Int),l≤(chainL go xs K l).2.1
 | [],K,l=>Int.le_refl _
 | x::xs,K,l=>by
  unfold chainL
  split
  ·exact Int.le_refl _
  ·exact Int.le_trans (Int.le_max_left _ _) (chainL_ge xs _ _)
theorem chainL_grows {go:ByteArray→KM→Int×KM} (hg:∀ x K,grows K (go x K).2):∀ (xs:List ByteArray) (K:KM) (l:Int),grows K (chainL go xs K l).2.2
 | [],K,l=>grows.refl K
 | x::xs,K,l=>by
  unfold chainL
  split
  ·exact hg x K
  ·exact (hg x K).trans (chainL_grows hg xs _ _)
theorem chainF_grows (p:ProjR):∀ (f:Nat) (n:ByteArray) (K:KM),grows K (chainF p f n K).2
 | 0,n,K=>grows.refl K
 | f+1,n,K=>by
  unfold chainF
  split
  ·exact grows.refl K
  ·have h:=(grows_put n (v := -1) (by decide) K).trans (chainL_grows (chainF_grows p f) (inner p n) (putK n (-1) K) 1)
   split
   ·refine h.trans (grows_put _ ?_ _)
    have:=chainL_ge (go:=chainF p f) (inner p n) (putK n (-1) K) 1
    omega
   ·exact h
structure SeqOk (s:SequenceR):Prop where
 hv:s.video.length≤8
 hs:s.sound.length≤8
 hm:∀ t∈s.video++s.sound,t.length≤maxLen
 hz:∀ kind, ∀ x∈namesK kind (clipsOf s),x.size≤maxLen
 hn:∀ kind,(namesK kind (clipsOf s)).length≤1000000
structure ShownOk (p:ProjR):Prop where
 ok:∀ s∈p.seqs,SeqOk s
 there:∀ s∈p.seqs, ∀ x∈namesK 2 (clipsOf s),(seqOf p.seqs x).isSome=true
theorem mem_namedS {s:SequenceR} {kind:Int} {x:ByteArray}:x∈namedS s kind ↔ x∈namesK kind (clipsOf s):=by
 unfold namedS
 rw [(sortN_perm _).mem_iff,mem_once]
set_option maxHeartbeats 4000000 in
theorem cChain (p:ProjR) (hp:ShownOk p):∀ (f:Nat) (n:ByteArray) (K:KM),(seqOf p.seqs n).isSome=true→unk p.seqs K<f →
  CIO Tryz.prog 43 1 [(0, .map (kE K))] [vcat p,vstr n, .own 0] (vint (chainF p f n K).1) [(0, .map (kE (chainF p f n K).2))] 1
 | 0,n,K,_,h=>absurd h (Nat.not_lt_zero _)
 | f+1,n,K,hs,hk=>by
  obtain ⟨s,hsn⟩:=Option.isSome_iff_exists.1 hs
  obtain ⟨hsm,hsname⟩:=lastOf_mem hsn
  have hso:=hp.ok s hsm
  have ih:=cChain p hp f
  refine cio_of Tryz.xen43 Tryz.func43 rfl Tryz.ntmps43 (by rw [Tryz.results43]) (aw_ok _ ?_)
  by_cases hv:valK n K=0
  ·have e0:chainF p (f+1) n K=if (chainL (chainF p f) (inner p n) (putK n (-1) K) 1).1=true
   then ((chainL (chainF p f) (inner p n) (putK n (-1) K) 1).2.1,putK n (chainL (chainF p f) (inner p n) (putK n (-1) K) 1).2.1 (chainL (chainF p f) (inner p n) (putK n (-1) K) 1).2.2)
   else (0,(chainL (chainF p f) (inner p n) (putK n (-1) K) 1).2.2):=by
    conv=>lhs;unfold chainF
    rw [if_neg (fun h=>h hv)]
   have hin:inner p n=namedS s 2:=by unfold inner;rw [hsn];rfl
   obtain ⟨ns,hns⟩:∃ ns,ns=namedS s 2:=⟨_,rfl⟩
   rw [hin, ← hns] at e0
   have hu:unk p.seqs (putK n (-1) K)<f:=Nat.lt_of_lt_of_le (unk_put (by decide) hv ⟨s,hsm,hsname⟩) (Nat.le_of_lt_succ hk)
   have hthere:∀ x∈ns,(seqOf p.seqs x).isSome=true:=fun x hx=>hp.there s hsm x (mem_namedS.1 (hns ▸ hx))
   obtain ⟨K1,hK1⟩:∃ K1,K1=putK n (-1) K:=⟨_,rfl⟩
   have hnl:ns.length≤1000000:=by
    rw [hns];unfold namedS;rw [(sortN_perm _).length_eq]
    exact Nat.le_trans (once_length_le _) (hso.hn 2)
   rw [← hK1] at e0 hu
   rw [e0]
   clear e0
   rcases hg:getK n K with _ | v
   ·simp only [go_sem,simprocAttr,look_K,hg,Option.map_none]
    refine ⟨_,cNamed p n 2 s hsn hso.hv hso.hs hso.hm (hso.hz 2) (hso.hn 2),?_⟩
    simp only [go_sem,simprocAttr,put_K]
    rw [← hns, ← hK1]
    refine awp_loop_f (fun (k:Nat) σ => setB 0 (.map (kE (chainL (chainF p f) (ns.take k) K1 1).2.2)) (setS 8 (vint (chainL (chainF p f) (ns.take k) K1 1).2.1) (setS 25 (vint k) (deadS [10,11,26,27,28,29,30,31,32,33,34,35,36,37,38,39] (cleanS σ))))) (fun k=>k≤ns.length∧(chainL (chainF p f) (ns.take k) K1 1).1=true) (fun k=>ns.length - k) 0 (weak_self ?_) ⟨Nat.zero_le _,rfl⟩ ?_
    ·simp only [go_sem,simprocAttr]<;>simp [chainL,pureEs_kE]
    ·rintro k ⟨hk,hok⟩
     refine aw_ok _ ?_
     simp only [go_sem,simprocAttr]
     refine ⟨fun hlt=>?_,fun hge=>?_⟩
     ·simp only [bxx] at hlt
      have hk':k<ns.length:=by omega
      obtain ⟨x,hx⟩:∃ x,x=ns.getD k default:=⟨_,rfl⟩
      have hxm:x∈ns:=by rw [hx,getD_of_lt hk'];exact List.getElem_mem hk'
      obtain ⟨r,hr⟩:∃ r,r=chainL (chainF p f) (ns.take k) K1 1:=⟨_,rfl⟩
      have hur:unk p.seqs r.2.2<f:=Nat.lt_of_le_of_lt (unk_le (hr ▸ chainL_grows (chainF_grows p f) (ns.take k) K1 1) p.seqs) hu
      have hsn':=chainL_snoc (chainF p f) x (ns.take k) K1 1
      rw [← hr,if_pos (hr ▸ hok),hx, ← take_snoc hk', ← hx] at hsn'
      rw [← hr]
      unfold awS
      simp only [go_sem,simprocAttr,hk',List.length_map]
      have hxd:ns.getD k { data := #[] }=x:=by rw [hx];rfl
      rw [hxd]
      refine ⟨⟨by omega,by omega⟩,lcall_io Tryz.xen43 (icall_io (ih x r.2.2 (hthere x hxm) hur) [0] rfl (by omega) (by decide) ?_ rfl rfl rfl rfl ?_)⟩
      ·simp only [go_sem,simprocAttr,(ren_kE id _).2,(ren_kE _ _).1]
      ·simp only [go_sem,simprocAttr]
       refine brW (b:=decide ((chainF p f x r.2.2).1=0)) rfl ⟨fun h0=>?_,fun h0=>?_⟩
       ·rw [decide_eq_true_eq] at h0
        rw [if_pos h0] at hsn'
        unfold awS
        simp only [go_sem,simprocAttr]
        have hst:=chainL_stop (go:=chainF p f) (xs:=ns.take (k+1)) (K:=K1) (l:=1) (ns.drop (k+1)) (by rw [hsn'])
        rw [List.take_append_drop,hsn'] at hst
        rw [hst]
        refine weak_self ?_
        simp only [go_sem,simprocAttr]<;>simp [ren_kE]
       ·rw [decide_eq_false_iff_not] at h0
        rw [if_neg h0] at hsn'
        unfold awS
        simp only [go_sem,simprocAttr]
        refine ⟨k+1,weak_self ?_,⟨by omega,by rw [hsn']⟩,by omega⟩
        simp only [go_sem,simprocAttr]
        rw [hsn']
        simp [wrap1 (show k<9223372036854775807 by omega),ren_kE]
     ·simp only [bxx] at hge
      unfold awS
      simp only [go_sem,simprocAttr]
      rw [List.take_of_length_le (show ns.length≤k by omega)] at hok
      rw [List.take_of_length_le (show ns.length≤k by omega)]
      rw [hok,if_pos rfl]
      refine weak_self ?_
      simp only [go_sem,simprocAttr,put_K]<;>simp
   ·have hv0:v=0:=by simpa [valK,hg] using hv
    subst hv0
    simp only [go_sem,simprocAttr,look_K,hg,Option.map_some]
    refine ⟨_,cNamed p n 2 s hsn hso.hv hso.hs hso.hm (hso.hz 2) (hso.hn 2),?_⟩
    simp only [go_sem,simprocAttr,put_K]
    rw [← hns, ← hK1]
    refine awp_loop_f (fun (k:Nat) σ => setB 0 (.map (kE (chainL (chainF p f) (ns.take k) K1 1).2.2)) (setS 8 (vint (chainL (chainF p f) (ns.take k) K1 1).2.1) (setS 25 (vint k) (deadS [10,11,26,27,28,29,30,31,32,33,34,35,36,37,38,39] (cleanS σ))))) (fun k=>k≤ns.length∧(chainL (chainF p f) (ns.take k) K1 1).1=true) (fun k=>ns.length - k) 0 (weak_self ?_) ⟨Nat.zero_le _,rfl⟩ ?_
    ·simp only [go_sem,simprocAttr]<;>simp [chainL,pureEs_kE]
    ·rintro k ⟨hk,hok⟩
     refine aw_ok _ ?_
     simp only [go_sem,simprocAttr]
     refine ⟨fun hlt=>?_,fun hge=>?_⟩
     ·simp only [bxx] at hlt
      have hk':k<ns.length:=by omega
      obtain ⟨x,hx⟩:∃ x,x=ns.getD k default:=⟨_,rfl⟩
      have hxm:x∈ns:=by rw [hx,getD_of_lt hk'];exact List.getElem_mem hk'
      obtain ⟨r,hr⟩:∃ r,r=chainL (chainF p f) (ns.take k) K1 1:=⟨_,rfl⟩
      have hur:unk p.seqs r.2.2<f:=Nat.lt_of_le_of_lt (unk_le (hr ▸ chainL_grows (chainF_grows p f) (ns.take k) K1 1) p.seqs) hu
      have hsn':=chainL_snoc (chainF p f) x (ns.take k) K1 1
      rw [← hr,if_pos (hr ▸ hok),hx, ← take_snoc hk', ← hx] at hsn'
      rw [← hr]
      unfold awS
      simp only [go_sem,simprocAttr,hk',List.length_map]
      have hxd:ns.getD k { data := #[] }=x:=by rw [hx];rfl
      rw [hxd]
      refine ⟨⟨by omega,by omega⟩,lcall_io Tryz.xen43 (icall_io (ih x r.2.2 (hthere x hxm) hur) [0] rfl (by omega) (by decide) ?_ rfl rfl rfl rfl ?_)⟩
      ·simp only [go_sem,simprocAttr,(ren_kE id _).2,(ren_kE _ _).1]
      ·simp only [go_sem,simprocAttr]
       refine brW (b:=decide ((chainF p f x r.2.2).1=0)) rfl ⟨fun h0=>?_,fun h0=>?_⟩
       ·rw [decide_eq_true_eq] at h0
        rw [if_pos h0] at hsn'
        unfold awS
        simp only [go_sem,simprocAttr]
        have hst:=chainL_stop (go:=chainF p f) (xs:=ns.take (k+1)) (K:=K1) (l:=1) (ns.drop (k+1)) (by rw [hsn'])
        rw [List.take_append_drop,hsn'] at hst
        rw [hst]
        refine weak_self ?_
        simp only [go_sem,simprocAttr]<;>simp [ren_kE]
       ·rw [decide_eq_false_iff_not] at h0
        rw [if_neg h0] at hsn'
        unfold awS
        simp only [go_sem,simprocAttr]
        refine ⟨k+1,weak_self ?_,⟨by omega,by rw [hsn']⟩,by omega⟩
        simp only [go_sem,simprocAttr]
        rw [hsn']
        simp [wrap1 (show k<9223372036854775807 by omega),ren_kE]
     ·simp only [bxx] at hge
      unfold awS
      simp only [go_sem,simprocAttr]
      rw [List.take_of_length_le (show ns.length≤k by omega)] at hok
      rw [List.take_of_length_le (show ns.length≤k by omega)]
      rw [hok,if_pos rfl]
      refine weak_self ?_
      simp only [go_sem,simprocAttr,put_K]<;>simp
  ·obtain ⟨v,hg⟩:∃ v,getK n K=some v:=by
    cases h:getK n K with
    | none=>exact absurd (by unfold valK;rw [h];rfl) hv
    | some v=>exact ⟨v,rfl⟩
   have hvv:valK n K=v:=by unfold valK;rw [hg];rfl
   have e0:chainF p (f+1) n K=(max v 0,K):=by
    conv=>lhs;unfold chainF
    rw [if_pos hv,hvv]
   rw [e0]
   simp only [go_sem,simprocAttr,look_K,hg,Option.map_some]
   refine brW (b:=true) (by rw [hvv] at hv;simpa using hv) ⟨fun _=>?_,fun h=>absurd h (by decide)⟩
   unfold awS
   simp only [go_sem,simprocAttr]
   refine weak_self ?_
   simp only [go_sem,simprocAttr]<;>simp
open Go.RowKit
set_option maxRecDepth 4000
theorem asClo (f:FuncId):∀ (w:World) (E:Env) v,RdV w E (.t (.lit (.func (.func f) #[] #[]))) v→RdV w E (.clo f []) v:=by
 intro w E v h
 obtain ⟨rfl,_⟩:=rdV_lit_inv h
 simp only [RdV]
 exact ⟨#[],rfl,by simp only [RdVs]⟩
theorem findIdx_hit {α : Type} [Inhabited α] {l:List α} {p : α → Bool} {k:Nat} (hk:k<l.length) (hi:∀ i,i<k→p (l.getD i default)=true) (h:p (l.getD k default)=false):l.findIdx (fun m => !p m)=k:=by
 rw [List.findIdx_eq hk]
 refine ⟨?_,fun j hj=>?_⟩
 ·rw [getD_of_lt hk] at h
  rw [h]
  rfl
 ·have:=hi j hj
  rw [getD_of_lt (by omega)] at this
  rw [this]
  rfl
theorem cEveryS (t:List ClipR) (hm:t.length≤maxLen):CPure Tryz.prog 77 [.t (tclips t), .clo 78 []] (vbool (t.all silentB)):=by
 refine cpure_of Tryz.xen77 Tryz.func77 rfl Tryz.ntmps77 (by rw [Tryz.results77]) (aw_ok _ ?_)
 simp only [go_sem,simprocAttr]
 refine awp_loop_f (fun (k:Nat) σ => setS 9 (vint k) (deadS [6,10,11,12,13,14,15,16,17] (cleanS σ))) (fun k=>k≤t.length ∧ ∀ i,i<k→silentB (t.getD i default)=true) (fun k=>t.length - k) 0 (weak_self ?_) ⟨Nat.zero_le _,by omega⟩ ?_
 ·simp only [go_sem,simprocAttr]<;>simp
 ·rintro k ⟨hk,hi⟩
  refine aw_ok _ ?_
  simp only [go_sem,simprocAttr]
  refine ⟨fun hlt=>?_,fun hge=>?_⟩
  ·simp only [bxx] at hlt
   unfold awS
   simp only [go_sem,simprocAttr]
   refine ⟨⟨by omega,by omega⟩,?_⟩
   refine lcall_pure (cPSilent _) rfl ?_
   simp only [go_sem,simprocAttr]
   refine ⟨fun h2=>?_,fun h2=>?_⟩
   ·unfold awS
    simp only [go_sem,simprocAttr]
    rw [all_hit (d:=default) (p:=silentB) (k:=k) (by omega) (nt h2)]
   ·unfold awS
    simp only [go_sem,simprocAttr]
    refine ⟨k+1,weak_self ?_,⟨by omega,upto hi (nf h2)⟩,by omega⟩
    simp only [go_sem,simprocAttr]<;>simp [wrap_of (show k<t.length by omega) hm]
  ·simp only [bxx] at hge
   unfold awS
   simp only [go_sem,simprocAttr]
   rw [all_done (d:=default) (p:=silentB) (fun i h2=>hi i (by omega))]
theorem cEveryS2 (t:List ClipR) (hm:t.length≤maxLen):CPure Tryz.prog 77 [.t (tclips t), .t (.lit (.func (.func 78) #[] #[]))] (vbool (t.all silentB)) :=
 cpure_as (.cons as_refl (.cons (asClo _) .nil)) (cEveryS t hm)
theorem cAud (s:SequenceR) (c:ClipR):CPure Tryz.prog 79 [vclip c, .elem 9 (SequenceR.c s) [SequenceR.c s] 0 0] (vbool (audB s.channels c)):=by
 refine cpure_of Tryz.xen79 Tryz.func79 rfl Tryz.ntmps79 (by rw [Tryz.results79]) (aw_ok _ ?_)
 simp only [go_sem,simprocAttr,nth_one,SequenceR.c]
 refine ⟨_,cPAudible c s.channels,?_⟩
 simp only [go_sem,simprocAttr]
theorem cEveryA (s:SequenceR) (t:List ClipR) (hm:t.length≤maxLen):CPure Tryz.prog 77 [.t (tclips t), .clo 79 [.elem 9 (SequenceR.c s) [SequenceR.c s] 0 0]] (vbool (t.all (audB s.channels))):=by
 refine cpure_of Tryz.xen77 Tryz.func77 rfl Tryz.ntmps77 (by rw [Tryz.results77]) (aw_ok _ ?_)
 simp only [go_sem,simprocAttr]
 refine awp_loop_f (fun (k:Nat) σ => setS 9 (vint k) (deadS [6,10,11,12,13,14,15,16,17] (cleanS σ))) (fun k=>k≤t.length ∧ ∀ i,i<k→(audB s.channels) (t.getD i default)=true) (fun k=>t.length - k) 0 (weak_self ?_) ⟨Nat.zero_le _,by omega⟩ ?_
 ·simp only [go_sem,simprocAttr]<;>simp
 ·rintro k ⟨hk,hi⟩
  refine aw_ok _ ?_
  simp only [go_sem,simprocAttr]
  refine ⟨fun hlt=>?_,fun hge=>?_⟩
  ·simp only [bxx] at hlt
   unfold awS
   simp only [go_sem,simprocAttr]
   refine ⟨⟨by omega,by omega⟩,?_⟩
   refine lcall_pure (cAud s _) rfl ?_
   simp only [go_sem,simprocAttr]
   refine ⟨fun h2=>?_,fun h2=>?_⟩
   ·unfold awS
    simp only [go_sem,simprocAttr]
    rw [all_hit (d:=default) (p:=(audB s.channels)) (k:=k) (by omega) (nt h2)]
   ·unfold awS
    simp only [go_sem,simprocAttr]
    refine ⟨k+1,weak_self ?_,⟨by omega,upto hi (nf h2)⟩,by omega⟩
    simp only [go_sem,simprocAttr]<;>simp [wrap_of (show k<t.length by omega) hm]
  ·simp only [bxx] at hge
   unfold awS
   simp only [go_sem,simprocAttr]
   rw [all_done (d:=default) (p:=(audB s.channels)) (fun i h2=>hi i (by omega))]
theorem cIdxM (l:List MediumR) (h:∀ m∈l,m.fit) (hm:l.length≤1000000):CPure Tryz.prog 68 [.t (tmedia l), .clo 38 []] (vint (if l.all medOk then -1 else (l.findIdx fun m => !medOk m:Nat))):=by
 refine cpure_of Tryz.xen68 Tryz.func68 rfl Tryz.ntmps68 (by rw [Tryz.results68]) (aw_ok _ ?_)
 simp only [go_sem,simprocAttr]
 refine awp_loop_f (fun (k:Nat) σ => setS 8 (vint k) (deadS [5,9,10,11,12,13,14,15,16,17,18] (cleanS σ))) (fun k=>k≤l.length ∧ ∀ i,i<k→medOk (l.getD i default)=true) (fun k=>l.length - k) 0 (weak_self ?_) ⟨Nat.zero_le _,by omega⟩ ?_
 ·simp only [go_sem,simprocAttr]<;>simp
 ·rintro k ⟨hk,hi⟩
  refine aw_ok _ ?_
  simp only [go_sem,simprocAttr]
  refine ⟨fun hlt=>?_,fun hge=>?_⟩
  ·simp only [bxx] at hlt
   unfold awS
   simp only [go_sem,simprocAttr]
   refine ⟨⟨by omega,by omega⟩,?_⟩
   refine lcall_pure (cPMed _ (h _ (mem_getD (by omega)))) rfl ?_
   simp only [go_sem,simprocAttr]
   refine ⟨fun h2=>?_,fun h2=>?_⟩
   ·unfold awS
    simp only [go_sem,simprocAttr]
    rw [all_hit (d:=default) (p:=medOk) (k:=k) (by omega) (nt h2),if_neg Bool.false_ne_true,findIdx_hit (by omega) hi (nt h2)]
   ·unfold awS
    simp only [go_sem,simprocAttr]
    refine ⟨k+1,weak_self ?_,⟨by omega,upto hi (nf h2)⟩,by omega⟩
    simp only [go_sem,simprocAttr]<;>simp [wrap1 (show k<9223372036854775807 by omega)]
  ·simp only [bxx] at hge
   unfold awS
   simp only [go_sem,simprocAttr]
   rw [all_done (d:=default) (p:=medOk) (fun i h2=>hi i (by omega)),if_pos rfl]
theorem cHasM (l:List MediumR) (h:∀ m∈l,m.fit) (hm:l.length≤1000000):CPure Tryz.prog 37 [.t (tmedia l), .t (.lit (.func (.func 38) #[] #[]))] (vbool (!l.all medOk)):=by
 refine cpure_as (.cons as_refl (.cons (asClo _) .nil)) (args:=[.t (tmedia l), .clo 38 []]) ?_
 refine cpure_of Tryz.xen37 Tryz.func37 rfl Tryz.ntmps37 (by rw [Tryz.results37]) (aw_ok _ ?_)
 simp only [go_sem,simprocAttr]
 refine ⟨_,cIdxM l h hm,?_⟩
 simp only [go_sem,simprocAttr]
 cases l.all medOk<;>simp<;>omega
def seqHdOk (s:SequenceR):Bool:=vName s.name&&rateOk s.rate&&sizeOk s.w&&sizeOk s.h&&chanOk s.channels&&cuesOk s.cues
def vidOk (t:List ClipR):Bool:=vTrack t&&t.all silentB
def sndOk (ch:Int) (t:List ClipR):Bool:=vTrack t&&t.all (audB ch)
def seqOk (s:SequenceR):Bool:=seqHdOk s&&s.video.all vidOk&&s.sound.all (sndOk s.channels)
theorem trk_len {t:List ClipR} (h:vTrack t=true):t.length≤64:=by
 unfold vTrack at h
 simp only [Bool.and_eq_true,decide_eq_true_eq] at h
 exact h.1.1
theorem cMalS (s:SequenceR) (h:s.fit) (hv:s.video.length≤1000000) (hs:s.sound.length≤1000000):CPure Tryz.prog 40 [vsequence s] (vbool (!seqOk s)):=by
 refine cpure_of Tryz.xen40 Tryz.func40 rfl Tryz.ntmps40 (by rw [Tryz.results40]) (aw_ok _ ?_)
 simp only [go_sem,simprocAttr]
 refine ⟨_,cPName s.name,?_⟩
 simp only [go_sem,simprocAttr]
 refine ⟨_,fun _=>cPRate s.rate h.rate,?_⟩
 simp only [go_sem,simprocAttr]
 refine ⟨_,fun _=>cPSize s.w,?_⟩
 simp only [go_sem,simprocAttr]
 refine ⟨_,fun _=>cPSize s.h,?_⟩
 simp only [go_sem,simprocAttr]
 refine ⟨_,fun _=>cPChanCount s.channels,?_⟩
 simp only [go_sem,simprocAttr]
 refine ⟨_,fun _=>cPCues s.cues h.cues,?_⟩
 simp only [go_sem,simprocAttr]
 refine brW (b := !seqHdOk s) ?_ ⟨fun hh=>?_,fun hh=>?_⟩
 ·unfold seqHdOk
  simp only [Bool.not_and]
 ·unfold awS
  simp only [go_sem,simprocAttr]
  unfold seqOk
  rw [nt hh]
  rfl
 ·unfold awS
  simp only [go_sem,simprocAttr]
  refine awp_loop_f (fun (k:Nat) σ => setS 44 (vint k) (deadS [4,45,46,47,48,49,50,51,52,53,54,55,56] (cleanS σ))) (fun k=>k≤s.video.length ∧ ∀ i,i<k→vidOk (s.video.getD i default)=true) (fun k=>s.video.length - k) 0 (weak_self ?_) ⟨Nat.zero_le _,by omega⟩ ?_
  ·simp only [go_sem,simprocAttr]<;>simp
  ·rintro k ⟨hk,hi⟩
   refine aw_ok _ ?_
   simp only [go_sem,simprocAttr]
   refine ⟨fun hlt=>?_,fun hge=>?_⟩
   ·simp only [bxx] at hlt
    have hd:s.video.getD k []=s.video.getD k default:=rfl
    have hmem:s.video.getD k default∈s.video:=mem_getD (by omega)
    unfold awS
    simp only [go_sem,simprocAttr,hd]
    refine ⟨⟨by omega,by omega⟩,_,cPTrack _ (h.video _ hmem),?_⟩
    simp only [go_sem,simprocAttr]
    refine ⟨_,fun hg=>cEveryS2 _ (Nat.le_trans (trk_len (by simpa using hg)) (by decide)),?_⟩
    simp only [go_sem,simprocAttr]
    refine brW (b := !vidOk (s.video.getD k default)) ?_ ⟨fun hc=>?_,fun hc=>?_⟩
    ·unfold vidOk
     (try simp only [bne]);cases (vTrack (s.video.getD k default))<;>cases ((s.video.getD k default).all silentB)<;>rfl
    ·unfold awS
     simp only [go_sem,simprocAttr]
     unfold seqOk
     rw [all_hit (d:=default) (p:=vidOk) (k:=k) (by omega) (nt hc),Bool.and_false]
     rfl
    ·unfold awS
     simp only [go_sem,simprocAttr]
     refine ⟨k+1,weak_self ?_,⟨by omega,upto hi (nf hc)⟩,by omega⟩
     simp only [go_sem,simprocAttr]<;>simp [wrap1 (show k<9223372036854775807 by omega)]
   ·simp only [bxx] at hge
    have hva:s.video.all vidOk=true:=all_done (d:=default) (p:=vidOk) (fun i h2=>hi i (by omega))
    unfold awS
    simp only [go_sem,simprocAttr]
    refine awp_loop_f (fun (k:Nat) σ => setS 60 (vint k) (deadS [6,61,62,63,64,65,66,67,68,69,70,71,72,73] (cleanS σ))) (fun k=>k≤s.sound.length ∧ ∀ i,i<k→sndOk s.channels (s.sound.getD i default)=true) (fun k=>s.sound.length - k) 0 (weak_self ?_) ⟨Nat.zero_le _,by omega⟩ ?_
    ·simp only [go_sem,simprocAttr]<;>simp
    ·rintro k ⟨hk,hi⟩
     refine aw_ok _ ?_
     simp only [go_sem,simprocAttr]
     refine ⟨fun hlt=>?_,fun hge=>?_⟩
     ·simp only [bxx] at hlt
      have hd:s.sound.getD k []=s.sound.getD k default:=rfl
      have hmem:s.sound.getD k default∈s.sound:=mem_getD (by omega)
      unfold awS
      simp only [go_sem,simprocAttr,hd]
      refine ⟨⟨by omega,by omega⟩,_,cPTrack _ (h.sound _ hmem),?_⟩
      simp only [go_sem,simprocAttr]
      refine ⟨_,fun hg=>cEveryA s _ (Nat.le_trans (trk_len (by simpa using hg)) (by decide)),?_⟩
      simp only [go_sem,simprocAttr]
      refine brW (b := !sndOk s.channels (s.sound.getD k default)) ?_ ⟨fun hc=>?_,fun hc=>?_⟩
      ·unfold sndOk
       (try simp only [bne]);cases (vTrack (s.sound.getD k default))<;>cases ((s.sound.getD k default).all (audB s.channels))<;>rfl
      ·unfold awS
       simp only [go_sem,simprocAttr]
       unfold seqOk
       rw [all_hit (d:=default) (p:=sndOk s.channels) (k:=k) (by omega) (nt hc),Bool.and_false]
       rfl
      ·unfold awS
       simp only [go_sem,simprocAttr]
       refine ⟨k+1,weak_self ?_,⟨by omega,upto hi (nf hc)⟩,by omega⟩
       simp only [go_sem,simprocAttr]<;>simp [wrap1 (show k<9223372036854775807 by omega)]
     ·simp only [bxx] at hge
      unfold awS
      simp only [go_sem,simprocAttr]
      unfold seqOk
      rw [nf hh,hva,all_done (d:=default) (p:=sndOk s.channels) (fun i h2=>hi i (by omega))]
      rfl
theorem cIdxS (l:List SequenceR) (h:∀ m∈l,m.fit) (hm:l.length≤1000000) (hl:∀ s∈l,s.video.length≤1000000∧s.sound.length≤1000000):CPure Tryz.prog 74 [.t (tseqs l), .clo 40 []] (vint (if l.all seqOk then -1 else (l.findIdx fun m => !seqOk m:Nat))):=by
 refine cpure_of Tryz.xen74 Tryz.func74 rfl Tryz.ntmps74 (by rw [Tryz.results74]) (aw_ok _ ?_)
 simp only [go_sem,simprocAttr]
 refine awp_loop_f (fun (k:Nat) σ => setS 8 (vint k) (deadS [5,9,10,11,12,13,14,15,16,17,18] (cleanS σ))) (fun k=>k≤l.length ∧ ∀ i,i<k→seqOk (l.getD i default)=true) (fun k=>l.length - k) 0 (weak_self ?_) ⟨Nat.zero_le _,by omega⟩ ?_
 ·simp only [go_sem,simprocAttr]<;>simp
 ·rintro k ⟨hk,hi⟩
  refine aw_ok _ ?_
  simp only [go_sem,simprocAttr]
  refine ⟨fun hlt=>?_,fun hge=>?_⟩
  ·simp only [bxx] at hlt
   unfold awS
   simp only [go_sem,simprocAttr]
   refine ⟨⟨by omega,by omega⟩,?_⟩
   refine lcall_pure (cMalS _ (h _ (mem_getD (by omega))) (hl _ (mem_getD (by omega))).1 (hl _ (mem_getD (by omega))).2) rfl ?_
   simp only [go_sem,simprocAttr]
   refine ⟨fun h2=>?_,fun h2=>?_⟩
   ·unfold awS
    simp only [go_sem,simprocAttr]
    rw [all_hit (d:=default) (p:=seqOk) (k:=k) (by omega) (nt h2),if_neg Bool.false_ne_true,findIdx_hit (by omega) hi (nt h2)]
   ·unfold awS
    simp only [go_sem,simprocAttr]
    refine ⟨k+1,weak_self ?_,⟨by omega,upto hi (nf h2)⟩,by omega⟩
    simp only [go_sem,simprocAttr]<;>simp [wrap1 (show k<9223372036854775807 by omega)]
  ·simp only [bxx] at hge
   unfold awS
   simp only [go_sem,simprocAttr]
   rw [all_done (d:=default) (p:=seqOk) (fun i h2=>hi i (by omega)),if_pos rfl]
theorem cHasS (l:List SequenceR) (h:∀ m∈l,m.fit) (hm:l.length≤1000000) (hl:∀ s∈l,s.video.length≤1000000∧s.sound.length≤1000000):CPure Tryz.prog 39 [.t (tseqs l), .t (.lit (.func (.func 40) #[] #[]))] (vbool (!l.all seqOk)):=by
 refine cpure_as (.cons as_refl (.cons (asClo _) .nil)) (args:=[.t (tseqs l), .clo 40 []]) ?_
 refine cpure_of Tryz.xen39 Tryz.func39 rfl Tryz.ntmps39 (by rw [Tryz.results39]) (aw_ok _ ?_)
 simp only [go_sem,simprocAttr]
 refine ⟨_,cIdxS l h hm hl,?_⟩
 simp only [go_sem,simprocAttr]
 cases l.all seqOk<;>simp<;>omega
def medSmall (m:MediumR):Bool:=decide ((m.cues.length:Int)≤64)
def seqSmall (s:SequenceR):Bool:=decide ((s.video.length:Int)≤8)&&decide ((s.sound.length:Int)≤8)&&decide ((s.cues.length:Int)≤64)
def smallB (p:ProjR):Bool:=decide ((p.media.length:Int)≤16)&&decide ((p.seqs.length:Int)≤16)&&p.media.all medSmall&&p.seqs.all seqSmall
theorem gt_not (a b:Int):decide (a > b) = !decide (a≤b):=by
 by_cases h:a≤b
 ·rw [decide_eq_true h,decide_eq_false (by omega)];rfl
 ·rw [decide_eq_false h,decide_eq_true (by omega)];rfl
theorem cLarge (p:ProjR):CPure Tryz.prog 36 [vproj p] (vbool (!smallB p)):=by
 refine cpure_of Tryz.xen36 Tryz.func36 rfl Tryz.ntmps36 (by rw [Tryz.results36]) (aw_ok _ ?_)
 simp only [go_sem,simprocAttr]
 refine brW (b := !(decide ((p.media.length:Int)≤16)&&decide ((p.seqs.length:Int)≤16))) ?_ ⟨fun hh=>?_,fun hh=>?_⟩
 ·rw [gt_not,gt_not,Bool.not_and]
 ·unfold awS
  simp only [go_sem,simprocAttr]
  unfold smallB
  rw [nt hh]
  rfl
 ·have hh2:=nf hh
  simp only [Bool.and_eq_true,decide_eq_true_eq] at hh2
  unfold awS
  simp only [go_sem,simprocAttr]
  refine awp_loop_f (fun (k:Nat) σ => setS 20 (vint k) (deadS [4,21,22,23,24,25,26,27,28] (cleanS σ))) (fun k=>k≤p.media.length ∧ ∀ i,i<k→medSmall (p.media.getD i default)=true) (fun k=>p.media.length - k) 0 (weak_self ?_) ⟨Nat.zero_le _,by omega⟩ ?_
  ·simp only [go_sem,simprocAttr]<;>simp
  ·rintro k ⟨hk,hi⟩
   refine aw_ok _ ?_
   simp only [go_sem,simprocAttr]
   refine ⟨fun hlt=>?_,fun hge=>?_⟩
   ·simp only [bxx] at hlt
    unfold awS
    simp only [go_sem,simprocAttr]
    refine ⟨⟨by omega,by omega⟩,?_⟩
    refine brW (b := !medSmall (p.media.getD k default)) ?_ ⟨fun hc=>?_,fun hc=>?_⟩
    ·unfold medSmall
     exact gt_not _ _
    ·unfold awS
     simp only [go_sem,simprocAttr]
     unfold smallB
     rw [nf hh,all_hit (d:=default) (p:=medSmall) (k:=k) (by omega) (nt hc)]
     rfl
    ·unfold awS
     simp only [go_sem,simprocAttr]
     refine ⟨k+1,weak_self ?_,⟨by omega,upto hi (nf hc)⟩,by omega⟩
     simp only [go_sem,simprocAttr]<;>simp [wrap1 (show k<9223372036854775807 by omega)]
   ·simp only [bxx] at hge
    have hva:p.media.all medSmall=true:=all_done (d:=default) (p:=medSmall) (fun i h2=>hi i (by omega))
    unfold awS
    simp only [go_sem,simprocAttr]
    refine awp_loop_f (fun (k:Nat) σ => setS 32 (vint k) (deadS [6,33,34,35,36,37,38,39,40,41,42,43,44,45,46,47,48,49,50,51,52] (cleanS σ))) (fun k=>k≤p.seqs.length ∧ ∀ i,i<k→seqSmall (p.seqs.getD i default)=true) (fun k=>p.seqs.length - k) 0 (weak_self ?_) ⟨Nat.zero_le _,by omega⟩ ?_
    ·simp only [go_sem,simprocAttr]<;>simp
    ·rintro k ⟨hk,hi⟩
     refine aw_ok _ ?_
     simp only [go_sem,simprocAttr]
     refine ⟨fun hlt=>?_,fun hge=>?_⟩
     ·simp only [bxx] at hlt
      unfold awS
      simp only [go_sem,simprocAttr]
      refine ⟨⟨by omega,by omega⟩,?_⟩
      refine brW (b := !seqSmall (p.seqs.getD k default)) ?_ ⟨fun hc=>?_,fun hc=>?_⟩
      ·unfold seqSmall
       rw [gt_not,gt_not,gt_not,Bool.not_and,Bool.not_and]
      ·unfold awS
       simp only [go_sem,simprocAttr]
       unfold smallB
       rw [nf hh,hva,all_hit (d:=default) (p:=seqSmall) (k:=k) (by omega) (nt hc)]
       rfl
      ·unfold awS
       simp only [go_sem,simprocAttr]
       refine ⟨k+1,weak_self ?_,⟨by omega,upto hi (nf hc)⟩,by omega⟩
       simp only [go_sem,simprocAttr]<;>simp [wrap1 (show k<9223372036854775807 by omega)]
     ·simp only [bxx] at hge
      unfold awS
      simp only [go_sem,simprocAttr]
      unfold smallB
      rw [nf hh,hva,all_done (d:=default) (p:=seqSmall) (fun i h2=>hi i (by omega))]
      rfl
open Go.RowKit
set_option maxRecDepth 4000
def chainA (p:ProjR):List SequenceR→KM→Bool×KM
 | [],K=>(true,K)
 | s::l,K=>if (chainF p (p.seqs.length+1) s.name K).1=0 then (false,(chainF p (p.seqs.length+1) s.name K).2) else chainA p l (chainF p (p.seqs.length+1) s.name K).2
theorem chainA_snoc (p:ProjR) (x:SequenceR):∀ (xs:List SequenceR) (K:KM),chainA p (xs ++ [x]) K =
  if (chainA p xs K).1=true then (if (chainF p (p.seqs.length+1) x.name (chainA p xs K).2).1=0 then (false,(chainF p (p.seqs.length+1) x.name (chainA p xs K).2).2) else (true,(chainF p (p.seqs.length+1) x.name (chainA p xs K).2).2)) else chainA p xs K
 | [],K=>by by_cases h:(chainF p (p.seqs.length+1) x.name K).1=0<;>simp [chainA,h]
 | y::xs,K=>by
  simp only [List.cons_append,chainA]
  split
  ·rfl
  ·exact chainA_snoc p x xs _
theorem chainA_stop {p:ProjR}:∀ {xs:List SequenceR} {K:KM} (ys:List SequenceR),(chainA p xs K).1=false→chainA p (xs++ys) K=chainA p xs K
 | [],K,ys,h=>by unfold chainA at h;cases h
 | x::xs,K,ys,h=>by
  by_cases h0:(chainF p (p.seqs.length+1) x.name K).1=0
  ·simp [chainA,h0]
  ·simp only [List.cons_append,chainA,if_neg h0] at h ⊢
   exact chainA_stop ys h
def deepB (K:KM) (s:SequenceR):Bool:=decide (valK s.name K≤5)
def uniqB (p:ProjR):Bool := !(decide (((catM p.media).length:Int)<p.media.length)||decide (((catS p.seqs).length:Int)<p.seqs.length))
def validP (p:ProjR):Int :=
 if smallB p=false then 5 else
 if (p.media.all medOk&&p.seqs.all seqOk)=false then 1 else
 if uniqB p=false then 8 else
 if p.seqs.all (complS p)=false then 7 else
 if (chainA p p.seqs []).1=false then 16 else
 if p.seqs.all (deepB (chainA p p.seqs []).2)=false then 18 else 0
theorem flatLen64 {l:List (List ClipR)} (h:∀ t∈l,t.length≤64):l.flatten.length≤64*l.length:=by
 induction l with
 | nil=>simp
 | cons t l ih =>
  have h1:=h t (by simp)
  have h2:=ih fun u hu=>h u (by simp [hu])
  simp only [List.flatten_cons,List.length_append,List.length_cons]
  omega
theorem namesK_len (kind:Int):∀ l:List ClipR,(namesK kind l).length≤2*l.length
 | []=>by simp [namesK]
 | c::l=>by
  have ih:=namesK_len kind l
  rw [show c::l = [c]++l from rfl,namesK_append]
  simp only [List.length_append,List.length_cons,List.length_nil]
  have:(namesK kind [c]).length≤2:=by
   unfold namesK
   rw [List.length_map]
   refine Nat.le_trans (List.length_filter_le _ _) ?_
   simp
  omega
theorem mem_namesK {kind:Int} {l:List ClipR} {x:ByteArray} (h:x∈namesK kind l):∃ c∈l, ∃ s:SourceR,(s=c.a∨s=c.b)∧s.kind=kind∧s.name=x:=by
 unfold namesK at h
 obtain ⟨s,h1,rfl⟩:=List.mem_map.1 h
 rw [List.mem_filter,List.mem_flatMap] at h1
 obtain ⟨⟨c,hc,h2⟩,h3⟩:=h1
 simp only [List.mem_cons,List.not_mem_nil,or_false] at h2
 exact ⟨c,hc,s,h2,by simpa using h3,rfl⟩
theorem valid_trk {s:SequenceR} (h:seqOk s=true):∀ t∈s.video++s.sound,vTrack t=true:=by
 unfold seqOk at h
 simp only [Bool.and_eq_true,List.all_eq_true] at h
 intro t ht
 rcases List.mem_append.1 ht with ht | ht
 ·have:=h.1.2 t ht
  unfold vidOk at this
  simp only [Bool.and_eq_true] at this
  exact this.1
 ·have:=h.2 t ht
  unfold sndOk at this
  simp only [Bool.and_eq_true] at this
  exact this.1
theorem src_size {s:SourceR} (h:vSource s=true):s.name.size≤maxLen:=by
 unfold vSource at h
 rw [Bool.or_eq_true] at h
 rcases h with h | h
 ·unfold SourceR.isZ SourceR.eqb zSource at h
  simp only [Bool.and_eq_true,beq_iff_eq] at h
  rw [bytes_inj h.1.1.1.1.1.2]
  decide
 ·simp only [Bool.and_eq_true,vName,decide_eq_true_eq] at h
  have:=h.1.1.1.1.1.2.1.2
  unfold maxLen
  omega
theorem clip_srcs {c:ClipR} (h:vClip c=true):vSource c.a=true∧vSource c.b=true :=
 ⟨(vClip_parts h).2.2.2.2.2.1,(vClip_parts h).2.2.2.2.2.2.1⟩
theorem seq_ok {s:SequenceR} (hS:seqSmall s=true) (h:seqOk s=true):SeqOk s:=by
 have ht:=valid_trk h
 have hl:∀ t∈s.video++s.sound,t.length≤64:=fun t h'=>trk_len (ht t h')
 unfold seqSmall at hS
 simp only [Bool.and_eq_true,decide_eq_true_eq] at hS
 have hcl:(clipsOf s).length≤1024:=by
  have:=flatLen64 hl
  rw [List.length_append] at this
  unfold clipsOf
  omega
 refine ⟨by omega,by omega,fun t h'=>Nat.le_trans (hl t h') (by decide),fun kind x hx=>?_,fun kind=>?_⟩
 ·obtain ⟨c,hc,src,h1,_,rfl⟩:=mem_namesK hx
  unfold clipsOf at hc
  obtain ⟨t,h2,h3⟩:=List.mem_flatten.1 hc
  have h4:=ht t h2
  unfold vTrack at h4
  simp only [Bool.and_eq_true,List.all_eq_true] at h4
  have h5:=clip_srcs (h4.1.2 c h3)
  rcases h1 with rfl | rfl
  ·exact src_size h5.1
  ·exact src_size h5.2
 ·have:=namesK_len kind (clipsOf s)
  omega
theorem shown_ok {p:ProjR} (hS:smallB p=true) (h:(p.media.all medOk&&p.seqs.all seqOk)=true) (hc:p.seqs.all (complS p)=true):ShownOk p:=by
 unfold smallB at hS
 simp only [Bool.and_eq_true,List.all_eq_true,decide_eq_true_eq] at hS h hc
 refine ⟨fun s hs=>seq_ok (hS.2 s hs) (h.2 s hs),fun s hs x hx=>?_⟩
 obtain ⟨c,hcm,src,h1,h2,rfl⟩:=mem_namesK hx
 have h3:=hc s hs
 unfold complS at h3
 rw [List.all_eq_true] at h3
 have h4:=h3 c hcm
 unfold clipThere at h4
 rw [Bool.and_eq_true] at h4
 have key:∀ src:SourceR,srcThere p src=true→src.kind=2→(seqOf p.seqs src.name).isSome=true:=fun src h5 h6=>by
  unfold srcThere at h5
  rw [h6] at h5
  cases h7:seqOf p.seqs src.name with
  | none=>rw [h7] at h5;simp at h5
  | some s=>rfl
 rcases h1 with rfl | rfl
 ·exact key _ h4.1 h2
 ·exact key _ h4.2 h2
set_option maxHeartbeats 4000000 in
theorem cValid (p:ProjR) (h:p.fit):CPure Tryz.prog 20 [vproj p] (vint (validP p)):=by
 refine cpure_of Tryz.xen20 Tryz.func20 rfl Tryz.ntmps20 (by rw [Tryz.results20]) (awp_facts fun hf=>aw_ok _ ?_)
 simp only [go_sem,Nat.reduceGT,Nat.reducePow,Nat.reduceLT,↓reduceIte,Nat.reduceAdd,Nat.reduceMul,Nat.reduceSub,Nat.reduceMod,Nat.reduceLeDiff,Nat.reduceEqDiff,Nat.reduceBEq,reduceCtorEq]
 refine ⟨_,cLarge p,?_⟩
 simp only [go_sem,Nat.reduceGT,Nat.reducePow,Nat.reduceLT,↓reduceIte,Nat.reduceAdd,Nat.reduceMul,Nat.reduceSub,Nat.reduceMod,Nat.reduceLeDiff,Nat.reduceEqDiff,Nat.reduceBEq,reduceCtorEq]
 refine ⟨fun h1=>?_,fun h1=>?_⟩
 ·unfold awS
  simp only [go_sem,Nat.reduceGT,Nat.reducePow,Nat.reduceLT,↓reduceIte,Nat.reduceAdd,Nat.reduceMul,Nat.reduceSub,Nat.reduceMod,Nat.reduceLeDiff,Nat.reduceEqDiff,Nat.reduceBEq,reduceCtorEq]
  exact ⟨nopValid,by unfold validP;rw [nt h1];rfl⟩
 ·have hS:=nf h1
  have hS2:=hS
  unfold smallB at hS2
  simp only [Bool.and_eq_true,decide_eq_true_eq,List.all_eq_true] at hS2
  have hsl:∀ s∈p.seqs,s.video.length≤1000000∧s.sound.length≤1000000:=fun s hs=>by
   have h2:=hS2.2 s hs
   unfold seqSmall at h2
   simp only [Bool.and_eq_true,decide_eq_true_eq] at h2
   omega
  unfold awS
  simp only [go_sem,Nat.reduceGT,Nat.reducePow,Nat.reduceLT,↓reduceIte,Nat.reduceAdd,Nat.reduceMul,Nat.reduceSub,Nat.reduceMod,Nat.reduceLeDiff,Nat.reduceEqDiff,Nat.reduceBEq,reduceCtorEq]
  refine ⟨_,cHasM p.media h.media (by omega),?_⟩
  simp only [go_sem,Nat.reduceGT,Nat.reducePow,Nat.reduceLT,↓reduceIte,Nat.reduceAdd,Nat.reduceMul,Nat.reduceSub,Nat.reduceMod,Nat.reduceLeDiff,Nat.reduceEqDiff,Nat.reduceBEq,reduceCtorEq]
  refine ⟨_,fun _=>cHasS p.seqs h.seqs (by omega) hsl,?_⟩
  simp only [go_sem,Nat.reduceGT,Nat.reducePow,Nat.reduceLT,↓reduceIte,Nat.reduceAdd,Nat.reduceMul,Nat.reduceSub,Nat.reduceMod,Nat.reduceLeDiff,Nat.reduceEqDiff,Nat.reduceBEq,reduceCtorEq]
  refine brW (b := !(p.media.all medOk&&p.seqs.all seqOk)) ?_ ⟨fun h2=>?_,fun h2=>?_⟩
  ·rw [Bool.not_and]
  ·unfold awS
   simp only [go_sem,Nat.reduceGT,Nat.reducePow,Nat.reduceLT,↓reduceIte,Nat.reduceAdd,Nat.reduceMul,Nat.reduceSub,Nat.reduceMod,Nat.reduceLeDiff,Nat.reduceEqDiff,Nat.reduceBEq,reduceCtorEq]
   exact ⟨nopValid,by unfold validP;rw [hS,nt h2];rfl⟩
  ·have hO:=nf h2
   unfold awS
   simp only [go_sem,Nat.reduceGT,Nat.reducePow,Nat.reduceLT,↓reduceIte,Nat.reduceAdd,Nat.reduceMul,Nat.reduceSub,Nat.reduceMod,Nat.reduceLeDiff,Nat.reduceEqDiff,Nat.reduceBEq,reduceCtorEq]
   refine icall_pure (cCat p (by omega) (by omega)) rfl ?_
   simp only [go_sem,Nat.reduceGT,Nat.reducePow,Nat.reduceLT,↓reduceIte,Nat.reduceAdd,Nat.reduceMul,Nat.reduceSub,Nat.reduceMod,Nat.reduceLeDiff,Nat.reduceEqDiff,Nat.reduceBEq,reduceCtorEq]
   refine brW (b := !uniqB p) ?_ ⟨fun h3=>?_,fun h3=>?_⟩
   ·unfold uniqB
    simp only [Bool.not_not]
   ·unfold awS
    simp only [go_sem,Nat.reduceGT,Nat.reducePow,Nat.reduceLT,↓reduceIte,Nat.reduceAdd,Nat.reduceMul,Nat.reduceSub,Nat.reduceMod,Nat.reduceLeDiff,Nat.reduceEqDiff,Nat.reduceBEq,reduceCtorEq]
    exact ⟨nopValid,by unfold validP;rw [hS,hO,nt h3];rfl⟩
   ·have hU:=nf h3
    unfold awS
    simp only [go_sem,Nat.reduceGT,Nat.reducePow,Nat.reduceLT,↓reduceIte,Nat.reduceAdd,Nat.reduceMul,Nat.reduceSub,Nat.reduceMod,Nat.reduceLeDiff,Nat.reduceEqDiff,Nat.reduceBEq,reduceCtorEq]
    refine awp_loop_f (fun (k:Nat) σ => setS 43 (vint k) (deadS [5,44,45,46,47,48,49,50,51] (cleanS σ))) (fun k=>k≤p.seqs.length ∧ ∀ i,i<k→complS p (p.seqs.getD i default)=true) (fun k=>p.seqs.length - k) 0 (weak_self ?_) ⟨Nat.zero_le _,by omega⟩ ?_
    ·simp only [go_sem,Nat.reduceGT,Nat.reducePow,Nat.reduceLT,↓reduceIte,Nat.reduceAdd,Nat.reduceMul,Nat.reduceSub,Nat.reduceMod,Nat.reduceLeDiff,Nat.reduceEqDiff,Nat.reduceBEq,reduceCtorEq]<;>simp
    ·rintro k ⟨hk,hi⟩
     refine aw_ok _ ?_
     simp only [go_sem,Nat.reduceGT,Nat.reducePow,Nat.reduceLT,↓reduceIte,Nat.reduceAdd,Nat.reduceMul,Nat.reduceSub,Nat.reduceMod,Nat.reduceLeDiff,Nat.reduceEqDiff,Nat.reduceBEq,reduceCtorEq]
     refine ⟨fun hlt=>?_,fun hge=>?_⟩
     ·simp only [decide_eq_true_eq,decide_eq_false_iff_not,beq_iff_eq,bne_iff_ne,ne_eq,beq_eq_false_iff_ne,Bool.not_eq_true',Bool.not_eq_true,Bool.not_eq_false',Bool.or_eq_true,Bool.and_eq_true,Bool.or_eq_false_iff,Bool.and_eq_false_iff,Bool.false_eq_true,Bool.not_eq_eq_eq_not,Bool.not_true,Bool.not_false] at hlt
      have hmem:p.seqs.getD k default∈p.seqs:=mem_getD (by omega)
      have hok:=seq_ok (hS2.2 _ hmem) (by rw [Bool.and_eq_true,List.all_eq_true,List.all_eq_true] at hO;exact hO.2 _ hmem)
      unfold awS
      simp only [go_sem,Nat.reduceGT,Nat.reducePow,Nat.reduceLT,↓reduceIte,Nat.reduceAdd,Nat.reduceMul,Nat.reduceSub,Nat.reduceMod,Nat.reduceLeDiff,Nat.reduceEqDiff,Nat.reduceBEq,reduceCtorEq]
      refine ⟨⟨by omega,by omega⟩,_,cCompl p _ hok.hv hok.hs hok.hm,?_⟩
      simp only [go_sem,Nat.reduceGT,Nat.reducePow,Nat.reduceLT,↓reduceIte,Nat.reduceAdd,Nat.reduceMul,Nat.reduceSub,Nat.reduceMod,Nat.reduceLeDiff,Nat.reduceEqDiff,Nat.reduceBEq,reduceCtorEq]
      refine brW (b := !complS p (p.seqs.getD k default)) ?_ ⟨fun hc=>?_,fun hc=>?_⟩
      ·rfl
      ·unfold awS
       simp only [go_sem,Nat.reduceGT,Nat.reducePow,Nat.reduceLT,↓reduceIte,Nat.reduceAdd,Nat.reduceMul,Nat.reduceSub,Nat.reduceMod,Nat.reduceLeDiff,Nat.reduceEqDiff,Nat.reduceBEq,reduceCtorEq]
       exact ⟨nopValid,by unfold validP;rw [hS,hO,hU,all_hit (d:=default) (p:=complS p) (k:=k) (by omega) (nt hc)];rfl⟩
      ·unfold awS
       simp only [go_sem,Nat.reduceGT,Nat.reducePow,Nat.reduceLT,↓reduceIte,Nat.reduceAdd,Nat.reduceMul,Nat.reduceSub,Nat.reduceMod,Nat.reduceLeDiff,Nat.reduceEqDiff,Nat.reduceBEq,reduceCtorEq]
       refine ⟨k+1,weak_self ?_,⟨by omega,upto hi (nf hc)⟩,by omega⟩
       simp only [go_sem,Nat.reduceGT,Nat.reducePow,Nat.reduceLT,↓reduceIte,Nat.reduceAdd,Nat.reduceMul,Nat.reduceSub,Nat.reduceMod,Nat.reduceLeDiff,Nat.reduceEqDiff,Nat.reduceBEq,reduceCtorEq]<;>simp [wrap1 (show k<9223372036854775807 by omega)]
     ·simp only [decide_eq_true_eq,decide_eq_false_iff_not,beq_iff_eq,bne_iff_ne,ne_eq,beq_eq_false_iff_ne,Bool.not_eq_true',Bool.not_eq_true,Bool.not_eq_false',Bool.or_eq_true,Bool.and_eq_true,Bool.or_eq_false_iff,Bool.and_eq_false_iff,Bool.false_eq_true,Bool.not_eq_eq_eq_not,Bool.not_true,Bool.not_false] at hge
      have hC:p.seqs.all (complS p)=true:=all_done (d:=default) (p:=complS p) (fun i h2=>hi i (by omega))
      have hSh:=shown_ok hS hO hC
      unfold awS
      simp only [go_sem,Nat.reduceGT,Nat.reducePow,Nat.reduceLT,↓reduceIte,Nat.reduceAdd,Nat.reduceMul,Nat.reduceSub,Nat.reduceMod,Nat.reduceLeDiff,Nat.reduceEqDiff,Nat.reduceBEq,reduceCtorEq]
      refine awp_loop_f (fun (k:Nat) σ => setB 3 (.map (kE (chainA p (p.seqs.take k) []).2)) (setS 56 (vint k) (deadS [8,57,58,59,60,61,62,63,64,65,66] (cleanS σ)))) (fun k=>k≤p.seqs.length∧(chainA p (p.seqs.take k) []).1=true) (fun k=>p.seqs.length - k) 0 (weak_self ?_) ⟨Nat.zero_le _,rfl⟩ ?_
      ·simp only [go_sem,Nat.reduceGT,Nat.reducePow,Nat.reduceLT,↓reduceIte,Nat.reduceAdd,Nat.reduceMul,Nat.reduceSub,Nat.reduceMod,Nat.reduceLeDiff,Nat.reduceEqDiff,Nat.reduceBEq,reduceCtorEq]<;>simp [chainA,kE]
      ·rintro k ⟨hk,hok⟩
       refine aw_ok _ ?_
       simp only [go_sem,Nat.reduceGT,Nat.reducePow,Nat.reduceLT,↓reduceIte,Nat.reduceAdd,Nat.reduceMul,Nat.reduceSub,Nat.reduceMod,Nat.reduceLeDiff,Nat.reduceEqDiff,Nat.reduceBEq,reduceCtorEq]
       refine ⟨fun hlt=>?_,fun hge=>?_⟩
       ·simp only [decide_eq_true_eq,decide_eq_false_iff_not,beq_iff_eq,bne_iff_ne,ne_eq,beq_eq_false_iff_ne,Bool.not_eq_true',Bool.not_eq_true,Bool.not_eq_false',Bool.or_eq_true,Bool.and_eq_true,Bool.or_eq_false_iff,Bool.and_eq_false_iff,Bool.false_eq_true,Bool.not_eq_eq_eq_not,Bool.not_true,Bool.not_false] at hlt
        have hk':k<p.seqs.length:=by omega
        obtain ⟨s,hs⟩:∃ s,s=p.seqs.getD k default:=⟨_,rfl⟩
        have hmem:s∈p.seqs:=by rw [hs];exact mem_getD hk'
        obtain ⟨r,hr⟩:∃ r,r=chainA p (p.seqs.take k) []:=⟨_,rfl⟩
        have hsn:=chainA_snoc p s (p.seqs.take k) []
        rw [← hr,if_pos (hr ▸ hok),hs, ← take_snoc hk', ← hs] at hsn
        rw [← hr]
        have hseq:(seqOf p.seqs s.name).isSome=true:=by
         cases h9:seqOf p.seqs s.name with
         | none=>exact absurd rfl (lastOf_none.1 h9 s hmem)
         | some _=>rfl
        have hun:unk p.seqs r.2<p.seqs.length+1:=Nat.lt_succ_of_le (List.length_filter_le _ _)
        unfold awS
        simp only [go_sem,Nat.reduceGT,Nat.reducePow,Nat.reduceLT,↓reduceIte,Nat.reduceAdd,Nat.reduceMul,Nat.reduceSub,Nat.reduceMod,Nat.reduceLeDiff,Nat.reduceEqDiff,Nat.reduceBEq,reduceCtorEq]
        rw [← hs]
        refine ⟨⟨by omega,by omega⟩,lcall_io Tryz.xen43 (icall_io (cChain p hSh (p.seqs.length+1) s.name r.2 hseq hun) [3] rfl (by omega) (by decide) ?_ rfl rfl rfl rfl ?_)⟩
        ·simp only [go_sem,Nat.reduceGT,Nat.reducePow,Nat.reduceLT,↓reduceIte,Nat.reduceAdd,Nat.reduceMul,Nat.reduceSub,Nat.reduceMod,Nat.reduceLeDiff,Nat.reduceEqDiff,Nat.reduceBEq,reduceCtorEq,(ren_kE id _).2,(ren_kE _ _).1]
        ·simp only [go_sem,Nat.reduceGT,Nat.reducePow,Nat.reduceLT,↓reduceIte,Nat.reduceAdd,Nat.reduceMul,Nat.reduceSub,Nat.reduceMod,Nat.reduceLeDiff,Nat.reduceEqDiff,Nat.reduceBEq,reduceCtorEq]
         refine brW (b:=decide ((chainF p (p.seqs.length+1) s.name r.2).1=0)) ?_ ⟨fun h0=>?_,fun h0=>?_⟩
         ·rfl
         ·rw [decide_eq_true_eq] at h0
          rw [if_pos h0] at hsn
          have hst:=chainA_stop (p:=p) (xs:=p.seqs.take (k+1)) (K:=[]) (p.seqs.drop (k+1)) (by rw [hsn])
          rw [List.take_append_drop,hsn] at hst
          unfold awS
          simp only [go_sem,Nat.reduceGT,Nat.reducePow,Nat.reduceLT,↓reduceIte,Nat.reduceAdd,Nat.reduceMul,Nat.reduceSub,Nat.reduceMod,Nat.reduceLeDiff,Nat.reduceEqDiff,Nat.reduceBEq,reduceCtorEq]
          exact ⟨nopValid,by unfold validP;rw [hS,hO,hU,hC,hst];rfl⟩
         ·rw [decide_eq_false_iff_not] at h0
          rw [if_neg h0] at hsn
          unfold awS
          simp only [go_sem,Nat.reduceGT,Nat.reducePow,Nat.reduceLT,↓reduceIte,Nat.reduceAdd,Nat.reduceMul,Nat.reduceSub,Nat.reduceMod,Nat.reduceLeDiff,Nat.reduceEqDiff,Nat.reduceBEq,reduceCtorEq]
          refine ⟨k+1,weak_self ?_,⟨by omega,by rw [hsn]⟩,by omega⟩
          simp only [go_sem,Nat.reduceGT,Nat.reducePow,Nat.reduceLT,↓reduceIte,Nat.reduceAdd,Nat.reduceMul,Nat.reduceSub,Nat.reduceMod,Nat.reduceLeDiff,Nat.reduceEqDiff,Nat.reduceBEq,reduceCtorEq]
          rw [hsn]
          simp [wrap1 (show k<9223372036854775807 by omega),ren_kE]
       ·simp only [decide_eq_true_eq,decide_eq_false_iff_not,beq_iff_eq,bne_iff_ne,ne_eq,beq_eq_false_iff_ne,Bool.not_eq_true',Bool.not_eq_true,Bool.not_eq_false',Bool.or_eq_true,Bool.and_eq_true,Bool.or_eq_false_iff,Bool.and_eq_false_iff,Bool.false_eq_true,Bool.not_eq_eq_eq_not,Bool.not_true,Bool.not_false] at hge
        rw [List.take_of_length_le (show p.seqs.length≤k by omega)] at hok
        unfold awS
        simp only [go_sem,Nat.reduceGT,Nat.reducePow,Nat.reduceLT,↓reduceIte,Nat.reduceAdd,Nat.reduceMul,Nat.reduceSub,Nat.reduceMod,Nat.reduceLeDiff,Nat.reduceEqDiff,Nat.reduceBEq,reduceCtorEq]
        rw [List.take_of_length_le (show p.seqs.length≤k by omega)]
        obtain ⟨KK,hKK⟩:∃ KK,KK=(chainA p p.seqs []).2:=⟨_,rfl⟩
        rw [← hKK]
        refine awp_loop_f (fun (k:Nat) σ => setS 70 (vint k) (deadS [10,71,72,73,74,75,76,77,78,79] (cleanS σ))) (fun k=>k≤p.seqs.length ∧ ∀ i,i<k→deepB KK (p.seqs.getD i default)=true) (fun k=>p.seqs.length - k) 0 (weak_self ?_) ⟨Nat.zero_le _,by omega⟩ ?_
        ·simp only [go_sem,Nat.reduceGT,Nat.reducePow,Nat.reduceLT,↓reduceIte,Nat.reduceAdd,Nat.reduceMul,Nat.reduceSub,Nat.reduceMod,Nat.reduceLeDiff,Nat.reduceEqDiff,Nat.reduceBEq,reduceCtorEq]<;>simp
        ·rintro k ⟨hk,hi⟩
         refine aw_ok _ ?_
         simp only [go_sem,Nat.reduceGT,Nat.reducePow,Nat.reduceLT,↓reduceIte,Nat.reduceAdd,Nat.reduceMul,Nat.reduceSub,Nat.reduceMod,Nat.reduceLeDiff,Nat.reduceEqDiff,Nat.reduceBEq,reduceCtorEq]
         refine ⟨fun hlt=>?_,fun hge=>?_⟩
         ·simp only [decide_eq_true_eq,decide_eq_false_iff_not,beq_iff_eq,bne_iff_ne,ne_eq,beq_eq_false_iff_ne,Bool.not_eq_true',Bool.not_eq_true,Bool.not_eq_false',Bool.or_eq_true,Bool.and_eq_true,Bool.or_eq_false_iff,Bool.and_eq_false_iff,Bool.false_eq_true,Bool.not_eq_eq_eq_not,Bool.not_true,Bool.not_false] at hlt
          obtain ⟨s,hs⟩:∃ s,s=p.seqs.getD k default:=⟨_,rfl⟩
          unfold awS
          rcases hg:getK s.name KK with _ | v
          all_goals
           simp only [go_sem,Nat.reduceGT,Nat.reducePow,Nat.reduceLT,↓reduceIte,Nat.reduceAdd,Nat.reduceMul,Nat.reduceSub,Nat.reduceMod,Nat.reduceLeDiff,Nat.reduceEqDiff,Nat.reduceBEq,reduceCtorEq, ← hs,look_K,hg,Option.map_none,Option.map_some]
           refine ⟨⟨by omega,by omega⟩,?_⟩
           refine brW (b := !deepB KK (p.seqs.getD k default)) ?_ ⟨fun hc=>?_,fun hc=>?_⟩
           ·rw [gt_not]
            unfold deepB valK
            rw [← hs,hg]
            rfl
           ·unfold awS
            simp only [go_sem,Nat.reduceGT,Nat.reducePow,Nat.reduceLT,↓reduceIte,Nat.reduceAdd,Nat.reduceMul,Nat.reduceSub,Nat.reduceMod,Nat.reduceLeDiff,Nat.reduceEqDiff,Nat.reduceBEq,reduceCtorEq]
            exact ⟨nopValid,by unfold validP;rw [hS,hO,hU,hC,hok, ← hKK,all_hit (d:=default) (p:=deepB KK) (k:=k) (by omega) (nt hc)];rfl⟩
           ·unfold awS
            simp only [go_sem,Nat.reduceGT,Nat.reducePow,Nat.reduceLT,↓reduceIte,Nat.reduceAdd,Nat.reduceMul,Nat.reduceSub,Nat.reduceMod,Nat.reduceLeDiff,Nat.reduceEqDiff,Nat.reduceBEq,reduceCtorEq]
            refine ⟨k+1,weak_self ?_,⟨by omega,upto hi (nf hc)⟩,by omega⟩
            simp only [go_sem,Nat.reduceGT,Nat.reducePow,Nat.reduceLT,↓reduceIte,Nat.reduceAdd,Nat.reduceMul,Nat.reduceSub,Nat.reduceMod,Nat.reduceLeDiff,Nat.reduceEqDiff,Nat.reduceBEq,reduceCtorEq]<;>simp [wrap1 (show k<9223372036854775807 by omega)]
         ·simp only [decide_eq_true_eq,decide_eq_false_iff_not,beq_iff_eq,bne_iff_ne,ne_eq,beq_eq_false_iff_ne,Bool.not_eq_true',Bool.not_eq_true,Bool.not_eq_false',Bool.or_eq_true,Bool.and_eq_true,Bool.or_eq_false_iff,Bool.and_eq_false_iff,Bool.false_eq_true,Bool.not_eq_eq_eq_not,Bool.not_true,Bool.not_false] at hge
          unfold awS
          simp only [go_sem,Nat.reduceGT,Nat.reducePow,Nat.reduceLT,↓reduceIte,Nat.reduceAdd,Nat.reduceMul,Nat.reduceSub,Nat.reduceMod,Nat.reduceLeDiff,Nat.reduceEqDiff,Nat.reduceBEq,reduceCtorEq]
          exact ⟨nopValid,by unfold validP;rw [hS,hO,hU,hC,hok, ← hKK,all_done (d:=default) (p:=deepB KK) (fun i h2=>hi i (by omega))];rfl⟩
open Go.RowKit
set_option maxRecDepth 4000
abbrev nilV:V := .t (.lit (.slice none 0 0))
end Go.Proofs.YtkjdkbmfaamhaaaGreat
