/- Proved here: What the sources of a sequence's clips name is there, for use in the proofs of the given statements; conditions stand in each theorem. -/
import Derived.Test.YtmbmmijdmdoalaaGreatZT
set_option linter.unusedSimpArgs false
set_option linter.unusedVariables false
set_option linter.unusedSectionVars false
set_option linter.unnecessarySimpa false
namespace Go.Proofs.YtmbmmijdmdoalaaGreat
open Go.RowKit
set_option maxRecDepth 4000
def srcThere (p:ProjR) (x:SourceR):Bool := !(x.kind==1&&(medOf p.media x.name).isNone||x.kind==2&&(seqOf p.seqs x.name).isNone)
def clipThere (p:ProjR) (c:ClipR):Bool:=srcThere p c.a&&srcThere p c.b
def complS (p:ProjR) (s:SequenceR):Bool:=(clipsOf s).all (clipThere p)
theorem nth_one (d a:List T):nth d [a] 0=a:=rfl
theorem wr1:IntKind.i64.wrap 1=1:=by decide
theorem wr2:IntKind.i64.wrap 2=2:=by decide
theorem cast2:((2:Nat):Int)=2:=rfl
theorem look_M (n:ByteArray) (l:List MediumR):lookT (.string n) (catM l)=(medOf l n).map fun m => .agg (vmed m):=lookT_mapOf _ _ n l
theorem look_S (n:ByteArray) (l:List SequenceR):lookT (.string n) (catS l)=(seqOf l n).map fun m=>vsequence m:=lookT_mapOf _ _ n l
theorem notCompl {p:ProjR} {s:SequenceR} {tr:List (List ClipR)} {i k:Nat} {c:ClipR} (htr:tr=s.video++s.sound) (hi:i<tr.length) (hk:k<(tr.getD i []).length) (hc:c=(tr.getD i []).getD k default) (hn:clipThere p c=false):complS p s=false:=by
 unfold complS clipsOf
 rw [← htr,List.all_eq_false]
 refine ⟨c,?_,by rw [hn];exact Bool.false_ne_true⟩
 rw [List.mem_flatten]
 refine ⟨tr.getD i [],?_,?_⟩
 ·rw [List.getD_eq_getElem?_getD,List.getElem?_eq_getElem hi]
  exact List.getElem_mem hi
 ·rw [hc,getD_of_lt hk]
  exact List.getElem_mem hk
set_option maxHeartbeats 20000000 in
theorem cCompl (p:ProjR) (s:SequenceR) (hv:s.video.length≤8) (hs:s.sound.length≤8) (hm:∀ t∈s.video++s.sound,t.length≤maxLen):CPure Tryz.prog 112 [vcat p,vsequence s] (vbool (complS p s)):=by
 refine cpure_of Tryz.xen112 Tryz.func112 rfl Tryz.ntmps112 (by rw [Tryz.results112]) (aw_ok _ ?_)
 simp only [go_sem,simprocAttr]
 refine icall_pure (cClips s) rfl ?_
 simp only [go_sem,simprocAttr]
 refine ⟨Tryz.xen214,?_⟩
 unfold rangeB
 refine ⟨rfl,icall_of Tryz.xen214 Tryz.func214 rfl Tryz.ntmps214 (by rw [Tryz.results214]) (aw_ok _ ?_)⟩
 simp only [go_sem,simprocAttr,nth_one,SequenceR.c]
 refine lcall_give ?_
 simp only [go_sem,simprocAttr]
 refine ⟨_,cConcatTr _ s.video s.sound hv hs,?_⟩
 simp only [go_sem,simprocAttr]
 obtain ⟨tr,htr⟩:∃ tr,tr=s.video++s.sound:=⟨_,rfl⟩
 rw [← htr]
 have hlen:tr.length≤16:=by rw [htr,List.length_append];omega
 refine awp_loop_f (fun (i:Nat) σ => setS 14 (vint i) (deadS [4,6,15,16,17,18,19,20,21,22,23,24,25,26,27,28,29] (cleanS σ))) (fun i=>i≤tr.length∧(tr.take i).flatten.all (clipThere p)=true) (fun i=>tr.length - i) 0 (weak_self ?_) ⟨Nat.zero_le _,rfl⟩ ?_
 ·simp only [go_sem,simprocAttr]<;>simp
 ·rintro i ⟨hi,hall⟩
  refine aw_ok _ ?_
  simp only [go_sem,simprocAttr]
  refine ⟨fun hlt=>?_,fun hge=>?_⟩
  ·simp only [bxx] at hlt
   have hi':i<tr.length:=by omega
   unfold awS
   simp only [go_sem,simprocAttr,hi',List.length_map]
   refine ⟨⟨by omega,by omega⟩,?_⟩
   refine awp_loop_f (fun (k:Nat) σ => setS 20 (vint k) (deadS [6,21,22,23,24,25,26,27,28] (cleanS σ))) (fun k=>k≤(tr.getD i []).length∧((tr.getD i []).take k).all (clipThere p)=true) (fun k=>(tr.getD i []).length - k) 0 (weak_self ?_) ⟨Nat.zero_le _,rfl⟩ ?_
   ·simp only [go_sem,simprocAttr]<;>simp
   ·rintro k ⟨hk,hallk⟩
    refine aw_ok _ ?_
    simp only [go_sem,simprocAttr]
    refine ⟨fun hlt=>?_,fun hge=>?_⟩
    ·simp only [bxx] at hlt
     have hk':k<(tr.getD i []).length:=by omega
     have hmt:(tr.getD i []).length≤maxLen:=hm _ (by rw [← htr,List.getD_eq_getElem?_getD,List.getElem?_eq_getElem hi'];exact List.getElem_mem hi')
     have hk9:k<9223372036854775807:=by unfold maxLen at hmt;omega
     unfold awS
     simp only [go_sem,simprocAttr,hk',List.length_map]
     refine ⟨⟨by omega,by omega⟩,aw_ok _ ?_⟩
     simp only [go_sem,simprocAttr]
     refine aw_ok _ ?_
     simp only [go_sem,simprocAttr]
     refine awp_loopL ?_
     refine awpL_step (aw_ok _ ?_)
     simp only [go_sem,simprocAttr,decide_true,decide_false,wr1,wr2,cast2]
     obtain ⟨c,hc⟩:∃ c,c=(tr.getD i []).getD k default:=⟨_,rfl⟩
     rw [← hc]
     rcases h1:medOf p.media c.a.name with _ | m1<;>rcases h2:seqOf p.seqs c.a.name with _ | q1
     rotate_left 3
     ·simp only [go_sem,simprocAttr,decide_true,decide_false,wr1,wr2,cast2,look_M,look_S,h1,h2,Option.map_some,Option.map_none]
      have hb:(!srcThere p c.a)=false:=by unfold srcThere;rw [h1,h2];cases (c.a.kind==1)<;>cases (c.a.kind==2)<;>rfl
      refine awpL_step (aw_ok _ ?_)
      simp only [go_sem,simprocAttr,decide_true,decide_false,wr1,wr2,cast2]
      rcases h3:medOf p.media c.b.name with _ | m2<;>rcases h4:seqOf p.seqs c.b.name with _ | q2
      rotate_left 3
      ·simp only [go_sem,simprocAttr,decide_true,decide_false,wr1,wr2,cast2,look_M,look_S,h3,h4,Option.map_some,Option.map_none]
       have hb':(!srcThere p c.b)=false:=by unfold srcThere;rw [h3,h4];cases (c.b.kind==1)<;>cases (c.b.kind==2)<;>rfl
       refine awpL_step (aw_ok _ ?_)
       simp only [go_sem,simprocAttr,decide_true,decide_false,wr1,wr2,cast2]
       refine ⟨fun h=>absurd h (by decide),fun _=>?_⟩
       unfold awS
       simp only [go_sem,simprocAttr,decide_true,decide_false]
       refine ⟨k+1,weak_self ?_,⟨by omega,?_⟩,by omega⟩
       ·simp only [go_sem,simprocAttr]<;>simp [wrap1 hk9]
       ·simp only [Bool.not_eq_false'] at hb hb'
        rw [take_snoc hk',List.all_append,hallk, ← hc]
        simp [clipThere,hb,hb']
      all_goals
       simp only [go_sem,simprocAttr,decide_true,decide_false,wr1,wr2,cast2,look_M,look_S,h3,h4,Option.map_some,Option.map_none]
       refine brW (b := !srcThere p c.b) (by unfold srcThere;rw [h3,h4];cases (c.b.kind==1)<;>cases (c.b.kind==2)<;>rfl) ⟨fun hb'=>?_,fun hb'=>?_⟩
       ·unfold awS
        simp only [go_sem,simprocAttr,decide_true,decide_false]
        refine ⟨fun _=>?_,fun h=>absurd h (by decide)⟩
        unfold awS
        simp only [go_sem,simprocAttr,decide_true,decide_false]
        simp only [Bool.not_eq_true'] at hb'
        rw [notCompl htr hi' hk' hc (by unfold clipThere;rw [hb',Bool.and_false])]
       ·unfold awS
        simp only [go_sem,simprocAttr,decide_true,decide_false,wr1,wr2,cast2]
        refine awpL_step (aw_ok _ ?_)
        simp only [go_sem,simprocAttr,decide_true,decide_false,wr1,wr2,cast2]
        refine ⟨fun h=>absurd h (by decide),fun _=>?_⟩
        unfold awS
        simp only [go_sem,simprocAttr,decide_true,decide_false]
        refine ⟨k+1,weak_self ?_,⟨by omega,?_⟩,by omega⟩
        ·simp only [go_sem,simprocAttr]<;>simp [wrap1 hk9]
        ·simp only [Bool.not_eq_false'] at hb hb'
         rw [take_snoc hk',List.all_append,hallk, ← hc]
         simp [clipThere,hb,hb']
     all_goals
      simp only [go_sem,simprocAttr,decide_true,decide_false,wr1,wr2,cast2,look_M,look_S,h1,h2,Option.map_some,Option.map_none]
      refine brW (b := !srcThere p c.a) (by unfold srcThere;rw [h1,h2];cases (c.a.kind==1)<;>cases (c.a.kind==2)<;>rfl) ⟨fun hb=>?_,fun hb=>?_⟩
      ·unfold awS
       simp only [go_sem,simprocAttr,decide_true,decide_false]
       refine ⟨fun _=>?_,fun h=>absurd h (by decide)⟩
       unfold awS
       simp only [go_sem,simprocAttr,decide_true,decide_false]
       simp only [Bool.not_eq_true'] at hb
       rw [notCompl htr hi' hk' hc (by unfold clipThere;rw [hb];rfl)]
      ·unfold awS
       simp only [go_sem,simprocAttr,decide_true,decide_false,wr1,wr2,cast2]
       refine awpL_step (aw_ok _ ?_)
       simp only [go_sem,simprocAttr,decide_true,decide_false,wr1,wr2,cast2]
       rcases h3:medOf p.media c.b.name with _ | m2<;>rcases h4:seqOf p.seqs c.b.name with _ | q2
       rotate_left 3
       ·simp only [go_sem,simprocAttr,decide_true,decide_false,wr1,wr2,cast2,look_M,look_S,h3,h4,Option.map_some,Option.map_none]
        have hb':(!srcThere p c.b)=false:=by unfold srcThere;rw [h3,h4];cases (c.b.kind==1)<;>cases (c.b.kind==2)<;>rfl
        refine awpL_step (aw_ok _ ?_)
        simp only [go_sem,simprocAttr,decide_true,decide_false,wr1,wr2,cast2]
        refine ⟨fun h=>absurd h (by decide),fun _=>?_⟩
        unfold awS
        simp only [go_sem,simprocAttr,decide_true,decide_false]
        refine ⟨k+1,weak_self ?_,⟨by omega,?_⟩,by omega⟩
        ·simp only [go_sem,simprocAttr]<;>simp [wrap1 hk9]
        ·simp only [Bool.not_eq_false'] at hb hb'
         rw [take_snoc hk',List.all_append,hallk, ← hc]
         simp [clipThere,hb,hb']
       all_goals
        simp only [go_sem,simprocAttr,decide_true,decide_false,wr1,wr2,cast2,look_M,look_S,h3,h4,Option.map_some,Option.map_none]
        refine brW (b := !srcThere p c.b) (by unfold srcThere;rw [h3,h4];cases (c.b.kind==1)<;>cases (c.b.kind==2)<;>rfl) ⟨fun hb'=>?_,fun hb'=>?_⟩
        ·unfold awS
         simp only [go_sem,simprocAttr,decide_true,decide_false]
         refine ⟨fun _=>?_,fun h=>absurd h (by decide)⟩
         unfold awS
         simp only [go_sem,simprocAttr,decide_true,decide_false]
         simp only [Bool.not_eq_true'] at hb'
         rw [notCompl htr hi' hk' hc (by unfold clipThere;rw [hb',Bool.and_false])]
        ·unfold awS
         simp only [go_sem,simprocAttr,decide_true,decide_false,wr1,wr2,cast2]
         refine awpL_step (aw_ok _ ?_)
         simp only [go_sem,simprocAttr,decide_true,decide_false,wr1,wr2,cast2]
         refine ⟨fun h=>absurd h (by decide),fun _=>?_⟩
         unfold awS
         simp only [go_sem,simprocAttr,decide_true,decide_false]
         refine ⟨k+1,weak_self ?_,⟨by omega,?_⟩,by omega⟩
         ·simp only [go_sem,simprocAttr]<;>simp [wrap1 hk9]
         ·simp only [Bool.not_eq_false'] at hb hb'
          rw [take_snoc hk',List.all_append,hallk, ← hc]
          simp [clipThere,hb,hb']
    ·simp only [bxx] at hge
     unfold awS
     simp only [go_sem,simprocAttr]
     refine ⟨i+1,weak_self ?_,⟨by omega,?_⟩,by omega⟩
     ·simp only [go_sem,simprocAttr]<;>simp [wrap1 (show i<9223372036854775807 by omega)]
     ·rw [List.take_of_length_le (show (tr.getD i []).length≤k by omega)] at hallk
      rw [take_snoc hi',List.flatten_append,List.all_append,hall,show (default:List ClipR) = [] from rfl]
      simpa using hallk
  ·simp only [bxx] at hge
   unfold awS
   simp only [go_sem,simprocAttr]
   rw [List.take_of_length_le (show tr.length≤i by omega)] at hall
   unfold complS clipsOf
   rw [← htr,hall]
open Go.RowKit
set_option maxRecDepth 4000
def namesK (kind:Int) (l:List ClipR):List ByteArray:=((l.flatMap fun c=>[c.a,c.b]).filter fun x=>x.kind==kind).map fun x=>x.name
theorem namesK_append (kind:Int) (l r:List ClipR):namesK kind (l++r)=namesK kind l++namesK kind r:=by
 unfold namesK
 rw [List.flatMap_append,List.filter_append,List.map_append]
def addK (kind:Int) (x:SourceR) (l:List ByteArray):List ByteArray:=if x.kind==kind then l ++ [x.name] else l
theorem namesK_snoc (kind:Int) (l:List ClipR) (c:ClipR):namesK kind (l ++ [c])=addK kind c.b (addK kind c.a (namesK kind l)):=by
 rw [namesK_append]
 unfold addK
 simp only [namesK,List.flatMap_cons,List.flatMap_nil,List.append_nil,List.filter_cons,List.filter_nil]
 cases h1:(c.a.kind==kind)<;>cases h2:(c.b.kind==kind)<;>simp
def yesC:Bool×List T:=(false,[.lit (.bool true)])
def setN (l:List ByteArray):List Ent:=mapOf (fun n:ByteArray=>n) (fun _=>yesC) l
theorem setN_snoc (l:List ByteArray) (n:ByteArray):setN (l ++ [n])=putT (.string n) yesC (setN l):=mapOf_snoc _ _ l n
theorem put_yes (n:ByteArray) (l:List ByteArray):putE (.string n) (vbool true) (tEs (setN l))=tEs (setN (l ++ [n])):=by
 rw [setN_snoc]
 exact putE_tEs (.string n) yesC (setN l)
theorem kinds_N (l:List ByteArray):kindsT .string (setN l)=true:=kindsT_str (mapOf_str _ _ _)
attribute [go_sem] kinds_N
theorem keys_setN (l:List ByteArray):(tEs (setN l)).map (·.1)=(once l).map Value.string:=by
 have h1:(setN l).map (fun e=>strK e.1)=once l:=by
  have:=keys_mapOf (fun n:ByteArray=>n) (fun _=>yesC) l
  rw [List.map_id'] at this
  exact this
 have h2:strKs (setN l):=mapOf_str _ _ _
 unfold tEs
 rw [List.map_map, ← h1,List.map_map]
 refine List.map_congr_left fun e he=>?_
 obtain ⟨s,hs⟩:=h2 e he
 simp only [Function.comp_apply,hs,strK]
theorem ren_tEs (g:Nat→Nat):∀ es:List Ent,V.renE g (tEs es)=tEs es∧mentE (tEs es) = []
 | []=>⟨rfl,rfl⟩
 | e::es=>by
  have h:=ren_tEs g es
  have h1:=pure_ren g (mkV e.2) (mkV_pure e.2)
  unfold tEs at h ⊢
  simp only [List.map_cons,V.renE,mentE,h1.1,h1.2,h.1,h.2,List.nil_append,and_self]
def namedS (s:SequenceR) (kind:Int):List ByteArray:=sortN (once (namesK kind (clipsOf s)))
abbrev tnames (l:List ByteArray):T:=tstrs l
@[go_sem] def setB (i:Nat) (b:Blk) (σ : St):St := { σ with h := σ.h.set i b }
set_option maxHeartbeats 20000000 in
theorem cNamed (p:ProjR) (n:ByteArray) (kind:Int) (s:SequenceR) (hs:seqOf p.seqs n=some s) (hv:s.video.length≤8) (hs':s.sound.length≤8) (hm:∀ t∈s.video++s.sound,t.length≤maxLen)
  (hz:∀ x∈namesK kind (clipsOf s),x.size≤maxLen) (hn:(namesK kind (clipsOf s)).length≤1000000) :
  CPure Tryz.prog 114 [vcat p,vstr n,vint kind] (.t (tnames (namedS s kind))):=by
 refine cpure_of Tryz.xen114 Tryz.func114 rfl Tryz.ntmps114 (by rw [Tryz.results114]) (aw_ok _ ?_)
 simp only [go_sem,simprocAttr,look_S,hs,Option.map_some]
 refine icall_pure (cClips s) rfl ?_
 simp only [go_sem,simprocAttr]
 refine ⟨Tryz.xen214,?_⟩
 unfold rangeB
 refine ⟨rfl,icall_of Tryz.xen214 Tryz.func214 rfl Tryz.ntmps214 (by rw [Tryz.results214]) (aw_ok _ ?_)⟩
 simp only [go_sem,simprocAttr,nth_one,SequenceR.c]
 refine lcall_give ?_
 simp only [go_sem,simprocAttr]
 refine ⟨_,cConcatTr _ s.video s.sound hv hs',?_⟩
 simp only [go_sem,simprocAttr]
 obtain ⟨tr,htr⟩:∃ tr,tr=s.video++s.sound:=⟨_,rfl⟩
 rw [← htr]
 have hlen:tr.length≤16:=by rw [htr,List.length_append];omega
 refine awp_loop_f (fun (i:Nat) σ => setB 2 (.map (tEs (setN (namesK kind (tr.take i).flatten)))) (setS 14 (vint i) (deadS [4,6,15,16,17,18,19,20,21,22,23,24,25,26,27,28,29] (cleanS σ)))) (fun i=>i≤tr.length) (fun i=>tr.length - i) 0 (weak_self ?_) (Nat.zero_le _) ?_
 ·simp only [go_sem,simprocAttr]<;>simp [setN,namesK,mapOf,tEs]
 ·intro i hi
  refine aw_ok _ ?_
  simp only [go_sem,simprocAttr]
  refine ⟨fun hlt=>?_,fun hge=>?_⟩
  ·simp only [bxx] at hlt
   have hi':i<tr.length:=by omega
   have hmt:(tr.getD i []).length≤maxLen:=hm _ (by rw [← htr,List.getD_eq_getElem?_getD,List.getElem?_eq_getElem hi'];exact List.getElem_mem hi')
   unfold awS
   simp only [go_sem,simprocAttr,hi',List.length_map]
   refine ⟨⟨by omega,by omega⟩,?_⟩
   refine awp_loop_f (fun (k:Nat) σ => setB 2 (.map (tEs (setN (namesK kind ((tr.take i).flatten++(tr.getD i []).take k))))) (setS 20 (vint k) (deadS [6,21,22,23,24,25,26,27,28] (cleanS σ)))) (fun k=>k≤(tr.getD i []).length) (fun k=>(tr.getD i []).length - k) 0 (weak_self ?_) (Nat.zero_le _) ?_
   ·simp only [go_sem,simprocAttr]<;>simp
   ·intro k hk
    refine aw_ok _ ?_
    simp only [go_sem,simprocAttr]
    refine ⟨fun hlt=>?_,fun hge=>?_⟩
    ·simp only [bxx] at hlt
     have hk':k<(tr.getD i []).length:=by omega
     have hk9:k<9223372036854775807:=by unfold maxLen at hmt;omega
     unfold awS
     simp only [go_sem,simprocAttr,hk',List.length_map]
     refine ⟨⟨by omega,by omega⟩,aw_ok _ ?_⟩
     simp only [go_sem,simprocAttr]
     refine aw_ok _ ?_
     simp only [go_sem,simprocAttr]
     obtain ⟨c,hc⟩:∃ c,c=(tr.getD i []).getD k default:=⟨_,rfl⟩
     rw [← hc]
     obtain ⟨l,hl⟩:∃ l,l=namesK kind ((tr.take i).flatten++(tr.getD i []).take k):=⟨_,rfl⟩
     rw [← hl]
     refine awp_loopL ?_
     rcases ha:(c.a.kind==kind) with _ | _<;>rcases hb:(c.b.kind==kind) with _ | _
     all_goals
      refine awpL_step (aw_ok _ ?_)
      simp only [go_sem,simprocAttr,decide_true,decide_false,wr1,wr2,cast2,ha,hb,put_yes]
      refine awpL_step (aw_ok _ ?_)
      simp only [go_sem,simprocAttr,decide_true,decide_false,wr1,wr2,cast2,ha,hb,put_yes]
      refine awpL_step (aw_ok _ ?_)
      simp only [go_sem,simprocAttr,decide_true,decide_false,wr1,wr2,cast2]
      refine ⟨fun h=>absurd h (by decide),fun _=>?_⟩
      unfold awS
      simp only [go_sem,simprocAttr,decide_true,decide_false]
      refine ⟨k+1,weak_self ?_,by omega,by omega⟩
      simp only [go_sem,simprocAttr]
      rw [take_snoc hk', ← hc, ← List.append_assoc,namesK_snoc, ← hl]
      simp [wrap1 hk9,addK,ha,hb]
    ·simp only [bxx] at hge
     unfold awS
     simp only [go_sem,simprocAttr]
     refine ⟨i+1,weak_self ?_,by omega,by omega⟩
     simp only [go_sem,simprocAttr]
     rw [take_snoc hi',List.flatten_append,show (default:List ClipR) = [] from rfl,List.take_of_length_le (show (tr.getD i []).length≤k by omega)]
     simp [wrap1 (show i<9223372036854775807 by omega)]
  ·simp only [bxx] at hge
   unfold awS
   simp only [go_sem,simprocAttr]
   rw [List.take_of_length_le (show tr.length≤i by omega)]
   refine icall_of Tryz.xen54 Tryz.func54 rfl Tryz.ntmps54 (by rw [Tryz.results54]) (aw_ok _ ?_)
   simp only [go_sem,simprocAttr]
   have hcl:tr.flatten=clipsOf s:=by rw [htr];rfl
   rw [hcl]
   refine lcall_io Tryz.xen53 (icall_io (cioSorted (tEs (setN (namesK kind (clipsOf s)))) (once (namesK kind (clipsOf s))) (strC ⟨#[]⟩) (keys_setN _) (once_nodup _) (fun x hx=>hz x (mem_once.1 hx)) (Nat.le_trans (once_length_le _) hn)) [7,2] rfl (by omega) (by decide) ?_ rfl rfl rfl rfl ?_)
   ·simp only [go_sem,simprocAttr,(ren_tEs id _).2,(ren_tEs _ _).1]
    exact decide_eq_true trivial
   ·simp only [go_sem,simprocAttr]<;>rfl
end Go.Proofs.YtmbmmijdmdoalaaGreat
