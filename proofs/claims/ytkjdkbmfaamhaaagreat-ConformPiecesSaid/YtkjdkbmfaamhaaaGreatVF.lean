/- Proved here: The contract of the mixer's making, for use in the proofs of the given statements; conditions stand in each theorem. -/
import Derived.Test.YtkjdkbmfaamhaaaGreatVE
import Derived.Test.YtkjdkbmfaamhaaaGreatVC
import Derived.Test.YtkjdkbmfaamhaaaGreatZG
import Derived.Test.YtkjdkbmfaamhaaaGreatZH
import Derived.RecoverIn
set_option linter.unusedSimpArgs false
set_option linter.unusedVariables false
set_option linter.unusedSectionVars false
set_option linter.unnecessarySimpa false
namespace Go.Proofs.YtkjdkbmfaamhaaaGreat
open Go.RowKit
set_option maxRecDepth 4000
def rtC (m:MediumR):Bool×List T:=(true,[ti m.seq.rate.num,ti m.seq.rate.den])
def rtM (l:List MediumR):List Ent:=mapOf MediumR.name rtC l
def auC (a:AudioR):Bool×List T:=(true,AudioR.c a)
def auM (l:List AudioR):List Ent:=mapOf AudioR.name auC l
theorem put_rt (k:Value) (m:MediumR) (es:List Ent):putE k (vrat m.seq.rate) (tEs es)=tEs (putT k (rtC m) es):=putE_tEs k (rtC m) es
theorem put_au (k:Value) (a:AudioR) (es:List Ent):putE k (.agg [vstr a.name, .t (tchs a.chs)]) (tEs es)=tEs (putT k (auC a) es):=putE_tEs k (auC a) es
theorem kinds_rt (l:List MediumR):kindsT .string (rtM l)=true:=kindsT_str (mapOf_str _ _ _)
theorem kinds_au (l:List AudioR):kindsT .string (auM l)=true:=kindsT_str (mapOf_str _ _ _)
theorem lend_rt (l:List MediumR) (h:Heap) (n:Nat):lendE (lendC h n) (tEs (rtM l))=some (rtM l):=lendE_t _ (lendC_t h n) _ (entsOk_mapOf _ _ (fun _=>rfl) _)
theorem lend_au (l:List AudioR) (h:Heap) (n:Nat):lendE (lendC h n) (tEs (auM l))=some (auM l):=lendE_t _ (lendC_t h n) _ (entsOk_mapOf _ _ (fun _=>rfl) _)
theorem look_rt (n:ByteArray) (l:List MediumR):lookT (.string n) (rtM l)=(medOf l n).map fun m=>vrat m.seq.rate:=lookT_mapOf _ _ n l
theorem look_au (n:ByteArray) (l:List AudioR):lookT (.string n) (auM l)=(lastOf AudioR.name n l).map fun a => .agg [vstr a.name, .t (tchs a.chs)]:=lookT_mapOf _ _ n l
attribute [go_sem] kinds_rt kinds_au lend_rt lend_au
theorem au_new {A:List AudioR} (hn:(A.map AudioR.name).Nodup) {k:Nat} (hk:k<A.length):lookT (.string (A.getD k default).name) (auM (A.take k))=none:=by
 rw [look_au]
 have:lastOf AudioR.name (A.getD k default).name (A.take k)=none:=by
  refine lastOf_none.2 fun x hx he=>?_
  obtain ⟨i,hi,rfl⟩:=List.getElem_of_mem hx
  rw [List.length_take] at hi
  rw [List.getElem_take,getD_of_lt hk] at he
  have h1:(A.map AudioR.name)[i]'(by rw [List.length_map];omega)=(A.map AudioR.name)[k]'(by rw [List.length_map];omega):=by
   rw [List.getElem_map,List.getElem_map]
   exact he
  exact (List.pairwise_iff_getElem.1 hn i k (by rw [List.length_map];omega) (by rw [List.length_map];omega) (by omega)) h1
 rw [this]
 rfl
set_option maxHeartbeats 4000000 in
theorem cNewMixer (md:List MediumR) (q:SequenceR) (hm:md.length≤16) (A:List AudioR) (ha:A.length≤100) (hn:(A.map AudioR.name).Nodup) (h8:q.sound.length≤8) (ht:∀ t∈q.sound,vTrack t=true) :
  CIO Tryz.prog 21 0 [] [vproj ⟨md,[q]⟩, .t (taudios A)] (.own 6) [(6, .box [.own 0, .own 1, .own 2]),(5, .map []),(4, .row 124 3 zTrk (tRows (q.sound.map trkC))),(3, .box [vint q.rate.num,vint q.rate.den,vint q.channels, .own 4, .own 5]),(2, .map [(.string q.name, .own 3)]),(1, .map (tEs (auM A))),(0, .map (tEs (rtM md)))] 7:=by
 have ww1':IntKind.i64.wrap 1=1:=by decide
 have ww1:IntKind.i64.wrap (0+1)=1:=by decide
 refine cio_of Tryz.xen21 Tryz.func21 rfl Tryz.ntmps21 (by rw [Tryz.results21]) (aw_ok _ ?_)
 simp only [go_sem,simprocAttr]
 refine awp_loop_f (fun (k:Nat) σ => setB 1 (.map (tEs (rtM (md.take k)))) (setS 25 (vint k) (deadS [7,26,27,28,29,30,31,32,33,34,35,36,37,38] (cleanS σ)))) (fun k=>k≤md.length) (fun k=>md.length - k) 0 (weak_self ?_) (Nat.zero_le _) ?_
 ·simp only [go_sem,simprocAttr]<;>simp [rtM,mapOf,tEs]
 ·intro k hk
  refine aw_ok _ ?_
  simp only [go_sem,simprocAttr]
  refine ⟨fun hlt=>?_,fun hge=>?_⟩
  ·simp only [bxx] at hlt
   have hkl:k<md.length:=by omega
   have hwk:IntKind.i64.wrap ((k:Int)+1)=((k+1:Nat):Int):=by rw [wrap1 (by omega)];omega
   unfold awS
   simp only [go_sem,simprocAttr]
   refine ⟨⟨by omega,by omega⟩,?_⟩
   refine drawR_of [0,1,2,3,4,5,6,7,8] (.step 9 .done) rfl (by kernel_rfl) (by kernel_rfl) (by decide) ?_
   simp only [go_sem,simprocAttr]
   refine ⟨k+1,weak_self ?_,by omega,by omega⟩
   simp only [go_sem,simprocAttr,hwk]
   refine ⟨by simp,by simp,by simp,by simp,?_,by simp⟩
   unfold rtM
   rw [mapOf_take _ _ hkl]
   exact put_rt _ _ _
  ·simp only [bxx] at hge
   unfold awS
   simp only [go_sem,simprocAttr]
   rw [List.take_of_length_le (show md.length≤k by omega)]
   refine awp_loop_f (fun (j:Nat) σ => setB 2 (.map (tEs (auM (A.take j)))) (setS 41 (vint j) (deadS [9,10,11,42,43,44,45,46,47,48,49,50,51,52,53,54,55,56,57,58,59,60,61,62,63,64] (cleanS σ)))) (fun j=>j≤A.length) (fun j=>A.length - j) 0 (weak_self ?_) (Nat.zero_le _) ?_
   ·simp only [go_sem,simprocAttr]<;>simp [auM,mapOf,tEs]
   ·intro j hj
    refine aw_ok _ ?_
    simp only [go_sem,simprocAttr]
    refine ⟨fun hlt2=>?_,fun hge2=>?_⟩
    ·simp only [bxx] at hlt2
     have hjl:j<A.length:=by omega
     have hwj:IntKind.i64.wrap ((j:Int)+1)=((j+1:Nat):Int):=by rw [wrap1 (by omega)];omega
     have hnew:=au_new hn hjl
     unfold awS
     simp only [go_sem,simprocAttr,aud_nth hjl]
     refine ⟨⟨by omega,by omega⟩,?_⟩
     refine drawC_of 13 .done rfl (by kernel_rfl) (by kernel_rfl) (by decide) ?_
     simp only [go_sem,simprocAttr,hnew]
     refine ⟨by kernel_rfl,?_⟩
     refine drawR_of [0,1,2,3,4,5,6] (.step 7 .done) rfl (by kernel_rfl) (by kernel_rfl) (by decide) ?_
     simp only [go_sem,simprocAttr]
     refine ⟨j+1,weak_self ?_,by omega,by omega⟩
     simp only [go_sem,simprocAttr,hwj]
     refine ⟨by simp,by simp,by simp,?_,by simp,by simp⟩
     unfold auM
     rw [mapOf_take _ _ hjl]
     exact put_au _ _ _
    ·simp only [bxx] at hge2
     unfold awS
     simp only [go_sem,simprocAttr]
     rw [List.take_of_length_le (show A.length≤j by omega)]
     refine awp_loopL ?_
     refine awpL_step (aw_ok _ ?_)
     simp only [go_sem,simprocAttr,decide_true,decide_false,nth_one]
     refine awp_loop_f (fun (i:Nat) σ => { fr:=(deadS [16,83,84,85,86,87,88,89,90,91,92,93,94,95,96,97] (setS 82 (vint i) σ)).fr,h:=[(8, .row 124 3 zTrk (tRows ((q.sound.take i).map trkC))),(7, .box [vint q.rate.num,vint q.rate.den,vint q.channels, .own 8, .own 6]),(6, .map []),(5, .box ((SequenceR.c q).map V.t)),(4, .box [.own 1, .own 2, .own 3]),(3, .map []),(2, .map (tEs (auM A))),(1, .map (tEs (rtM md))),(0, .box [.t (tmedia md), .t (tseqs [q])])],nx:=9 })
      (fun i=>i≤q.sound.length) (fun i=>q.sound.length - i) 0 (weak_of [(8,none),(7,some 7),(6,some 6),(5,some 5),(4,some 4),(3,some 3),(2,some 2),(1,some 1),(0,some 0)] ?_) (Nat.zero_le _) ?_
     ·simp only [go_sem,simprocAttr]<;>simp
     ·intro i hi
      refine aw_ok _ ?_
      simp only [go_sem,simprocAttr]
      refine ⟨fun hlt3=>?_,fun hge3=>?_⟩
      ·simp only [bxx] at hlt3
       have hil:i<q.sound.length:=by omega
       have hwi:IntKind.i64.wrap ((i:Int)+1)=((i+1:Nat):Int):=by rw [wrap1 (by omega)];omega
       have hnt:=cNewTrack _ (ht _ (mem_getD (d:=[]) hil))
       unfold awS
       simp only [go_sem,simprocAttr]
       refine ⟨⟨by omega,by omega⟩,?_⟩
       refine drawC_of 12 .done rfl (by kernel_rfl) (by kernel_rfl) (by decide) ?_
       simp only [go_sem,simprocAttr]
       refine ⟨_,hnt,?_⟩
       have hlen:(q.sound.take i).length=i:=by rw [List.length_take];omega
       simp only [go_sem,simprocAttr]
       refine ⟨⟨by unfold maxLen;omega,by omega⟩,by kernel_rfl,i+1,weak_of [(8,some 17),(7,some 7),(6,some 6),(5,some 5),(4,some 4),(3,some 3),(2,some 2),(1,some 1),(0,some 0)] ?_,by omega,by omega⟩
       simp only [go_sem,simprocAttr,hwi]
       refine ⟨by simp,?_,by simp⟩
       rw [List.take_add_one,List.getElem?_eq_getElem hil,List.map_append,List.getD_eq_getElem?_getD,List.getElem?_eq_getElem hil]
       rfl
      ·simp only [bxx] at hge3
       unfold awS
       simp only [go_sem,simprocAttr]
       rw [List.take_of_length_le (show q.sound.length≤i by omega)]
       refine drawR_of [0,1,2,3,4,5,6] (.step 7 .done) rfl (by kernel_rfl) (by kernel_rfl) (by decide) ?_
       simp only [go_sem,simprocAttr,decide_true,decide_false,ww1,ww1']
       refine awpL_step (aw_ok _ ?_)
       simp only [go_sem,simprocAttr,decide_true,decide_false,ww1,ww1']
       refine weak_of [(6,some 4),(5,some 6),(4,some 8),(3,some 7),(2,some 3),(1,some 2),(0,some 1)] ?_
       simp only [go_sem,simprocAttr]
       simp
open Go.RowKit
set_option maxRecDepth 4000
theorem nopSound:NopD Tryz.prog 19:=by
 refine ⟨Tryz.xen19,fun cap w=>callsDIn_of_wpSIn Tryz.func19 rfl trivial fun c₀ cs hu=>?_⟩
 have k1 : 2<cap.size+(16 - cap.size):=by omega
 have k2 : 5<cap.size+(16 - cap.size):=by omega
 have k3 : 2<max 16 cap.size:=by omega
 have k4 : 5<max 16 cap.size:=by omega
 have k5 : 6<cap.size+(16 - cap.size):=by omega
 have k6 : 7<cap.size+(16 - cap.size):=by omega
 have k7 : 6<max 16 cap.size:=by omega
 have k8 : 7<max 16 cap.size:=by omega
 apply wpSIn_seq
 apply wpSIn_region
 simp [wpOpsSIn,Fence.wide,go_sem,recoverD,hu,Tryz.ntmps19,Exit.thenS,k1,k2,k3,k4,k5,k6,k7,k8]
 apply wpSIn_seq
 apply wpSIn_region
 simp [wpOpsSIn,Fence.wide,go_sem,recoverD,hu,Tryz.ntmps19,Exit.thenS,k1,k2,k3,k4,k5,k6,k7,k8]
 refine wpSIn_cond (t:=false) (by simp [Act.eval,k1,k2,k3,k4,k5,k6,k7,k8]) ?_
 refine wpSIn_of_wpIn rfl (wpIn_skip ?_)
 refine ⟨rfl, .returning,by rw [← hu], .tuple #[],?_,⟨_,rfl⟩,rfl,rfl⟩
 simp [results,Tryz.results19,go_sem]
end Go.Proofs.YtkjdkbmfaamhaaaGreat
