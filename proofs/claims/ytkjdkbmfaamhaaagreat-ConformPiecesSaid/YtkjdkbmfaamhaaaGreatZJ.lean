/- Proved here: The contract of the reference's check of a clip, for use in the proofs of the given statements; conditions stand in each theorem. -/
import Derived.Test.YtkjdkbmfaamhaaaGreatZI
set_option linter.unusedSimpArgs false
set_option linter.unusedVariables false
set_option linter.unusedSectionVars false
set_option linter.unnecessarySimpa false
namespace Go.Proofs.YtkjdkbmfaamhaaaGreat
open Go.RowKit
set_option maxRecDepth 4000
set_option maxHeartbeats 4000000
def chanI (n:Int):Bool:=decide (-1≤n)&&decide (n≤3)
theorem vClip_parts {c:ClipR} (h:vClip c=true) : 1≤c.len∧c.len≤2147483647∧0≤c.gain∧c.gain≤65536∧vChans c.chan=true∧vSource c.a=true∧vSource c.b=true∧kindOk c=true:=by
 unfold vClip baseOk at h
 simp only [Bool.and_eq_true,decide_eq_true_eq] at h
 obtain ⟨⟨⟨⟨⟨⟨⟨q1,q2⟩,q3⟩,q4⟩,q5⟩,q6⟩,q7⟩,q8⟩:=h
 exact ⟨q1,q2,q3,q4,q5,q6,q7,q8⟩
theorem kindOk_range {c:ClipR} (h:kindOk c=true) : 0≤c.kind∧c.kind≤5:=by
 by_cases hk : 0≤c.kind∧c.kind≤5
 ·exact hk
 ·unfold kindOk at h
  repeat rw [if_neg (by omega)] at h
  cases h
theorem kind0 {c:ClipR} (h:c.kind=0):kindOk c=(c.a.isZ&&c.b.isZ&&noShare c&&c.param==0&&emp c.text&&c.gain==0&&c.chan.length==0):=by unfold kindOk;rw [if_pos h]
theorem kind1 {c:ClipR} (h:c.kind=1):kindOk c=(c.b.isZ&&noShare c&&c.param==0&&emp c.text):=by unfold kindOk;rw [if_neg (by omega),if_pos h]
theorem kind2 {c:ClipR} (h:c.kind=2):kindOk c=(shareOk c&&c.param==0&&emp c.text):=by unfold kindOk;rw [if_neg (by omega),if_neg (by omega),if_pos h]
theorem kind3 {c:ClipR} (h:c.kind=3):kindOk c=(shareOk c&&decide (0≤c.param)&&decide (c.param≤3)&&emp c.text):=by unfold kindOk;rw [if_neg (by omega),if_neg (by omega),if_neg (by omega),if_pos h]
theorem kind4 {c:ClipR} (h:c.kind=4):kindOk c=(noShare c&&decide (0≤c.param)&&decide (c.param≤255)&&emp c.text):=by unfold kindOk;rw [if_neg (by omega),if_neg (by omega),if_neg (by omega),if_neg (by omega),if_pos h]
theorem kind5 {c:ClipR} (h:c.kind=5):kindOk c=(c.b.isZ&&noShare c&&c.param==0&&vLine c.text):=by unfold kindOk;rw [if_neg (by omega),if_neg (by omega),if_neg (by omega),if_neg (by omega),if_neg (by omega),if_pos h]
open Go.RowKit
set_option maxRecDepth 4000
def totL:List ClipR→Int
 | []=>0
 | c::l=>c.len+totL l
theorem totL_take:∀ (l:List ClipR) (k:Nat),k<l.length→totL (l.take (k+1))=totL (l.take k)+(l.getD k default).len
 | [],k,h=>by simp at h
 | c::l,0,h=>by simp [totL]
 | c::l,k+1,h=>by
  have:=totL_take l k (by simpa using h)
  simp only [List.take_succ_cons,totL,List.getD_cons_succ] at this ⊢
  omega
theorem totL_bound:∀ (l:List ClipR),(∀ c∈l,1≤c.len∧c.len≤2147483647)→(l.length:Int)≤totL l∧totL l≤2147483647*l.length
 | [],_=>by simp [totL]
 | c::l,h=>by
  have h1:=totL_bound l fun d hd=>h d (by simp [hd])
  have h2:=h c (by simp)
  simp only [totL,List.length_cons]
  omega
def vTrack (t:List ClipR):Bool:=decide (t.length≤64)&&t.all vClip&&decide (totL t≤2147483647)
def lenT (t:List ClipR):Int:=if vTrack t=true then totL t else 0
theorem vClip_len {c:ClipR} (h:vClip c=true) : 1≤c.len∧c.len≤2147483647:=by
 obtain ⟨h1,h2,_⟩:=vClip_parts h
 exact ⟨h1,h2⟩
theorem mem_getD {α : Type} {l:List α} {d : α} {k:Nat} (h:k<l.length):l.getD k d∈l:=by
 rw [List.getD_eq_getElem?_getD,List.getElem?_eq_getElem h];exact List.getElem_mem h
theorem take_all {t:List ClipR} {k:Nat} (hk:k≤t.length) (hi:∀ i,i<k→vClip (t.getD i default)=true):∀ c∈t.take k,1≤c.len∧c.len≤2147483647:=by
 intro c hc
 obtain ⟨i,hi2,rfl⟩:=List.mem_iff_getElem.1 hc
 have h1:i<k:=by simp at hi2;omega
 have:=vClip_len (hi i h1)
 rw [getD_of_lt (by omega)] at this
 simpa using this
theorem tot_range {t:List ClipR} {k:Nat} (hk:k≤t.length) (h64:t.length≤64) (hi:∀ i,i<k→vClip (t.getD i default)=true) : 0≤totL (t.take k)∧totL (t.take k)≤137438953408:=by
 have h1:=totL_bound _ (take_all hk hi)
 have:(t.take k).length=k:=by simp;omega
 omega
theorem cPTrack (t:List ClipR) (hfit:∀ c∈t,c.fit):CPure Tryz.prog 76 [.t (tclips t)] (vbool (vTrack t)):=by
 refine cpure_of Tryz.xen76 Tryz.func76 rfl Tryz.ntmps76 (by rw [Tryz.results76]) (aw_ok _ ?_)
 simp only [go_sem,simprocAttr]
 refine ⟨fun h=>?_,fun h=>?_⟩
 ·simp only [bxx] at h
  unfold awS
  simp only [go_sem,simprocAttr]
  unfold vTrack
  rw [decide_eq_false (by omega : ¬ t.length≤64)]
  rfl
 ·simp only [bxx] at h
  unfold awS
  simp only [go_sem,simprocAttr]
  refine awp_loop_f (fun (k:Nat) σ => setS 3 (vint (totL (t.take k))) (setS 11 (vint k) (deadS [6,7,8] σ))) (fun k=>k≤t.length ∧ ∀ i,i<k→vClip (t.getD i default)=true) (fun k=>t.length - k) 0 (weak_self ?_) ⟨Nat.zero_le _,by omega⟩ ?_
  ·simp only [go_sem,simprocAttr]<;>simp [totL]
  ·rintro k ⟨hk,hi⟩
   have hr:=tot_range hk (by omega) hi
   refine aw_ok _ ?_
   simp only [go_sem,simprocAttr]
   refine ⟨fun hlt=>?_,fun hge=>?_⟩
   ·simp only [bxx] at hlt
    have hkl:k<t.length:=by omega
    unfold awS
    simp only [go_sem,simprocAttr]
    refine ⟨⟨by omega,by omega⟩,_,cPClip _ (hfit _ (mem_getD hkl)),?_⟩
    simp only [go_sem,simprocAttr]
    refine brW (b := !vClip (t.getD k default)) ?_ ⟨fun hb=>?_,fun hb=>?_⟩
    ·rfl
    ·unfold awS
     simp only [go_sem,simprocAttr]
     unfold vTrack
     rw [all_hit (d:=default) (p:=vClip) (k:=k) hkl (nt hb),Bool.and_false]
     rfl
    ·have hl:=vClip_len (nf hb)
     unfold awS
     simp only [go_sem,simprocAttr]
     refine ⟨k+1,weak_self ?_,⟨by omega,upto hi (nf hb)⟩,by omega⟩
     simp only [go_sem,simprocAttr]
     rw [wrap64 (x:=totL (t.take k)+(t.getD k default).len) (by omega) (by omega),totL_take t k hkl]
     simp [wrap1 (show k<9223372036854775807 by omega)]
   ·simp only [bxx] at hge
    unfold awS
    simp only [go_sem,simprocAttr]
    unfold vTrack
    rw [all_done (d:=default) (p:=vClip) (fun i h2=>hi i (by omega)),decide_eq_true (by omega:t.length≤64),List.take_of_length_le (by omega)]
    rfl
theorem track_all {t:List ClipR} (h:vTrack t=true):t.length≤64∧(∀ c∈t,vClip c=true)∧totL t≤2147483647:=by
 unfold vTrack at h
 simp only [Bool.and_eq_true,decide_eq_true_eq,List.all_eq_true] at h
 exact ⟨h.1.1,h.1.2,h.2⟩
end Go.Proofs.YtkjdkbmfaamhaaaGreat
