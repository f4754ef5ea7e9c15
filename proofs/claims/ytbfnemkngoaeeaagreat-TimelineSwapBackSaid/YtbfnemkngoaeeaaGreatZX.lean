/- Proved here: Contracts of the functions that find a frame in a track, for use in the proofs of the given statements; conditions stand in each theorem. -/
import Derived.Test.YtbfnemkngoaeeaaGreatZJ
set_option linter.unusedSimpArgs false
set_option linter.unusedVariables false
set_option linter.unusedSectionVars false
set_option linter.unnecessarySimpa false
namespace Go.Proofs.YtbfnemkngoaeeaaGreat
open Go.RowKit
set_option maxRecDepth 4000
def findL:List ClipR→Nat→Int→Int×Int×Bool
 | [],_,_=>(0,0,false)
 | c::l,i,n=>if n<c.len then (i,n,true) else findL l (i+1) (n - c.len)
theorem findL_nil (i:Nat) (n:Int):findL [] i n=(0,0,false):=rfl
theorem findL_cons (c:ClipR) (l:List ClipR) (i:Nat) (n:Int):findL (c::l) i n=if n<c.len then (↑i,n,true) else findL l (i+1) (n - c.len):=rfl
abbrev vfind (r:Int×Int×Bool):V := .tup [vint r.1,vint r.2.1,vbool r.2.2]
def findT (t:List ClipR) (n:Int):Int×Int×Bool:=if vTrack t=true∧0≤n then findL t 0 n else (0,0,false)
theorem drop_cons {t:List ClipR} {k:Nat} (h:k<t.length):t.drop k=t.getD k default::t.drop (k+1):=by
 rw [getD_of_lt h,List.drop_eq_getElem_cons h]
theorem cPfind (t:List ClipR) (n:Int) (hn:I64 n) (hv:∀ c∈t,vClip c=true) (h64:t.length≤64):CPure Tryz.prog 162 [.t (tclips t),vint n] (vfind (if 0≤n then findL t 0 n else (0,0,false))):=by
 obtain ⟨n1,n2⟩:=hn
 refine cpure_of Tryz.xen162 Tryz.func162 rfl Tryz.ntmps162 (by rw [Tryz.results162]) (aw_ok _ ?_)
 simp only [go_sem,simprocAttr]
 refine ⟨fun h=>?_,fun h=>?_⟩
 ·simp only [bxx] at h
  unfold awS
  simp only [go_sem,simprocAttr]
  rw [if_neg (by omega)]
 ·simp only [bxx] at h
  rw [if_pos (by omega)]
  unfold awS
  simp only [go_sem,simprocAttr]
  refine awp_loop_f (fun (x:Nat×Int) σ => setS 1 (vint x.2) (setS 13 (vint x.1) (deadS [9,10] σ))) (fun x=>x.1≤t.length∧0≤x.2∧x.2≤n∧findL (t.drop x.1) x.1 x.2=findL t 0 n) (fun x=>t.length - x.1) (0,n) (weak_self ?_) ⟨Nat.zero_le _,by simp only;omega,by simp only;omega,rfl⟩ ?_
  ·simp only [go_sem,simprocAttr]<;>rfl
  ·rintro ⟨k,m⟩ ⟨hk,hm0,hmn,hf⟩
   simp only at hk hm0 hmn hf
   refine aw_ok _ ?_
   simp only [go_sem,simprocAttr]
   refine ⟨fun hlt=>?_,fun hge=>?_⟩
   ·simp only [bxx] at hlt
    have hkl:k<t.length:=by omega
    have hl:=vClip_len (hv _ (mem_getD (d:=default) hkl))
    rw [drop_cons hkl] at hf
    rw [findL_cons] at hf
    unfold awS
    simp only [go_sem,simprocAttr]
    refine ⟨⟨by omega,by omega⟩,fun hc=>?_,fun hc=>?_⟩
    ·simp only [bxx] at hc
     rw [if_pos hc] at hf
     unfold awS
     simp only [go_sem,simprocAttr]
     rw [← hf]
    ·simp only [bxx] at hc
     rw [if_neg hc] at hf
     unfold awS
     simp only [go_sem,simprocAttr]
     refine ⟨(k+1,m - (t.getD k default).len),weak_self ?_,⟨by simp only;omega,by simp only;omega,by simp only;omega,hf⟩,by simp only;omega⟩
     simp only [go_sem,simprocAttr]
     rw [wrap64 (x:=m - (t.getD k default).len) (by omega) (by omega)]
     simp [wrap1 (show k<9223372036854775807 by omega)]
   ·simp only [bxx] at hge
    unfold awS
    simp only [go_sem,simprocAttr]
    rw [List.drop_of_length_le (by omega),findL_nil] at hf
    rw [← hf]
theorem cPFind (t:List ClipR) (n:Int) (hn:I64 n) (hfit:∀ c∈t,c.fit):CPure Tryz.prog 88 [.t (tclips t),vint n] (vfind (findT t n)):=by
 refine cpure_of Tryz.xen88 Tryz.func88 rfl Tryz.ntmps88 (by rw [Tryz.results88]) (aw_ok _ ?_)
 simp only [go_sem,simprocAttr]
 refine ⟨_,cPTrack t hfit,?_⟩
 simp only [go_sem,simprocAttr]
 refine brW (b := !vTrack t) ?_ ⟨fun hb=>?_,fun hb=>?_⟩
 ·rfl
 ·unfold awS
  simp only [go_sem,simprocAttr]
  unfold findT
  rw [nt hb]
  rfl
 ·unfold awS
  simp only [go_sem,simprocAttr]
  obtain ⟨h1,h2,h3⟩:=track_all (nf hb)
  refine ⟨_,cPfind t n hn h2 h1,?_⟩
  simp only [go_sem,simprocAttr]
  unfold findT
  rw [nf hb]
  simp only [true_and]
end Go.Proofs.YtbfnemkngoaeeaaGreat
