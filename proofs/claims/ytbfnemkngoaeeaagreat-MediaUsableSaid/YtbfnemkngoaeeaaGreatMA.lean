/- Proved here: States of media as plain data, and the places of files and links in them, for use in the proofs of the given statements; conditions stand in each theorem. -/
import Derived.Test.YtbfnemkngoaeeaaGreatZU
import Derived.Test.YtbfnemkngoaeeaaGreatZL
import Derived.Test.YtbfnemkngoaeeaaGreatZUS1
import Derived.Test.YtbfnemkngoaeeaaGreatYC
set_option linter.unusedSimpArgs false
set_option linter.unusedVariables false
set_option linter.unusedSectionVars false
set_option linter.unnecessarySimpa false
namespace Go.Proofs.YtbfnemkngoaeeaaGreat
open Go.RowKit
set_option maxRecDepth 4000
structure FileR where
 name:ByteArray
 sum:Int
 present:Bool
 deriving Inhabited
structure LinkR where
 media:ByteArray
 file:ByteArray
 sum:Int
 proxy:ByteArray
 deriving Inhabited
structure StateR where
 files:List FileR
 links:List LinkR
 deriving Inhabited
def FileR.c (f:FileR):List T:=[tstr f.name,tu f.sum,tbl f.present]
def LinkR.c (l:LinkR):List T:=[tstr l.media,tstr l.file,tu l.sum,tstr l.proxy]
abbrev vfile (f:FileR):V := .agg [vstr f.name,vu64 f.sum,vbool f.present]
abbrev vlink (l:LinkR):V := .agg [vstr l.media,vstr l.file,vu64 l.sum,vstr l.proxy]
@[go_sem] theorem FileR.ct (f:FileR):(FileR.c f).map V.t = [vstr f.name,vu64 f.sum,vbool f.present]:=rfl
@[go_sem] theorem LinkR.ct (l:LinkR):(LinkR.c l).map V.t = [vstr l.media,vstr l.file,vu64 l.sum,vstr l.proxy]:=rfl
@[go_sem] theorem FileR.cl (f:FileR):(FileR.c f).length=3:=rfl
@[go_sem] theorem LinkR.cl (l:LinkR):(LinkR.c l).length=4:=rfl
@[go_sem] abbrev tfiles (l:List FileR):T := .list 3 (FileR.c default) (l.map FileR.c)
@[go_sem] abbrev tlinks (l:List LinkR):T := .list 4 (LinkR.c default) (l.map LinkR.c)
abbrev vstate (s:StateR):V := .agg [.t (tfiles s.files), .t (tlinks s.links)]
theorem idx_stepD {α : Type} [Inhabited α] {p : α → Bool} {l:List α} {k:Nat} (h:k<l.length) (hp:p (l.getD k default)=false):idxFrom p (l.drop (k+1)) (k+1)=idxFrom p (l.drop k) k:=idx_step h (by rw [← getD_of_lt h];exact hp)
theorem idx_hitD {α : Type} [Inhabited α] {p : α → Bool} {l:List α} {k:Nat} (h:k<l.length) (hp:p (l.getD k default)=true):idxFrom p (l.drop k) k=k:=(idx_hit h (by rw [← getD_of_lt h];exact hp)).symm
theorem idx_endD {α : Type} {p : α → Bool} {l:List α} {k:Nat} (h:l.length≤k):idxFrom p (l.drop k) k = -1:=(idx_end (by omega)).symm
theorem idxFrom_range {α : Type} (p : α → Bool):∀ (l:List α) (k:Nat),idxFrom p l k = -1∨((k:Int)≤idxFrom p l k∧idxFrom p l k<k+l.length)
 | [],k => .inl rfl
 | x::r,k=>by
  unfold idxFrom
  split
  ·exact .inr ⟨Int.le_refl _,by simp only [List.length_cons];omega⟩
  ·rcases idxFrom_range p r (k+1) with h | h
   ·exact .inl h
   ·exact .inr ⟨by omega,by simp only [List.length_cons];omega⟩
theorem idx_range {α : Type} (p : α → Bool) (l:List α):idx p l = -1 ∨ ∃ k:Nat,k<l.length∧idx p l=k:=by
 rcases idxFrom_range p l 0 with h | h
 ·exact .inl h
 ·exact .inr ⟨(idx p l).toNat,by unfold idx;omega,by unfold idx;omega⟩
def fileP (n:ByteArray) (f:FileR):Bool:=f.name.toList==n.toList
def linkP (n:ByteArray) (l:LinkR):Bool:=l.media.toList==n.toList
def fidx (fs:List FileR) (n:ByteArray):Int:=idx (fileP n) fs
def lidx (ls:List LinkR) (n:ByteArray):Int:=idx (linkP n) ls
theorem cRFile (s:StateR) (n:ByteArray) (h:s.files.length≤maxLen):CPure Tryz.prog 132 [vstate s,vstr n] (vint (fidx s.files n)):=by
 refine cpure_of Tryz.xen132 Tryz.func132 rfl Tryz.ntmps132 (by rw [Tryz.results132]) (aw_ok _ ?_)
 simp only [go_sem,simprocAttr]
 refine awp_loop_f (fun (k:Nat) σ => setS 5 (vint k) (deadS [6,7,8,9,10,11,12,13,14,15,16,17,18,19,20,21] (cleanS σ))) (fun k=>k≤s.files.length∧idxFrom (fileP n) (s.files.drop k) k=fidx s.files n) (fun k=>s.files.length - k) 0 (weak_self ?_) ⟨Nat.zero_le _,rfl⟩ ?_
 ·simp only [go_sem,simprocAttr]<;>simp
 ·rintro k ⟨hk,hi⟩
  refine aw_ok _ ?_
  simp only [go_sem,simprocAttr]
  refine ⟨fun hlt=>?_,fun hge=>?_⟩
  ·simp only [bxx] at hlt
   unfold awS
   simp only [go_sem,simprocAttr]
   refine ⟨⟨by omega,by omega⟩,fun h2=>?_,fun h2=>?_⟩
   ·unfold awS
    simp only [go_sem,simprocAttr]
    rw [← hi,idx_hitD (by omega) h2]
   ·unfold awS
    simp only [go_sem,simprocAttr]
    refine ⟨k+1,weak_self ?_,⟨by omega,by rw [← hi];exact idx_stepD (by omega) h2⟩,by omega⟩
    simp only [go_sem,simprocAttr]<;>simp [wrap_of (show k<s.files.length by omega) h]
  ·simp only [bxx] at hge
   unfold awS
   simp only [go_sem,simprocAttr]
   rw [← hi,idx_endD (by omega)]
theorem cRLink (s:StateR) (n:ByteArray) (h:s.links.length≤maxLen):CPure Tryz.prog 65 [vstate s,vstr n] (vint (lidx s.links n)):=by
 refine cpure_of Tryz.xen65 Tryz.func65 rfl Tryz.ntmps65 (by rw [Tryz.results65]) (aw_ok _ ?_)
 simp only [go_sem,simprocAttr]
 refine awp_loop_f (fun (k:Nat) σ => setS 5 (vint k) (deadS [6,7,8,9,10,11,12,13,14,15,16,17,18,19,20,21] (cleanS σ))) (fun k=>k≤s.links.length∧idxFrom (linkP n) (s.links.drop k) k=lidx s.links n) (fun k=>s.links.length - k) 0 (weak_self ?_) ⟨Nat.zero_le _,rfl⟩ ?_
 ·simp only [go_sem,simprocAttr]<;>simp
 ·rintro k ⟨hk,hi⟩
  refine aw_ok _ ?_
  simp only [go_sem,simprocAttr]
  refine ⟨fun hlt=>?_,fun hge=>?_⟩
  ·simp only [bxx] at hlt
   unfold awS
   simp only [go_sem,simprocAttr]
   refine ⟨⟨by omega,by omega⟩,fun h2=>?_,fun h2=>?_⟩
   ·unfold awS
    simp only [go_sem,simprocAttr]
    rw [← hi,idx_hitD (by omega) h2]
   ·unfold awS
    simp only [go_sem,simprocAttr]
    refine ⟨k+1,weak_self ?_,⟨by omega,by rw [← hi];exact idx_stepD (by omega) h2⟩,by omega⟩
    simp only [go_sem,simprocAttr]<;>simp [wrap_of (show k<s.links.length by omega) h]
  ·simp only [bxx] at hge
   unfold awS
   simp only [go_sem,simprocAttr]
   rw [← hi,idx_endD (by omega)]
abbrev nmP (s:ByteArray):V := .elem 1 [tstr s] [[tstr s]] 0 0
theorem cLink1 (l:LinkR) (n:ByteArray):CPure Tryz.prog 149 [vlink l,nmP n] (vbool (linkP n l)):=by
 refine cpure_of Tryz.xen149 Tryz.func149 rfl Tryz.ntmps149 (by rw [Tryz.results149]) (aw_ok _ ?_)
 simp only [go_sem,simprocAttr,nth_one]
 rfl
theorem cFile1 (l:FileR) (n:ByteArray):CPure Tryz.prog 151 [vfile l,nmP n] (vbool (fileP n l)):=by
 refine cpure_of Tryz.xen151 Tryz.func151 rfl Tryz.ntmps151 (by rw [Tryz.results151]) (aw_ok _ ?_)
 simp only [go_sem,simprocAttr,nth_one]
 rfl
theorem cIdxL (ls:List LinkR) (n:ByteArray) (h:ls.length≤maxLen):CPure Tryz.prog 148 [.t (tlinks ls), .clo 149 [nmP n]] (vint (lidx ls n)):=by
 refine cpure_of Tryz.xen148 Tryz.func148 rfl Tryz.ntmps148 (by rw [Tryz.results148]) (aw_ok _ ?_)
 simp only [go_sem,simprocAttr]
 refine awp_loop_f (fun (k:Nat) σ => setS 8 (vint k) (deadS [5,9,10,11,12,13,14,15,16,17,18] (cleanS σ))) (fun k=>k≤ls.length∧idxFrom (linkP n) (ls.drop k) k=lidx ls n) (fun k=>ls.length - k) 0 (weak_self ?_) ⟨Nat.zero_le _,rfl⟩ ?_
 ·simp only [go_sem,simprocAttr]<;>simp
 ·rintro k ⟨hk,hi⟩
  refine aw_ok _ ?_
  simp only [go_sem,simprocAttr]
  refine ⟨fun hlt=>?_,fun hge=>?_⟩
  ·simp only [bxx] at hlt
   unfold awS
   simp only [go_sem,simprocAttr]
   refine ⟨⟨by omega,by omega⟩,?_⟩
   refine lcall_pure (cLink1 _ n) rfl ?_
   simp only [go_sem,simprocAttr]
   refine ⟨fun h2=>?_,fun h2=>?_⟩
   ·unfold awS
    simp only [go_sem,simprocAttr]
    rw [← hi,idx_hitD (by omega) h2]
   ·unfold awS
    simp only [go_sem,simprocAttr]
    refine ⟨k+1,weak_self ?_,⟨by omega,by rw [← hi];exact idx_stepD (by omega) h2⟩,by omega⟩
    simp only [go_sem,simprocAttr]<;>simp [wrap_of (show k<ls.length by omega) h]
  ·simp only [bxx] at hge
   unfold awS
   simp only [go_sem,simprocAttr]
   rw [← hi,idx_endD (by omega)]
theorem cIdxF (ls:List FileR) (n:ByteArray) (h:ls.length≤maxLen):CPure Tryz.prog 150 [.t (tfiles ls), .clo 151 [nmP n]] (vint (fidx ls n)):=by
 refine cpure_of Tryz.xen150 Tryz.func150 rfl Tryz.ntmps150 (by rw [Tryz.results150]) (aw_ok _ ?_)
 simp only [go_sem,simprocAttr]
 refine awp_loop_f (fun (k:Nat) σ => setS 8 (vint k) (deadS [5,9,10,11,12,13,14,15,16,17,18] (cleanS σ))) (fun k=>k≤ls.length∧idxFrom (fileP n) (ls.drop k) k=fidx ls n) (fun k=>ls.length - k) 0 (weak_self ?_) ⟨Nat.zero_le _,rfl⟩ ?_
 ·simp only [go_sem,simprocAttr]<;>simp
 ·rintro k ⟨hk,hi⟩
  refine aw_ok _ ?_
  simp only [go_sem,simprocAttr]
  refine ⟨fun hlt=>?_,fun hge=>?_⟩
  ·simp only [bxx] at hlt
   unfold awS
   simp only [go_sem,simprocAttr]
   refine ⟨⟨by omega,by omega⟩,?_⟩
   refine lcall_pure (cFile1 _ n) rfl ?_
   simp only [go_sem,simprocAttr]
   refine ⟨fun h2=>?_,fun h2=>?_⟩
   ·unfold awS
    simp only [go_sem,simprocAttr]
    rw [← hi,idx_hitD (by omega) h2]
   ·unfold awS
    simp only [go_sem,simprocAttr]
    refine ⟨k+1,weak_self ?_,⟨by omega,by rw [← hi];exact idx_stepD (by omega) h2⟩,by omega⟩
    simp only [go_sem,simprocAttr]<;>simp [wrap_of (show k<ls.length by omega) h]
  ·simp only [bxx] at hge
   unfold awS
   simp only [go_sem,simprocAttr]
   rw [← hi,idx_endD (by omega)]
theorem cLink (s:StateR) (n:ByteArray) (h:s.links.length≤maxLen):CPure Tryz.prog 74 [vstate s,vstr n] (vint (lidx s.links n)):=by
 refine cpure_of Tryz.xen74 Tryz.func74 rfl Tryz.ntmps74 (by rw [Tryz.results74]) (aw_ok _ ?_)
 simp only [go_sem,simprocAttr]
 refine lcall_lend ?_
 simp only [go_sem,simprocAttr]
 refine ⟨_,cIdxL s.links n h,rfl,?_⟩
 simp only [go_sem,simprocAttr]
theorem cFile (s:StateR) (n:ByteArray) (h:s.files.length≤maxLen):CPure Tryz.prog 75 [vstate s,vstr n] (vint (fidx s.files n)):=by
 refine cpure_of Tryz.xen75 Tryz.func75 rfl Tryz.ntmps75 (by rw [Tryz.results75]) (aw_ok _ ?_)
 simp only [go_sem,simprocAttr]
 refine lcall_lend ?_
 simp only [go_sem,simprocAttr]
 refine ⟨_,cIdxF s.files n h,rfl,?_⟩
 simp only [go_sem,simprocAttr]
open Go.RowKit
set_option maxRecDepth 4000
def fileAt (fs:List FileR) (i:Int):FileR:=fs.getD i.toNat default
def statusOf (fs:List FileR) (l:LinkR):Int :=
 if (decide (fidx fs l.file<0) || !(fileAt fs (fidx fs l.file)).present)=true then 3 else if ((fileAt fs (fidx fs l.file)).sum != l.sum)=true then 2 else 1
def status (s:StateR) (n:ByteArray):Int :=
 if lidx s.links n<0 then 0 else statusOf s.files (s.links.getD (lidx s.links n).toNat default)
def proxyOf (s:StateR) (n:ByteArray):ByteArray :=
 if lidx s.links n<0 then ⟨#[]⟩ else (s.links.getD (lidx s.links n).toNat default).proxy
theorem lidx_range (ls:List LinkR) (n:ByteArray):lidx ls n = -1 ∨ ∃ k:Nat,k<ls.length∧lidx ls n=k:=idx_range _ _
theorem fidx_range (ls:List FileR) (n:ByteArray):fidx ls n = -1 ∨ ∃ k:Nat,k<ls.length∧fidx ls n=k:=idx_range _ _
theorem cProxy (s:StateR) (n:ByteArray) (hl:s.links.length≤maxLen):CPure Tryz.prog 57 [vstate s,vstr n] (vstr (proxyOf s n)):=by
 refine cpure_of Tryz.xen57 Tryz.func57 rfl Tryz.ntmps57 (by rw [Tryz.results57]) (aw_ok _ ?_)
 simp only [go_sem,simprocAttr,decide_true,decide_false]
 refine ⟨_,cLink s n hl,?_⟩
 simp only [go_sem,simprocAttr,decide_true,decide_false]
 rcases lidx_range s.links n with hk | ⟨k,hk,hkl⟩
 ·have e:proxyOf s n=⟨#[]⟩:=by unfold proxyOf;rw [hk];rfl
  rw [e,hk]
  simp only [go_sem,simprocAttr,decide_true,decide_false]
  unfold awS
  simp only [go_sem,simprocAttr,decide_true,decide_false]
  exact fun h=>h.elim
 ·have e:proxyOf s n=(s.links.getD k default).proxy:=by
   unfold proxyOf
   rw [hkl,if_neg (by omega),Int.toNat_natCast]
  rw [e,hkl]
  refine ⟨fun h=>by simp only [bxx] at h;omega,fun h=>?_⟩
  unfold awS
  simp only [go_sem,simprocAttr,decide_true,decide_false]
  omega
theorem cStatus (s:StateR) (n:ByteArray) (hf:s.files.length≤maxLen) (hl:s.links.length≤maxLen):CPure Tryz.prog 26 [vstate s,vstr n] (vint (status s n)):=by
 refine cpure_of Tryz.xen26 Tryz.func26 rfl Tryz.ntmps26 (by rw [Tryz.results26]) (aw_ok _ ?_)
 simp only [go_sem,simprocAttr,decide_true,decide_false]
 refine ⟨_,cLink s n hl,?_⟩
 simp only [go_sem,simprocAttr,decide_true,decide_false]
 rcases lidx_range s.links n with hk | ⟨k,hk,hkl⟩
 ·have e:status s n=0:=by unfold status;rw [hk];rfl
  rw [e,hk]
  simp only [go_sem,simprocAttr,decide_true,decide_false]
  unfold awS
  simp only [go_sem,simprocAttr,decide_true,decide_false]
  exact fun h=>h.elim
 ·have e:status s n=statusOf s.files (s.links.getD k default):=by
   unfold status
   rw [hkl,if_neg (by omega),Int.toNat_natCast]
  rw [e,hkl]
  refine ⟨fun h=>by simp only [bxx] at h;omega,fun h=>?_⟩
  unfold awS
  simp only [go_sem,simprocAttr,decide_true,decide_false]
  refine drawC_of 9 .done rfl (by kernel_rfl) (by kernel_rfl) (by decide) ?_
  simp only [go_sem,simprocAttr,decide_true,decide_false]
  refine ⟨⟨by omega,by omega⟩,_,cFile s _ hf,?_⟩
  simp only [go_sem,simprocAttr,decide_true,decide_false]
  refine ⟨by kernel_rfl,?_⟩
  obtain ⟨l,hle⟩:∃ l,l=s.links.getD k default:=⟨_,rfl⟩
  rw [← hle]
  rcases fidx_range s.files l.file with hq | ⟨q,hq,hql⟩
  ·have e:statusOf s.files l=3:=by unfold statusOf;rw [hq];rfl
   rw [e,hq]
   simp only [go_sem,simprocAttr,decide_true,decide_false]
   unfold awS
   simp only [go_sem,simprocAttr,decide_true,decide_false]
   exact ⟨fun h=>h.elim,fun h=>h.elim⟩
  ·rw [hql]
   have e:statusOf s.files l=if (!(s.files.getD q default).present)=true then 3 else if ((s.files.getD q default).sum != l.sum)=true then 2 else 1:=by
    unfold statusOf fileAt
    rw [hql,decide_eq_false (by omega),Int.toNat_natCast,Bool.false_or]
   rw [e]
   simp only [go_sem,simprocAttr,decide_true,decide_false]
   have hd:decide ((q:Int)<0)=false:=decide_eq_false (by omega)
   refine ⟨fun _=>⟨by omega,by omega⟩,fun h=>?_,fun h=>?_⟩
   ·rw [hd,Bool.false_or] at h
    rw [if_pos h]
    unfold awS
    simp only [go_sem,simprocAttr,decide_true,decide_false]
   ·rw [hd,Bool.false_or] at h
    rw [h,if_neg (by decide)]
    unfold awS
    simp only [go_sem,simprocAttr,decide_true,decide_false]
    refine drawC_of 14 .done rfl (by kernel_rfl) (by kernel_rfl) (by decide) ?_
    simp only [go_sem,simprocAttr,decide_true,decide_false]
    rw [← hle]
    refine ⟨⟨by omega,by omega⟩,⟨by omega,by omega⟩,by kernel_rfl,?_⟩
    refine ⟨fun h2=>?_,fun h2=>?_⟩
    ·rw [if_pos h2]
     unfold awS
     simp only [go_sem,simprocAttr,decide_true,decide_false]
    ·rw [h2,if_neg (by decide)]
     unfold awS
     simp only [go_sem,simprocAttr,decide_true,decide_false]
theorem cRStatus (s:StateR) (n:ByteArray) (hf:s.files.length≤maxLen) (hl:s.links.length≤maxLen):CPure Tryz.prog 64 [vstate s,vstr n] (vint (status s n)):=by
 refine cpure_of Tryz.xen64 Tryz.func64 rfl Tryz.ntmps64 (by rw [Tryz.results64]) (aw_ok _ ?_)
 simp only [go_sem,simprocAttr,decide_true,decide_false]
 refine ⟨_,cRLink s n hl,?_⟩
 simp only [go_sem,simprocAttr,decide_true,decide_false]
 rcases lidx_range s.links n with hk | ⟨k,hk,hkl⟩
 ·have e:status s n=0:=by unfold status;rw [hk];rfl
  rw [e,hk]
  simp only [go_sem,simprocAttr,decide_true,decide_false]
  unfold awS
  simp only [go_sem,simprocAttr,decide_true,decide_false]
  exact fun h=>h.elim
 ·have e:status s n=statusOf s.files (s.links.getD k default):=by
   unfold status
   rw [hkl,if_neg (by omega),Int.toNat_natCast]
  rw [e,hkl]
  refine ⟨fun h=>by simp only [bxx] at h;omega,fun h=>?_⟩
  unfold awS
  simp only [go_sem,simprocAttr,decide_true,decide_false]
  refine drawC_of 9 .done rfl (by kernel_rfl) (by kernel_rfl) (by decide) ?_
  simp only [go_sem,simprocAttr,decide_true,decide_false]
  refine ⟨⟨by omega,by omega⟩,_,cRFile s _ hf,?_⟩
  simp only [go_sem,simprocAttr,decide_true,decide_false]
  refine ⟨by kernel_rfl,?_⟩
  obtain ⟨l,hle⟩:∃ l,l=s.links.getD k default:=⟨_,rfl⟩
  rw [← hle]
  rcases fidx_range s.files l.file with hq | ⟨q,hq,hql⟩
  ·have e:statusOf s.files l=3:=by unfold statusOf;rw [hq];rfl
   rw [e,hq]
   simp only [go_sem,simprocAttr,decide_true,decide_false]
   unfold awS
   simp only [go_sem,simprocAttr,decide_true,decide_false]
   exact ⟨fun h=>h.elim,fun h=>h.elim⟩
  ·rw [hql]
   have e:statusOf s.files l=if (!(s.files.getD q default).present)=true then 3 else if ((s.files.getD q default).sum != l.sum)=true then 2 else 1:=by
    unfold statusOf fileAt
    rw [hql,decide_eq_false (by omega),Int.toNat_natCast,Bool.false_or]
   rw [e]
   simp only [go_sem,simprocAttr,decide_true,decide_false]
   have hd:decide ((q:Int)<0)=false:=decide_eq_false (by omega)
   refine ⟨fun _=>⟨by omega,by omega⟩,fun h=>?_,fun h=>?_⟩
   ·rw [hd,Bool.false_or] at h
    rw [if_pos h]
    unfold awS
    simp only [go_sem,simprocAttr,decide_true,decide_false]
   ·rw [hd,Bool.false_or] at h
    rw [h,if_neg (by decide)]
    unfold awS
    simp only [go_sem,simprocAttr,decide_true,decide_false]
    refine drawC_of 13 .done rfl (by kernel_rfl) (by kernel_rfl) (by decide) ?_
    simp only [go_sem,simprocAttr,decide_true,decide_false]
    rw [← hle]
    refine ⟨⟨by omega,by omega⟩,⟨by omega,by omega⟩,by kernel_rfl,?_⟩
    refine ⟨fun h2=>?_,fun h2=>?_⟩
    ·rw [if_pos h2]
     unfold awS
     simp only [go_sem,simprocAttr,decide_true,decide_false]
    ·rw [h2,if_neg (by decide)]
     unfold awS
     simp only [go_sem,simprocAttr,decide_true,decide_false]
open Go.RowKit
set_option maxRecDepth 4000
def allR (p:Nat→Bool) (n:Nat):Bool:=(List.range n).all p
theorem allR_iff {p:Nat→Bool} {n:Nat}:allR p n=true ↔ ∀ i,i<n→p i=true:=by simp [allR,List.all_eq_true]
theorem allR_stop {p:Nat→Bool} {k n:Nat} (h:k<n) (hp:p k=false):allR p n=false:=by
 rw [Bool.eq_false_iff]
 intro hc
 rw [allR_iff.1 hc k h] at hp
 cases hp
def okF (fs:List FileR) (i:Nat):Bool:=vName (fs.getD i default).name && !memB (fs.getD i default).name ((fs.take i).map FileR.name)
def okL (ls:List LinkR) (i:Nat):Bool :=
 vName (ls.getD i default).media && !memB (ls.getD i default).media ((ls.take i).map LinkR.media)&&vName (ls.getD i default).file&&(emp (ls.getD i default).proxy||vName (ls.getD i default).proxy) &&
 !((ls.getD i default).proxy.toList==(ls.getD i default).media.toList)
def validSt (s:StateR):Bool:=decide ((s.files.length:Int)≤32)&&decide ((s.links.length:Int)≤16)&&allR (okF s.files) s.files.length&&allR (okL s.links) s.links.length
theorem cPx (s:ByteArray):CPure Tryz.prog 125 [vstr s] (vbool (emp s||vName s)):=by
 refine cpure_of Tryz.xen125 Tryz.func125 rfl Tryz.ntmps125 (by rw [Tryz.results125]) (aw_ok _ ?_)
 simp only [go_sem,simprocAttr,decide_true,decide_false]
 refine ⟨_,fun _=>cPName s,?_⟩
 simp only [go_sem,simprocAttr,decide_true,decide_false]
 rfl
theorem cValidS (s:StateR) (hf:s.files.length≤maxLen) (hl:s.links.length≤maxLen):CPure Tryz.prog 56 [vstate s] (vbool (validSt s)):=by
 refine cpure_of Tryz.xen56 Tryz.func56 rfl Tryz.ntmps56 (by rw [Tryz.results56]) (aw_ok _ ?_)
 simp only [go_sem,simprocAttr,decide_true,decide_false]
 refine brW (b := !(decide ((s.files.length:Int)≤32)&&decide ((s.links.length:Int)≤16))) ?_ ⟨fun hb=>?_,fun hb=>?_⟩
 ·rw [gt_not,gt_not]
  (try simp only [bne]);cases (decide ((s.files.length:Int)≤32))<;>cases (decide ((s.links.length:Int)≤16))<;>rfl
 ·have e:validSt s=false:=by
   unfold validSt
   have hb2:(decide ((s.files.length:Int)≤32)&&decide ((s.links.length:Int)≤16))=false:=by simpa only [Bool.not_eq_true'] using hb
   rw [hb2]
   rfl
  rw [e]
  unfold awS
  simp only [go_sem,simprocAttr,decide_true,decide_false]
 ·have hb2:(decide ((s.files.length:Int)≤32)&&decide ((s.links.length:Int)≤16))=true:=by simpa only [Bool.not_eq_false'] using hb
  have e:validSt s=(allR (okF s.files) s.files.length&&allR (okL s.links) s.links.length):=by
   unfold validSt
   rw [hb2]
   rfl
  rw [e]
  simp only [Bool.and_eq_true,decide_eq_true_eq] at hb2
  unfold awS
  simp only [go_sem,simprocAttr,decide_true,decide_false]
  refine awp_loop_f (fun (k:Nat) σ => setB 1 (.map (tEs (setN ((s.files.take k).map FileR.name)))) (setS 23 (vint k) (deadS [5,24,25,26,27,28,29,30,31,32,33,34,35,36,37,38,39] (cleanS σ)))) (fun k=>k≤s.files.length ∧ ∀ i,i<k→okF s.files i=true) (fun k=>s.files.length - k) 0 (weak_self ?_) ⟨Nat.zero_le _,by omega⟩ ?_
  ·simp only [go_sem,simprocAttr,decide_true,decide_false]
   exact ⟨by simp,rfl,by simp⟩
  ·rintro k ⟨hk,hi⟩
   refine aw_ok _ ?_
   simp only [go_sem,simprocAttr,decide_true,decide_false]
   refine ⟨fun hlt=>?_,fun hge=>?_⟩
   ·simp only [bxx] at hlt
    have hkl:k<s.files.length:=by omega
    unfold awS
    simp only [go_sem,simprocAttr,decide_true,decide_false]
    refine ⟨⟨by omega,by omega⟩,_,cPName _,?_⟩
    obtain ⟨n,hn⟩:∃ n,n=(s.files.getD k default).name:=⟨_,rfl⟩
    have eO:okF s.files k=(vName n && !memB n ((s.files.take k).map FileR.name)):=by unfold okF;rw [← hn]
    rw [← hn]
    cases hm:memB n ((s.files.take k).map FileR.name) with
    | true =>
     simp only [go_sem,simprocAttr,decide_true,decide_false,look_N,hm]
     rw [allR_stop hkl (by rw [eO,hm,Bool.not_true,Bool.and_false])]
     rfl
    | false =>
     simp only [go_sem,simprocAttr,decide_true,decide_false,look_N,hm]
     refine ⟨fun h=>?_,fun h=>?_⟩
     ·have hv:vName n=false:=by simpa using h
      rw [allR_stop hkl (by rw [eO,hv,Bool.false_and])]
      unfold awS
      simp only [go_sem,simprocAttr,decide_true,decide_false]
     ·have hv:vName n=true:=by simpa using h
      unfold awS
      simp only [go_sem,simprocAttr,decide_true,decide_false]
      refine ⟨k+1,weak_self ?_,⟨by omega,upto hi (by rw [eO,hm,hv];rfl)⟩,by omega⟩
      simp only [go_sem,simprocAttr,decide_true,decide_false]
      rw [put_yes,take_snoc hkl,List.map_append,List.map_singleton, ← hn,wrap1 (show k<9223372036854775807 by omega)]
      simp
   ·simp only [bxx] at hge
    have:k=s.files.length:=by omega
    subst this
    unfold awS
    simp only [go_sem,simprocAttr,decide_true,decide_false]
    rw [allR_iff.2 hi,Bool.true_and]
    refine awp_loop_f (fun (k:Nat) σ => setB 2 (.map (tEs (setN ((s.links.take k).map LinkR.media)))) (setS 45 (vint k) (deadS [8,46,47,48,49,50,51,52,53,54,55,56,57,58,59,60,61,62,63,64,65,66,67,68,69,70,71,72,73,74,75,76,77,78,79,80] (cleanS σ)))) (fun k=>k≤s.links.length ∧ ∀ i,i<k→okL s.links i=true) (fun k=>s.links.length - k) 0 (weak_self ?_) ⟨Nat.zero_le _,by omega⟩ ?_
    ·simp only [go_sem,simprocAttr,decide_true,decide_false]
     exact ⟨by simp,rfl,by simp,by simp⟩
    ·rintro k ⟨hk,hi⟩
     refine aw_ok _ ?_
     simp only [go_sem,simprocAttr,decide_true,decide_false]
     refine ⟨fun hlt=>?_,fun hge=>?_⟩
     ·simp only [bxx] at hlt
      have hkl:k<s.links.length:=by omega
      obtain ⟨l,hl⟩:∃ l,l=s.links.getD k default:=⟨_,rfl⟩
      have eO:okL s.links k=(vName l.media && !memB l.media ((s.links.take k).map LinkR.media)&&vName l.file&&(emp l.proxy||vName l.proxy) && !(l.proxy.toList==l.media.toList)):=by unfold okL;rw [← hl]
      unfold awS
      simp only [go_sem,simprocAttr,decide_true,decide_false]
      rw [← hl]
      refine ⟨⟨by omega,by omega⟩,_,cPName _,?_⟩
      simp only [go_sem,simprocAttr,decide_true,decide_false]
      cases hm:memB l.media ((s.links.take k).map LinkR.media) with
      | true =>
       rw [allR_stop hkl (by rw [eO,hm,Bool.not_true,Bool.and_false,Bool.false_and,Bool.false_and,Bool.false_and])]
       cases hv:vName l.media with
       | false =>
        simp only [go_sem,simprocAttr,decide_true,decide_false,look_N,hm]
        refine ⟨vbool false,fun h=>h.elim,?_⟩
        simp only [go_sem,simprocAttr,decide_true,decide_false]
        refine ⟨vbool false,fun h=>h.elim,?_⟩
        simp only [go_sem,simprocAttr,decide_true,decide_false]
       | true =>
        simp only [go_sem,simprocAttr,decide_true,decide_false,look_N,hm]
        refine ⟨vbool false,fun h=>h.elim,?_⟩
        simp only [go_sem,simprocAttr,decide_true,decide_false]
        refine ⟨vbool false,fun h=>h.elim,?_⟩
        simp only [go_sem,simprocAttr,decide_true,decide_false]
      | false =>
       cases hv:vName l.media with
       | false =>
        rw [allR_stop hkl (by rw [eO,hv,Bool.false_and,Bool.false_and,Bool.false_and,Bool.false_and])]
        simp only [go_sem,simprocAttr,decide_true,decide_false,look_N,hm]
        refine ⟨vbool false,fun h=>h.elim,?_⟩
        simp only [go_sem,simprocAttr,decide_true,decide_false]
        refine ⟨vbool false,fun h=>h.elim,?_⟩
        simp only [go_sem,simprocAttr,decide_true,decide_false]
       | true =>
        simp only [go_sem,simprocAttr,decide_true,decide_false,look_N,hm]
        refine ⟨_,cPName _,?_⟩
        simp only [go_sem,simprocAttr,decide_true,decide_false]
        cases hf2:vName l.file with
        | false =>
         rw [allR_stop hkl (by rw [eO,hf2,Bool.and_false,Bool.false_and,Bool.false_and])]
         simp only [go_sem,simprocAttr,decide_true,decide_false]
         refine ⟨vbool false,fun h=>h.elim,?_⟩
         simp only [go_sem,simprocAttr,decide_true,decide_false]
        | true =>
         simp only [go_sem,simprocAttr,decide_true,decide_false]
         refine ⟨_,cPx _,?_⟩
         simp only [go_sem,simprocAttr,decide_true,decide_false]
         have e3:okL s.links k = !(!(emp l.proxy||vName l.proxy)||l.proxy.toList==l.media.toList):=by
          rw [eO,hm,hv,hf2]
          cases (emp l.proxy||vName l.proxy)<;>cases (l.proxy.toList==l.media.toList)<;>rfl
         refine ⟨fun h=>?_,fun h=>?_⟩
         ·rw [allR_stop hkl (by rw [e3,h];rfl)]
          unfold awS
          simp only [go_sem,simprocAttr,decide_true,decide_false]
         ·unfold awS
          simp only [go_sem,simprocAttr,decide_true,decide_false]
          refine ⟨k+1,weak_self ?_,⟨by omega,upto hi (by rw [e3,h];rfl)⟩,by omega⟩
          simp only [go_sem,simprocAttr,decide_true,decide_false]
          rw [put_yes,take_snoc hkl,List.map_append,List.map_singleton, ← hl,wrap1 (show k<9223372036854775807 by omega)]
          simp
     ·simp only [bxx] at hge
      have:k=s.links.length:=by omega
      subst this
      rw [allR_iff.2 hi]
      unfold awS
      simp only [go_sem,simprocAttr,decide_true,decide_false]
open Go.RowKit
set_option maxRecDepth 4000
theorem toList_eq {a b:ByteArray}:(a.toList==b.toList)=true ↔ a=b:=by
 rw [beq_iff_eq]
 exact ⟨fun h=>ByteArray.ext (Array.ext' (by simpa [ByteArray.toList_eq] using h)),fun h=>by rw [h]⟩
theorem idx_upto {α : Type} [Inhabited α] {p : α → Bool} {l:List α}:∀ {k:Nat},k≤l.length→(∀ i,i<k→p (l.getD i default)=false)→idx p l=idxFrom p (l.drop k) k
 | 0,_,_=>rfl
 | k+1,hk,h=>by
  rw [idx_stepD (by omega) (h k (by omega))]
  exact idx_upto (by omega) fun i hi=>h i (by omega)
theorem idx_least {α : Type} [Inhabited α] {p : α → Bool} {l:List α} {k:Nat} (hk:k<l.length) (hp:p (l.getD k default)=true):idx p l=k ∨ ∃ i,i<k∧p (l.getD i default)=true∧idx p l=i:=by
 induction k using Nat.strongRecOn with
 | ind k ih =>
  by_cases h:∃ i,i<k∧p (l.getD i default)=true
  ·obtain ⟨i,hi,hpi⟩:=h
   rcases ih i hi (by omega) hpi with h1 | ⟨j,hj,hpj,h1⟩
   ·exact .inr ⟨i,hi,hpi,h1⟩
   ·exact .inr ⟨j,by omega,hpj,h1⟩
  ·refine .inl ?_
   rw [idx_upto (k:=k) (by omega) fun i hi=>by
    cases e:p (l.getD i default) with
    | false=>rfl
    | true=>exact absurd ⟨i,hi,e⟩ h]
   exact idx_hitD hk hp
theorem mem_take {α : Type} [Inhabited α] {l:List α} {nm : α → ByteArray} {n:ByteArray} {k:Nat} (hk:k≤l.length):memB n ((l.take k).map nm)=true ↔ ∃ i,i<k∧nm (l.getD i default)=n:=by
 rw [memB_iff,List.mem_map]
 constructor
 ·rintro ⟨x,hx,rfl⟩
  obtain ⟨i,hi,rfl⟩:=List.getElem_of_mem hx
  rw [List.length_take] at hi
  exact ⟨i,by omega,by rw [List.getElem_take,getD_of_lt (by omega)]⟩
 ·rintro ⟨i,hi,rfl⟩
  refine ⟨l.getD i default,?_,rfl⟩
  rw [getD_of_lt (by omega:i<l.length)]
  exact List.mem_iff_getElem.2 ⟨i,by rw [List.length_take];omega,by rw [List.getElem_take]⟩
theorem idx_once {α : Type} [Inhabited α] {l:List α} {nm : α → ByteArray} {k:Nat} (hk:k<l.length) :
  (idx (fun x : α => (nm x).toList==(nm (l.getD k default)).toList) l != (k:Int))=memB (nm (l.getD k default)) ((l.take k).map nm):=by
 rw [Bool.eq_iff_iff,bne_iff_ne,mem_take (by omega)]
 constructor
 ·intro h
  rcases idx_least (p:=fun x : α => (nm x).toList==(nm (l.getD k default)).toList) hk (by simp) with h1 | ⟨i,hi,hp,_⟩
  ·exact absurd h1 h
  ·exact ⟨i,hi,toList_eq.1 hp⟩
 ·rintro ⟨i,hi,hn⟩
  rcases idx_least (p:=fun x : α => (nm x).toList==(nm (l.getD k default)).toList) (k:=i) (by omega) (toList_eq.2 hn) with h1 | ⟨j,hj,_,h1⟩
  ·rw [h1];omega
  ·rw [h1];omega
theorem fidx_once {fs:List FileR} {k:Nat} (hk:k<fs.length):(fidx fs (fs.getD k default).name != (k:Int))=memB (fs.getD k default).name ((fs.take k).map FileR.name):=idx_once (nm:=FileR.name) hk
theorem lidx_once {ls:List LinkR} {k:Nat} (hk:k<ls.length):(lidx ls (ls.getD k default).media != (k:Int))=memB (ls.getD k default).media ((ls.take k).map LinkR.media):=idx_once (nm:=LinkR.media) hk
theorem emp_no {a b:ByteArray}:emp a=true→vName b=true→(a.toList==b.toList)=false:=by
 intro h1 h2
 rw [Bool.eq_false_iff]
 intro h3
 have e1:a=⟨#[]⟩:=toList_eq.1 h1
 have e2:=toList_eq.1 h3
 rw [← e2,e1] at h2
 revert h2
 decide
theorem cRValidS (s:StateR) (hf:s.files.length≤maxLen) (hlk:s.links.length≤maxLen):CPure Tryz.prog 61 [vstate s] (vbool (validSt s)):=by
 refine cpure_of Tryz.xen61 Tryz.func61 rfl Tryz.ntmps61 (by rw [Tryz.results61]) (aw_ok _ ?_)
 simp only [go_sem,simprocAttr,decide_true,decide_false]
 refine awp_loop_f (fun (k:Nat) σ => setS 3 (vint k) (deadS [6,7,8,9,10,11,12,13,14,15,16,17,18,19,20,21,22,23,24,25,26,27,28,29,30,31,32] (cleanS σ))) (fun k=>k≤s.files.length ∧ ∀ i,i<k→okF s.files i=true) (fun k=>s.files.length - k) 0 (weak_self ?_) ⟨Nat.zero_le _,by omega⟩ ?_
 ·simp only [go_sem,simprocAttr,decide_true,decide_false]
  simp
 ·rintro k ⟨hk,hi⟩
  refine aw_ok _ ?_
  simp only [go_sem,simprocAttr,decide_true,decide_false]
  refine ⟨fun hlt=>?_,fun hge=>?_⟩
  ·simp only [bxx] at hlt
   have hkl:k<s.files.length:=by omega
   have hon:=fidx_once hkl
   obtain ⟨n,hn⟩:∃ n,n=(s.files.getD k default).name:=⟨_,rfl⟩
   have eO:okF s.files k=(vName n && !memB n ((s.files.take k).map FileR.name)):=by unfold okF;rw [← hn]
   rw [← hn] at hon
   have stop:okF s.files k=false→validSt s=false:=fun h=>by
    unfold validSt
    rw [allR_stop hkl h,Bool.and_false,Bool.false_and]
   unfold awS
   simp only [go_sem,simprocAttr,decide_true,decide_false]
   refine drawR_of [0,1,2,3,4,5,6,7,8,9,10,11,12,13,14,15,16,17,18,19] .done rfl (by kernel_rfl) (by kernel_rfl) (by decide) ?_
   simp only [go_sem,simprocAttr,decide_true,decide_false]
   rw [← hn]
   refine ⟨⟨by omega,by omega⟩,_,cRName _,?_⟩
   simp only [go_sem,simprocAttr,decide_true,decide_false]
   cases hv:vName n with
   | false =>
    simp only [go_sem,simprocAttr,decide_true,decide_false]
    refine ⟨fun h=>h.elim,vint 0,fun h=>h.elim,?_⟩
    simp only [go_sem,simprocAttr,decide_true,decide_false]
    rw [stop (by rw [eO,hv,Bool.false_and])]
   | true =>
    simp only [go_sem,simprocAttr,decide_true,decide_false]
    rw [← hn]
    refine ⟨⟨by omega,by omega⟩,_,cRFile s n hf,?_⟩
    simp only [go_sem,simprocAttr,decide_true,decide_false]
    rw [hon]
    refine ⟨fun h=>?_,fun h=>?_⟩
    ·rw [stop (by rw [eO,hv,h];rfl)]
     unfold awS
     simp only [go_sem,simprocAttr,decide_true,decide_false]
    ·unfold awS
     simp only [go_sem,simprocAttr,decide_true,decide_false]
     refine ⟨k+1,weak_self ?_,⟨by omega,upto hi (by rw [eO,hv,h];rfl)⟩,by omega⟩
     simp only [go_sem,simprocAttr,decide_true,decide_false]
     simp [wrap_of (show k<s.files.length by omega) hf]
  ·simp only [bxx] at hge
   have:k=s.files.length:=by omega
   subst this
   have hF:=allR_iff.2 hi
   unfold awS
   simp only [go_sem,simprocAttr,decide_true,decide_false]
   refine awp_loop_f (fun (k:Nat) σ => setS 4 (vint k) (deadS [5,33,34,35,36,37,38,39,40,41,42,43,44,45,46,47,48,49,50,51,52,53,54,55,56,57,58,59,60,61,62,63,64,65,66,67,68,69,70,71,72,73,74,75,76,77,78,79,80] (cleanS σ))) (fun k=>k≤s.links.length ∧ ∀ i,i<k→okL s.links i=true) (fun k=>s.links.length - k) 0 (weak_self ?_) ⟨Nat.zero_le _,by omega⟩ ?_
   ·simp only [go_sem,simprocAttr,decide_true,decide_false]
    simp
   ·rintro k ⟨hk,hi⟩
    refine aw_ok _ ?_
    simp only [go_sem,simprocAttr,decide_true,decide_false]
    refine ⟨fun hlt=>?_,fun hge=>?_⟩
    ·simp only [bxx] at hlt
     have hkl:k<s.links.length:=by omega
     have hon:=lidx_once hkl
     obtain ⟨l,hl⟩:∃ l,l=s.links.getD k default:=⟨_,rfl⟩
     have eO:okL s.links k=(vName l.media && !memB l.media ((s.links.take k).map LinkR.media)&&vName l.file&&(emp l.proxy||vName l.proxy) && !(l.proxy.toList==l.media.toList)):=by unfold okL;rw [← hl]
     rw [← hl] at hon
     have stop:okL s.links k=false→validSt s=false:=fun h=>by
      unfold validSt
      rw [allR_stop hkl h,Bool.and_false]
     unfold awS
     simp only [go_sem,simprocAttr,decide_true,decide_false]
     rw [← hl]
     refine ⟨⟨by omega,by omega⟩,_,cRName _,?_⟩
     simp only [go_sem,simprocAttr,decide_true,decide_false]
     refine ⟨_,fun _=>cRName _,?_⟩
     simp only [go_sem,simprocAttr,decide_true,decide_false]
     refine ⟨_,fun _=>cRLink s _ hlk,?_⟩
     simp only [go_sem,simprocAttr,decide_true,decide_false]
     refine ⟨_,fun _=>cRName _,?_⟩
     simp only [go_sem,simprocAttr,decide_true,decide_false]
     refine brW (b := !(okL s.links k)) ?_ ⟨fun h=>?_,fun h=>?_⟩
     ·rw [eO,hon]
      have hE:(l.proxy.toList==(⟨#[]⟩:ByteArray).toList)=emp l.proxy:=rfl
      have h3:=emp_no (a:=l.proxy) (b:=l.media)
      rw [hE]
      generalize vName l.media=A at *
      generalize memB l.media ((s.links.take k).map LinkR.media)=M at *
      generalize vName l.file=B at *
      generalize emp l.proxy=E at *
      generalize vName l.proxy=P at *
      generalize (l.proxy.toList==l.media.toList)=Q at *
      clear hE eO stop hon
      revert h3
      cases A<;>cases M<;>cases B<;>cases E<;>cases P<;>cases Q<;>simp
     ·rw [stop (by simpa only [Bool.not_eq_true'] using h)]
      unfold awS
      simp only [go_sem,simprocAttr,decide_true,decide_false]
     ·unfold awS
      simp only [go_sem,simprocAttr,decide_true,decide_false]
      refine ⟨k+1,weak_self ?_,⟨by omega,upto hi (by simpa only [Bool.not_eq_false'] using h)⟩,by omega⟩
      simp only [go_sem,simprocAttr,decide_true,decide_false]
      simp [wrap_of (show k<s.links.length by omega) hlk]
    ·simp only [bxx] at hge
     have:k=s.links.length:=by omega
     subst this
     have hL:=allR_iff.2 hi
     have e:validSt s=(decide ((s.files.length:Int)≤32)&&decide ((s.links.length:Int)≤16)):=by
      unfold validSt
      rw [hF,hL,Bool.and_true,Bool.and_true]
     rw [e]
     unfold awS
     simp only [go_sem,simprocAttr,decide_true,decide_false]
end Go.Proofs.YtbfnemkngoaeeaaGreat
