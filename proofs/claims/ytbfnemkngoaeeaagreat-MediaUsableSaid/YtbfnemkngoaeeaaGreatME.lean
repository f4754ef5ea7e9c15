/- Proved here: What an event does to a state of media, in the program, for use in the proofs of the given statements; conditions stand in each theorem. -/
import Derived.Test.YtbfnemkngoaeeaaGreatMB
import Derived.Test.YtbfnemkngoaeeaaGreatMA
import Derived.Test.YtbfnemkngoaeeaaGreatTB
import Derived.Test.YtbfnemkngoaeeaaGreatMC
import Derived.Test.YtbfnemkngoaeeaaGreatVX
set_option linter.unusedSimpArgs false
set_option linter.unusedVariables false
set_option linter.unusedSectionVars false
set_option linter.unnecessarySimpa false
namespace Go.Proofs.YtbfnemkngoaeeaaGreat
open Go.RowKit
set_option maxRecDepth 4000
theorem cCloneF (l:List FileR) (hl:l.length≤65536):CIO Tryz.prog 76 0 [] [.t (tfiles l)] (.own 0) [(0,RowF l)] 1:=by
 refine cio_of Tryz.xen76 Tryz.func76 rfl Tryz.ntmps76 (by rw [Tryz.results76]) (aw_ok _ ?_)
 simp only [go_sem,simprocAttr]
 intro b hn
 refine ⟨fun hb=>?_,fun hb=>?_⟩
 ·have e:List.map FileR.c l = []:=hn hb
  unfold awS
  simp only [go_sem,simprocAttr]
  refine weak_of [(0,none)] ?_
  simp only [go_sem,simprocAttr]
  rw [e]
  simp [tRows]
 ·unfold awS
  simp only [go_sem,simprocAttr]
  refine ⟨⟨Nat.le_trans hl (by decide),by omega⟩,weak_of [(0,some 1)] ?_⟩
  simp only [go_sem,simprocAttr]<;>simp [tRows]
theorem cCloneL (l:List LinkR) (hl:l.length≤65536):CIO Tryz.prog 77 0 [] [.t (tlinks l)] (.own 0) [(0,RowL l)] 1:=by
 refine cio_of Tryz.xen77 Tryz.func77 rfl Tryz.ntmps77 (by rw [Tryz.results77]) (aw_ok _ ?_)
 simp only [go_sem,simprocAttr]
 intro b hn
 refine ⟨fun hb=>?_,fun hb=>?_⟩
 ·have e:List.map LinkR.c l = []:=hn hb
  unfold awS
  simp only [go_sem,simprocAttr]
  refine weak_of [(0,none)] ?_
  simp only [go_sem,simprocAttr]
  rw [e]
  simp [tRows]
 ·unfold awS
  simp only [go_sem,simprocAttr]
  refine ⟨⟨Nat.le_trans hl (by decide),by omega⟩,weak_of [(0,some 1)] ?_⟩
  simp only [go_sem,simprocAttr]<;>simp [tRows]
theorem cArrive (s:StateR) (nm:ByteArray) (sum:Int) (hf:s.files.length≤32) :
  CIO Tryz.prog 207 3 (stH s) [.own 0,vstr nm,vu64 sum] (vint (arriveS s nm sum).1) (stK (arriveS s nm sum).2) 5:=by
 refine cio_of Tryz.xen207 Tryz.func207 rfl Tryz.ntmps207 (by rw [Tryz.results207]) (aw_ok _ ?_)
 simp only [go_sem,simprocAttr,decide_true,decide_false]
 have hf':s.files.length≤maxLen:=by unfold maxLen;omega
 refine lcall_lend ?_
 simp only [go_sem,simprocAttr,decide_true,decide_false]
 refine ⟨_,cFile s _ hf',rfl,?_⟩
 simp only [go_sem,simprocAttr,decide_true,decide_false]
 obtain ⟨x,hx⟩:∃ x,x=fidx s.files nm:=⟨_,rfl⟩
 rw [← hx]
 have hr:x = -1 ∨ ∃ k:Nat,k<s.files.length∧x=k:=by rw [hx];exact fidx_range _ _
 refine ⟨fun h2=>?_,fun h2=>?_⟩
 ·simp only [bxx] at h2
  obtain ⟨k,hk,rfl⟩:∃ k:Nat,k<s.files.length∧x=k:=by
   rcases hr with hr | hr
   ·omega
   ·exact hr
  have eA:arriveS s nm sum=(0,⟨s.files.set k ⟨nm,sum,true⟩,s.links⟩):=by
   unfold arriveS
   rw [← hx,if_pos (by omega),Int.toNat_natCast]
  rw [eA]
  unfold awS
  simp only [go_sem,simprocAttr,decide_true,decide_false]
  refine drawC_of 8 .done rfl (by kernel_rfl) (by kernel_rfl) (by decide) ?_
  simp only [go_sem,simprocAttr,decide_true,decide_false]
  refine ⟨⟨by omega,by omega⟩,hk,by kernel_rfl,?_⟩
  rw [rows_setG FileR.c ⟨nm,sum,true⟩ (by rfl)]
  refine weak_of [(4,some 2),(3,some 1),(0,some 0)] ?_
  simp only [go_sem,simprocAttr,decide_true,decide_false]
  simp
 ·simp only [bxx] at h2
  have h32:decide ((s.files.length:Int) ≥ 32)=decide (32≤s.files.length):=by
   rw [Bool.eq_iff_iff,decide_eq_true_eq,decide_eq_true_eq]
   omega
  unfold awS
  simp only [go_sem,simprocAttr,decide_true,decide_false,tRows_len,List.length_map]
  refine ⟨fun h3=>?_,fun h3=>?_⟩
  ·simp only [bxx] at h3
   have eA:arriveS s nm sum=(18,s):=by
    unfold arriveS
    rw [← hx,if_neg (by omega),if_pos (by omega)]
   rw [eA]
   unfold awS
   simp only [go_sem,simprocAttr,decide_true,decide_false]
   refine weak_of [(4,some 2),(3,some 1),(0,some 0)] ?_
   simp only [go_sem,simprocAttr,decide_true,decide_false]
   simp
  ·simp only [bxx] at h3
   have eA:arriveS s nm sum=(0,⟨s.files ++ [⟨nm,sum,true⟩],s.links⟩):=by
    unfold arriveS
    rw [← hx,if_neg (by omega),if_neg (by omega)]
   rw [eA]
   unfold awS
   simp only [go_sem,simprocAttr,decide_true,decide_false]
   refine drawC_of 11 .done rfl (by kernel_rfl) (by kernel_rfl) (by decide) ?_
   simp only [go_sem,simprocAttr,decide_true,decide_false]
   refine ⟨⟨by unfold maxLen;omega,by omega⟩,by kernel_rfl,?_⟩
   refine weak_of [(4,some 2),(3,some 11),(0,some 0)] ?_
   simp only [go_sem,simprocAttr,decide_true,decide_false]
   rw [List.map_append]
   simp
   rfl
abbrev stHs (s:StateR):Heap:=stH s
theorem cPresent (s:StateR) (nm:ByteArray) (hf:s.files.length≤32) :
  CIO Tryz.prog 245 3 (stH s) [.own 0,vstr nm] (.tup [vint (fidx s.files nm),vbool (hereB s.files nm)]) (stK s) 5:=by
 refine cio_of Tryz.xen245 Tryz.func245 rfl Tryz.ntmps245 (by rw [Tryz.results245]) (aw_ok _ ?_)
 simp only [go_sem,simprocAttr,decide_true,decide_false]
 have hf':s.files.length≤maxLen:=by unfold maxLen;omega
 refine lcall_lend ?_
 simp only [go_sem,simprocAttr,decide_true,decide_false]
 refine ⟨_,cFile s _ hf',rfl,?_⟩
 simp only [go_sem,simprocAttr,decide_true,decide_false]
 obtain ⟨x,hx⟩:∃ x,x=fidx s.files nm:=⟨_,rfl⟩
 have hr:x = -1 ∨ ∃ k:Nat,k<s.files.length∧x=k:=by rw [hx];exact fidx_range _ _
 have hB:hereB s.files nm=(decide (0≤x)&&(s.files.getD x.toNat default).present):=by unfold hereB fileAt;rw [← hx]
 rw [hB, ← hx]
 refine drawC_of 15 .done rfl (by kernel_rfl) (by kernel_rfl) (by decide) ?_
 simp only [go_sem,simprocAttr,decide_true,decide_false]
 refine ⟨fun h=>?_,fun h=>?_,by kernel_rfl,?_⟩
 ·simp only [bxx] at h
  rcases hr with hr | ⟨k,hk,hr⟩<;>omega
 ·simp only [bxx] at h
  rcases hr with hr | ⟨k,hk,hr⟩<;>omega
 ·refine weak_of [(4,some 2),(3,some 1),(0,some 0)] ?_
  simp only [go_sem,simprocAttr,decide_true,decide_false]
  simp
theorem cLeave (s:StateR) (nm:ByteArray) (hf:s.files.length≤32) :
  CIO Tryz.prog 208 3 (stH s) [.own 0,vstr nm] (vint (leaveS s nm).1) (stK (leaveS s nm).2) 5:=by
 refine cio_of Tryz.xen208 Tryz.func208 rfl Tryz.ntmps208 (by rw [Tryz.results208]) (aw_ok _ ?_)
 simp only [go_sem,simprocAttr,decide_true,decide_false]
 refine icall_io (cPresent s nm hf) [0,1,2] rfl (by omega) (by decide) ?_ rfl rfl rfl rfl ?_
 ·simp only [go_sem,simprocAttr,decide_true,decide_false]
 ·simp only [go_sem,simprocAttr,decide_true,decide_false,List.getElem?_nil]
  obtain ⟨x,hx⟩:∃ x,x=fidx s.files nm:=⟨_,rfl⟩
  rw [← hx]
  have hr:x = -1 ∨ ∃ k:Nat,k<s.files.length∧x=k:=by rw [hx];exact fidx_range _ _
  have hB:hereB s.files nm=(decide (x ≥ 0)&&(s.files.getD x.toNat default).present):=by unfold hereB fileAt;rw [← hx]
  refine ⟨fun h3=>?_,fun h3=>?_⟩
  ·have eL:leaveS s nm=(7,s):=by
    unfold leaveS
    rw [nt h3]
    rfl
   rw [eL]
   unfold awS
   simp only [go_sem,simprocAttr,decide_true,decide_false]
   refine weak_of [(4,some 4),(3,some 3),(0,some 0)] ?_
   simp only [go_sem,simprocAttr,decide_true,decide_false]
   simp
  ·have h4:=nf h3
   rw [hB] at h4
   obtain ⟨k,hk,rfl⟩:∃ k:Nat,k<s.files.length∧x=k:=by
    rcases hr with hr | hr
    ·rw [hr] at h4
     cases h4
    ·exact hr
   have eL:leaveS s nm=(0,⟨s.files.set k { s.files.getD k default with present:=false },s.links⟩):=by
    unfold leaveS fileAt
    rw [nf h3, ← hx,Int.toNat_natCast]
    rfl
   rw [eL]
   unfold awS
   simp only [go_sem,simprocAttr,decide_true,decide_false]
   refine ⟨⟨by omega,by omega⟩,hk,?_⟩
   rw [rows_setT FileR.c { s.files.getD k default with present:=false } (by rfl)]
   refine weak_of [(4,some 4),(3,some 3),(0,some 0)] ?_
   simp only [go_sem,simprocAttr,decide_true,decide_false]
   simp
theorem cConnect (s:StateR) (md nm:ByteArray) (hf:s.files.length≤32) (hl:s.links.length≤16) :
  CIO Tryz.prog 209 3 (stH s) [.own 0,vstr md,vstr nm] (vint (connectS s md nm).1) (stK (connectS s md nm).2) 5:=by
 refine cio_of Tryz.xen209 Tryz.func209 rfl Tryz.ntmps209 (by rw [Tryz.results209]) (aw_ok _ ?_)
 simp only [go_sem,simprocAttr,decide_true,decide_false]
 have hl':s.links.length≤maxLen:=by unfold maxLen;omega
 refine lcall_lend ?_
 simp only [go_sem,simprocAttr,decide_true,decide_false]
 refine ⟨_,cLink s _ hl',rfl,?_⟩
 simp only [go_sem,simprocAttr,decide_true,decide_false]
 obtain ⟨y,hy⟩:∃ y,y=lidx s.links md:=⟨_,rfl⟩
 rw [← hy]
 refine ⟨fun h4=>?_,fun h4=>?_⟩
 ·simp only [bxx] at h4
  have eC:connectS s md nm=(8,s):=by
   unfold connectS
   rw [← hy,if_pos h4]
  rw [eC]
  unfold awS
  simp only [go_sem,simprocAttr,decide_true,decide_false]
  refine weak_of [(4,some 2),(3,some 1),(0,some 0)] ?_
  simp only [go_sem,simprocAttr,decide_true,decide_false]
  simp
 ·simp only [bxx] at h4
  unfold awS
  simp only [go_sem,simprocAttr,decide_true,decide_false]
  refine icall_io (cPresent s nm hf) [0,1,2] rfl (by omega) (by decide) ?_ rfl rfl rfl rfl ?_
  ·simp only [go_sem,simprocAttr,decide_true,decide_false]
  ·simp only [go_sem,simprocAttr,decide_true,decide_false,List.getElem?_nil]
   obtain ⟨x,hx⟩:∃ x,x=fidx s.files nm:=⟨_,rfl⟩
   rw [← hx]
   have hr:x = -1 ∨ ∃ k:Nat,k<s.files.length∧x=k:=by rw [hx];exact fidx_range _ _
   have hB:hereB s.files nm=(decide (x ≥ 0)&&(s.files.getD x.toNat default).present):=by unfold hereB fileAt;rw [← hx]
   refine ⟨fun h5=>?_,fun h5=>?_⟩
   ·have eC:connectS s md nm=(7,s):=by
     unfold connectS
     rw [← hy,if_neg (by omega),nt h5]
     rfl
    rw [eC]
    unfold awS
    simp only [go_sem,simprocAttr,decide_true,decide_false]
    refine weak_of [(4,some 4),(3,some 3),(0,some 0)] ?_
    simp only [go_sem,simprocAttr,decide_true,decide_false]
    simp
   ·have h6:=nf h5
    have h6':=h6
    rw [hB] at h6'
    obtain ⟨k,hk,rfl⟩:∃ k:Nat,k<s.files.length∧x=k:=by
     rcases hr with hr | hr
     ·rw [hr] at h6'
      cases h6'
     ·exact hr
    unfold awS
    simp only [go_sem,simprocAttr,decide_true,decide_false,tRows_len,List.length_map]
    refine ⟨fun h7=>?_,fun h7=>?_⟩
    ·simp only [bxx] at h7
     have eC:connectS s md nm=(18,s):=by
      unfold connectS
      rw [← hy,if_neg (by omega),h6,if_pos rfl,if_pos (by omega)]
     rw [eC]
     unfold awS
     simp only [go_sem,simprocAttr,decide_true,decide_false]
     refine weak_of [(4,some 4),(3,some 3),(0,some 0)] ?_
     simp only [go_sem,simprocAttr,decide_true,decide_false]
     simp
    ·simp only [bxx] at h7
     have eC:connectS s md nm=(0,⟨s.files,s.links ++ [⟨md,nm,(s.files.getD k default).sum,⟨#[]⟩⟩]⟩):=by
      unfold connectS fileAt
      rw [← hy, ← hx,if_neg (by omega),h6,if_pos rfl,if_neg (by omega),Int.toNat_natCast]
     rw [eC]
     unfold awS
     simp only [go_sem,simprocAttr,decide_true,decide_false]
     refine drawC_of 21 .done rfl (by kernel_rfl) (by kernel_rfl) (by decide) ?_
     simp only [go_sem,simprocAttr,decide_true,decide_false]
     refine ⟨⟨by omega,by omega⟩,hk,⟨by unfold maxLen;omega,by omega⟩,by kernel_rfl,?_⟩
     refine weak_of [(4,some 22),(3,some 3),(0,some 0)] ?_
     simp only [go_sem,simprocAttr,decide_true,decide_false]
     rw [List.map_append]
     simp
     rfl
theorem cPerform (s:StateR) (e:EventR) (hf:s.files.length≤32) (hl:s.links.length≤16) (he : 1≤e.kind∧e.kind≤3) :
  CIO Tryz.prog 153 3 (stH s) [.own 0,vevent e] (vint (performS s e).1) (stK (performS s e).2) 5:=by
 refine cio_of Tryz.xen153 Tryz.func153 rfl Tryz.ntmps153 (by rw [Tryz.results153]) (aw_ok _ ?_)
 simp only [go_sem,simprocAttr,decide_true,decide_false]
 refine ⟨fun h1=>?_,fun h1=>?_⟩
 ·simp only [bxx] at h1
  have eP:performS s e=arriveS s e.file e.sum:=by unfold performS;rw [if_pos h1]
  rw [eP]
  unfold awS
  simp only [go_sem,simprocAttr,decide_true,decide_false]
  refine icall_io (cArrive s e.file e.sum hf) [0,1,2] rfl (by omega) (by decide) ?_ rfl rfl rfl rfl ?_
  ·simp only [go_sem,simprocAttr,decide_true,decide_false]
  ·simp only [go_sem,simprocAttr,decide_true,decide_false,List.getElem?_nil]
   refine weak_of [(4,some 5),(3,some 4),(0,some 0)] ?_
   simp only [go_sem,simprocAttr,decide_true,decide_false]
   simp
 ·simp only [bxx] at h1
  unfold awS
  simp only [go_sem,simprocAttr,decide_true,decide_false]
  refine ⟨fun h2=>?_,fun h2=>?_⟩
  ·simp only [bxx] at h2
   have eP:performS s e=leaveS s e.file:=by unfold performS;rw [if_neg h1,if_pos h2]
   rw [eP]
   unfold awS
   simp only [go_sem,simprocAttr,decide_true,decide_false]
   refine icall_io (cLeave s e.file hf) [0,1,2] rfl (by omega) (by decide) ?_ rfl rfl rfl rfl ?_
   ·simp only [go_sem,simprocAttr,decide_true,decide_false]
   ·simp only [go_sem,simprocAttr,decide_true,decide_false,List.getElem?_nil]
    refine weak_of [(4,some 5),(3,some 4),(0,some 0)] ?_
    simp only [go_sem,simprocAttr,decide_true,decide_false]
    simp
  ·simp only [bxx] at h2
   have h3:e.kind=3:=by omega
   have eP:performS s e=connectS s e.media e.file:=by unfold performS;rw [if_neg h1,if_neg h2,if_pos h3]
   rw [eP]
   have h3':(e.kind==3)=true:=by rw [h3];rfl
   unfold awS
   simp only [go_sem,simprocAttr,decide_true,decide_false]
   rw [h3']
   simp only [go_sem,simprocAttr,decide_true,decide_false]
   refine ⟨?_,fun h=>h.elim⟩
   unfold awS
   simp only [go_sem,simprocAttr,decide_true,decide_false]
   refine icall_io (cConnect s e.media e.file hf hl) [0,1,2] rfl (by omega) (by decide) ?_ rfl rfl rfl rfl ?_
   ·simp only [go_sem,simprocAttr,decide_true,decide_false]
   ·simp only [go_sem,simprocAttr,decide_true,decide_false,List.getElem?_nil]
    refine weak_of [(4,some 5),(3,some 4),(0,some 0)] ?_
    simp only [go_sem,simprocAttr,decide_true,decide_false]
    simp
open Go.RowKit
set_option maxRecDepth 4000
theorem cPEvent (e:EventR):CPure Tryz.prog 152 [vevent e] (vbool (validEv e)):=by
 refine cpure_of Tryz.xen152 Tryz.func152 rfl Tryz.ntmps152 (by rw [Tryz.results152]) (aw_ok _ ?_)
 simp only [go_sem,simprocAttr,decide_true,decide_false]
 refine drawC_of 12 .done rfl (by kernel_rfl) (by kernel_rfl) (by decide) ?_
 simp only [go_sem,simprocAttr,decide_true,decide_false]
 refine ⟨_,cPName _,?_⟩
 simp only [go_sem,simprocAttr,decide_true,decide_false]
 refine ⟨_,cPName _,?_⟩
 simp only [go_sem,simprocAttr,decide_true,decide_false]
 refine ⟨_,cPx _,?_⟩
 simp only [go_sem,simprocAttr,decide_true,decide_false]
 have eV:validEv e=if e.kind=1 then vName e.file&&emp e.media&&emp e.proxy
  else if e.kind=2 then vName e.file&&emp e.media&&emp e.proxy&&(e.sum==0)
  else if e.kind=3∨e.kind=4 then vName e.media&&vName e.file&&emp e.proxy&&(e.sum==0)
  else if e.kind=5 then vName e.media&&(emp e.proxy||vName e.proxy)&&emp e.file&&(e.sum==0)
  else false:=rfl
 rw [eV]
 refine ⟨by kernel_rfl,fun h1=>?_,fun h1=>?_⟩
 ·simp only [bxx] at h1
  rw [if_pos h1]
  unfold awS
  simp only [go_sem,simprocAttr,decide_true,decide_false]
  rfl
 ·simp only [bxx] at h1
  rw [if_neg h1]
  unfold awS
  simp only [go_sem,simprocAttr,decide_true,decide_false]
  refine ⟨fun h2=>?_,fun h2=>?_⟩
  ·simp only [bxx] at h2
   rw [if_pos h2]
   unfold awS
   simp only [go_sem,simprocAttr,decide_true,decide_false]
   rfl
  ·simp only [bxx] at h2
   rw [if_neg h2]
   unfold awS
   simp only [go_sem,simprocAttr,decide_true,decide_false]
   refine ⟨fun h3=>?_,fun h3=>?_⟩
   ·simp only [bxx] at h3
    rw [if_pos (.inl h3)]
    unfold awS
    simp only [go_sem,simprocAttr,decide_true,decide_false]
    refine ⟨fun _=>?_,fun h'=>by simp only [bxx] at h';omega⟩
    unfold awS
    simp only [go_sem,simprocAttr,decide_true,decide_false]
    rfl
   ·simp only [bxx] at h3
    unfold awS
    simp only [go_sem,simprocAttr,decide_true,decide_false]
    refine ⟨fun h4=>?_,fun h4=>?_⟩
    ·simp only [bxx] at h4
     rw [if_pos (.inr h4)]
     unfold awS
     simp only [go_sem,simprocAttr,decide_true,decide_false]
     rfl
    ·simp only [bxx] at h4
     rw [if_neg (by omega)]
     unfold awS
     simp only [go_sem,simprocAttr,decide_true,decide_false]
     refine ⟨fun h5=>?_,fun h5=>?_⟩
     ·simp only [bxx] at h5
      rw [if_pos h5]
      unfold awS
      simp only [go_sem,simprocAttr,decide_true,decide_false]
      rfl
     ·simp only [bxx] at h5
      rw [if_neg h5]
      unfold awS
      simp only [go_sem,simprocAttr,decide_true,decide_false]
theorem cPStep (s:StateR) (e:EventR) (hf:s.files.length≤65536) (hl:s.links.length≤65536) (hk:e.kind≤3):CPure Tryz.prog 78 [vstate s,vevent e] (vstep (mStep s e)):=by
 refine cpure_ofW Tryz.xen78 Tryz.func78 rfl Tryz.ntmps78 (by rw [Tryz.results78]) (aw_ok _ ?_)
 simp only [go_sem,simprocAttr,decide_true,decide_false]
 have hf':s.files.length≤maxLen:=by unfold maxLen;omega
 have hl':s.links.length≤maxLen:=by unfold maxLen;omega
 refine ⟨_,cValidS s hf' hl',?_⟩
 simp only [go_sem,simprocAttr,decide_true,decide_false]
 refine ⟨_,fun _=>cPEvent e,?_⟩
 simp only [go_sem,simprocAttr,decide_true,decide_false]
 refine ⟨fun h=>?_,fun h=>?_⟩
 ·have eS:mStep s e=(⟨[],[]⟩,[],1):=by
   unfold mStep
   rw [if_neg]
   simp only [Bool.and_eq_true,not_and,Bool.not_eq_true]
   intro h1
   rw [h1,Bool.not_true,Bool.false_or] at h
   exact nt h
  rw [eS]
  unfold awS
  simp only [go_sem,simprocAttr,decide_true,decide_false]
  exact pureW_step 1
 ·rw [Bool.or_eq_false_iff] at h
  have h1:=nf h.1
  have h2:=nf h.2
  unfold awS
  simp only [go_sem,simprocAttr,decide_true,decide_false]
  refine drawF_of [] [2,5] 9 .done rfl (by kernel_rfl) (by kernel_rfl) (by decide) ?_
  simp only [go_sem,simprocAttr,decide_true,decide_false]
  refine fcall (cCloneF s.files hf) rfl ?_
  simp only [go_sem,simprocAttr,decide_true,decide_false]
  refine fcall (cCloneL s.links hl) rfl ?_
  simp only [go_sem,simprocAttr,decide_true,decide_false]
  have he : 1≤e.kind∧e.kind≤3:=by
   refine ⟨?_,hk⟩
   apply Classical.byContradiction
   intro hc
   unfold validEv at h2
   rw [if_neg (by omega),if_neg (by omega),if_neg (by omega),if_neg (by omega)] at h2
   cases h2
  have hsz:=(ok_iff s).1 h1
  refine ⟨by kernel_rfl,?_⟩
  refine icall_io (cPerform s e hsz.nf hsz.nl he) [10,5,8] rfl (by omega) (by decide) ?_ rfl rfl rfl rfl ?_
  ·simp only [go_sem,simprocAttr,decide_true,decide_false]
  ·simp only [go_sem,simprocAttr,decide_true,decide_false,List.getElem?_nil]
   obtain ⟨r,hr⟩:∃ r,r=performS s e:=⟨_,rfl⟩
   rw [← hr]
   have hsm:r.1=0→Ok r.2:=fun h0=>by rw [hr];exact (perform_ok hsz h2 (by rw [← hr];exact h0)).ok
   refine brW (b:=decide (r.1≠0)) ?_ ⟨fun h3=>?_,fun h3=>?_⟩
   ·rw [Bool.eq_iff_iff,decide_eq_true_eq,bne_iff_ne]
   ·have h4:=of_decide_eq_true h3
    have eS:mStep s e=(⟨[],[]⟩,[],r.1):=by
     unfold mStep
     rw [h1,h2,if_pos (by rfl), ← hr,if_neg h4]
    rw [eS]
    unfold awS
    simp only [go_sem,simprocAttr,decide_true,decide_false]
    exact pureW_step _
   ·have h4:r.1=0:=by simpa using h3
    have eS:mStep s e=(r.2,outsS s r.2,0):=by
     unfold mStep
     rw [h1,h2,if_pos (by rfl), ← hr,if_pos h4]
    have ht:=hsm h4
    rw [eS,h4]
    obtain ⟨t,htt⟩:∃ t,t=r.2:=⟨_,rfl⟩
    rw [← htt] at ht ⊢
    have htf:t.files.length≤maxLen:=by have:=ht.nf;unfold maxLen;omega
    have htl:t.links.length≤maxLen:=by have:=ht.nl;unfold maxLen;omega
    have ht16:=ht.nl
    unfold awS
    simp only [go_sem,simprocAttr,decide_true,decide_false]
    refine awp_give [12,13] ?_
    simp only [go_sem,simprocAttr,decide_true,decide_false]
    refine awp_loop_f (fun (k:Nat) σ => (fun τ : St => { τ with h:=(14,RowO (outsTo s t k))::(τ.h.del 13).del 12,nx:=15 }) (setS 9 (.own 14) (setS 38 (vint k) (deadS [11,12,39,40,41,42,43,44,45,46,47,48,49,50,51,52,53,54,55,56,57,58,59] (cleanS σ))))) (fun k=>k≤t.links.length) (fun k=>t.links.length - k) 0 (weak_of [(14,none),(10,some 10),(2,some 2),(1,some 1),(0,some 0)] ?_) (Nat.zero_le _) ?_
    ·simp only [go_sem,simprocAttr,decide_true,decide_false]
     exact ⟨rfl,by simp,by simp,by simp,by simp⟩
    ·intro k hk
     refine aw_ok _ ?_
     simp only [go_sem,simprocAttr,decide_true,decide_false]
     refine ⟨fun hlt=>?_,fun hge=>?_⟩
     ·simp only [bxx] at hlt
      have hkl:k<t.links.length:=by omega
      obtain ⟨n,hn⟩:∃ n,n=(t.links.getD k default).media:=⟨_,rfl⟩
      have eO:=outsTo_succ (s:=s) hkl
      have oL:=outsTo_len s t k
      unfold awS
      simp only [go_sem,simprocAttr,decide_true,decide_false]
      rw [← hn]
      refine ⟨⟨by omega,by omega⟩,_,cStatus t n htf htl,?_⟩
      simp only [go_sem,simprocAttr,decide_true,decide_false]
      refine ⟨_,cStatus s n hf' hl',?_⟩
      simp only [go_sem,simprocAttr,decide_true,decide_false]
      refine brW (b:=decide (status s n≠status t n)) ?_ ⟨fun h5=>?_,fun h5=>?_⟩
      ·rw [Bool.eq_iff_iff,decide_eq_true_eq,bne_iff_ne,ne_comm]
      ·have h6:=of_decide_eq_true h5
       have eF:outF s t (t.links.getD k default)=some ⟨n,status t n⟩:=by
        unfold outF
        rw [← hn,if_pos (by rw [bne_iff_ne];exact fun e=>h6 e.symm)]
       rw [eF] at eO
       unfold awS
       simp only [go_sem,simprocAttr,decide_true,decide_false]
       refine ⟨⟨by unfold maxLen;omega,by omega⟩,k+1,weak_of [(14,some 17),(10,some 10),(2,some 2),(1,some 1),(0,some 0)] ?_,by omega,by omega⟩
       simp only [go_sem,simprocAttr,decide_true,decide_false]
       rw [eO,List.map_append,wrap1 (show k<9223372036854775807 by omega)]
       simp
       rfl
      ·have h6:status s n=status t n:=by simpa using h5
       have eF:outF s t (t.links.getD k default)=none:=by
        unfold outF
        rw [← hn,h6,if_neg (by simp)]
       rw [eF] at eO
       unfold awS
       simp only [go_sem,simprocAttr,decide_true,decide_false]
       refine ⟨k+1,weak_self ?_,by omega,by omega⟩
       simp only [go_sem,simprocAttr,decide_true,decide_false]
       rw [eO,wrap1 (show k<9223372036854775807 by omega)]
       simp
     ·simp only [bxx] at hge
      have:k=t.links.length:=by omega
      subst this
      unfold awS
      simp only [go_sem,simprocAttr,decide_true,decide_false]
      rw [show outsTo s t t.links.length=outsS s t from by unfold outsTo outsS;rw [List.take_length]]
      refine pureW_self ?_ rfl
      simp only [go_sem,simprocAttr,decide_true,decide_false]
open Go.RowKit
set_option maxRecDepth 4000
theorem errs_ok (l:List Int) {k n:Nat} (e:Int) (hl:l.length=k) (h:k<n):(l++List.replicate (n - k) 0).set k e=(l ++ [e])++List.replicate (n - (k+1)) 0:=by
 obtain ⟨m,hm⟩:∃ m,n - k=m+1:=⟨n - k - 1,by omega⟩
 rw [hm,show n - (k+1)=m by omega,List.replicate_succ,List.set_append_right _ _ (by omega),hl,Nat.sub_self,List.set_cons_zero]
 simp
theorem errs_zero (l:List Int) {k n:Nat} (h:k<n):l++List.replicate (n - k) 0=(l ++ [0])++List.replicate (n - (k+1)) 0:=by
 obtain ⟨m,hm⟩:∃ m,n - k=m+1:=⟨n - k - 1,by omega⟩
 rw [hm,show n - (k+1)=m by omega,List.replicate_succ]
 simp
@[go_sem] abbrev ErrF (acc:StateR×List OutR×List Int) (d:Nat) (k:Nat) (σ : St):St :=
 (fun τ : St => { τ with h:=(11,RowO acc.2.1)::(((τ.h.del 8).del 5).set 2 (Row23 (acc.2.2++List.replicate d 0))).set 0 (.box [.t (tfiles acc.1.files), .t (tlinks acc.1.links)]),nx:=12 }) (setS 9 (.own 11) (setS 41 (vint k) (deadS [10,11,12,13,14,42,43,44,45,46,47,48,49,50,51,52,53,54,55,56,57,58,59,60,61,62,63] (cleanS σ))))
theorem cPRun (s:StateR) (es:List EventR) (hs:Ok s) (hes:es.length≤65536) (hk3:∀ e∈es,e.kind≤3):CPure Tryz.prog 27 [vstate s, .t (tevents es)] (.tup [vstate (runFrom s es).1, .t (touts (runFrom s es).2.1), .t (tints (runFrom s es).2.2)]):=by
 refine cpure_of Tryz.xen27 Tryz.func27 rfl Tryz.ntmps27 (by rw [Tryz.results27]) (aw_ok _ ?_)
 have hnf:=hs.nf
 have hnl:=hs.nl
 simp only [go_sem,simprocAttr,decide_true,decide_false]
 refine ⟨⟨by omega,by unfold maxLen;omega,by omega⟩,_,cValidS s (by unfold maxLen;omega) (by unfold maxLen;omega),?_⟩
 rw [(ok_iff s).2 hs]
 simp only [go_sem,simprocAttr,decide_true,decide_false]
 refine drawF_of [] [2,5] 8 .done rfl (by kernel_rfl) (by kernel_rfl) (by decide) ?_
 simp only [go_sem,simprocAttr,decide_true,decide_false]
 refine fcall (cCloneF s.files (by omega)) rfl ?_
 simp only [go_sem,simprocAttr,decide_true,decide_false]
 refine fcall (cCloneL s.links (by omega)) rfl ?_
 simp only [go_sem,simprocAttr,decide_true,decide_false]
 refine ⟨by kernel_rfl,?_⟩
 have hel:es.length≤maxLen:=by unfold maxLen;omega
 refine awp_give [5,8] ?_
 simp only [go_sem,simprocAttr,decide_true,decide_false]
 refine awp_loop_f (fun (k:Nat) σ => ErrF (runFrom s (es.take k)) (es.length - k) k σ) (fun k=>k≤es.length) (fun k=>es.length - k) 0 (weak_of [(11,none),(2,some 2),(1,some 1),(0,some 0)] ?_) (Nat.zero_le _) ?_
 ·simp only [go_sem,simprocAttr,decide_true,decide_false]
  refine ⟨rfl,by simp,?_,by simp,by simp,rfl,rfl⟩
  show _=List.map intC ([]++List.replicate (es.length - 0) 0)
  rw [List.nil_append,Nat.sub_zero,List.map_replicate]
  rfl
 ·intro k hk
  refine aw_ok _ ?_
  simp only [go_sem,simprocAttr,decide_true,decide_false]
  refine ⟨fun hlt=>?_,fun hge=>?_⟩
  ·simp only [bxx] at hlt
   have hlt':k<es.length:=by omega
   obtain ⟨hcur,houts⟩:=runFrom_ok hs es k hk
   have hcf:=hcur.nf
   have hcl:=hcur.nl
   have hacc:(runFrom s (List.take k es)).snd.snd.length=k:=runFrom_len s es k hk
   have hnext:=runFrom_snoc (s:=s) hlt'
   have hso:=mStep_outs (es.getD k default) hcur
   have hkk:(es.getD k default).kind≤3:=hk3 _ (mem_getD hlt')
   unfold awS
   simp only [go_sem,simprocAttr,decide_true,decide_false]
   generalize es.getD k default=ev at *
   refine ⟨⟨by omega,by omega⟩,_,cPStep (runFrom s (es.take k)).1 ev (by omega) (by omega) hkk,?_⟩
   simp only [go_sem,simprocAttr,decide_true,decide_false]
   obtain ⟨r,hr⟩:∃ r,r=mStep (runFrom s (es.take k)).1 ev:=⟨_,rfl⟩
   rw [← hr] at hso ⊢
   refine brW (b:=decide (r.2.2≠0)) ?_ ⟨fun h3=>?_,fun h3=>?_⟩
   ·rw [Bool.eq_iff_iff,decide_eq_true_eq,bne_iff_ne]
   ·have h4:=of_decide_eq_true h3
    have hA:runFrom s (List.take (k+1) es)=((runFrom s (List.take k es)).1,(runFrom s (List.take k es)).2.1,(runFrom s (List.take k es)).2.2 ++ [r.2.2]):=by rw [hnext,runStep, ← hr,if_neg h4]
    unfold awS
    simp only [go_sem,simprocAttr,decide_true,decide_false]
    rw [List.length_append,List.length_replicate,hacc]
    refine ⟨⟨by omega,by omega⟩,by omega,?_⟩
    rw [rows_setT intC r.2.2 (by rfl),errs_ok _ _ hacc hlt']
    refine ⟨k+1,weak_self ?_,by omega,by omega⟩
    simp only [go_sem,simprocAttr,decide_true,decide_false,hA]
    simp [wrap_of hlt' hel]
   ·have h4:r.2.2=0:=by simpa using h3
    have hA:runFrom s (List.take (k+1) es)=(r.1,(runFrom s (List.take k es)).2.1++r.2.1,(runFrom s (List.take k es)).2.2 ++ [0]):=by rw [hnext,runStep, ← hr,if_pos h4]
    unfold awS
    simp only [go_sem,simprocAttr,decide_true,decide_false]
    rw [errs_zero _ hlt']
    refine ⟨⟨by unfold maxLen;omega,by omega⟩,k+1,weak_of [(11,some 14),(2,some 2),(1,some 1),(0,some 0)] ?_,by omega,by omega⟩
    simp only [go_sem,simprocAttr,decide_true,decide_false,hA]
    rw [List.map_append]
    simp [wrap_of hlt' hel]
  ·simp only [bxx] at hge
   unfold awS
   simp only [go_sem,simprocAttr,decide_true,decide_false]
   have:k=es.length:=by omega
   subst this
   simp only [List.take_length,Nat.sub_self,List.replicate_zero,List.append_nil]
end Go.Proofs.YtbfnemkngoaeeaaGreat
