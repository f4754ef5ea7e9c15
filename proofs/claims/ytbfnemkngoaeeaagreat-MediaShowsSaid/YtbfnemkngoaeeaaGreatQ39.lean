/- Proved here: What an event does to a state of media, in the program; conditions stand in each theorem. -/
import Derived.Test.YtbfnemkngoaeeaaGreatQ34
import Derived.Test.YtbfnemkngoaeeaaGreatQ33
import Derived.Test.YtbfnemkngoaeeaaGreatQ28
import Derived.Test.YtbfnemkngoaeeaaGreatQ37
import Derived.Test.YtbfnemkngoaeeaaGreatQ38
set_option linter.unusedSimpArgs false
set_option linter.unusedVariables false
set_option linter.unusedSectionVars false
set_option linter.unnecessarySimpa false
namespace Go.Proofs.YtbfnemkngoaeeaaGreat
open Go.RowKit
set_option maxRecDepth 4000
theorem aNq (l:List FileR) (hl:l.length≤65536):CIO Tryz.prog 76 0 [] [.t (Dq l)] (.own 0) [(0,RowF l)] 1:=by
 refine mW Tryz.X76 Tryz.func76 rfl Tryz.ntmps76 (by rw [Tryz.results76]) (aD _ ?_);simp only [go_sem,simprocAttr];intro b hn;refine ⟨fun hb=>?_,fun hb=>?_⟩
 ·have e:List.map FileR.c l = []:=hn hb;unfold awS;simp only [go_sem,simprocAttr];refine aN [(0,none)] ?_;simp only [go_sem,simprocAttr];rw [e];simp [aL]
 ·unfold awS;simp only [go_sem,simprocAttr];refine ⟨⟨Nat.le_trans hl (by decide),by omega⟩,aN [(0,some 1)] ?_⟩;simp only [go_sem,simprocAttr]<;>simp [aL]
theorem aNp (l:List LinkR) (hl:l.length≤65536):CIO Tryz.prog 77 0 [] [.t (Dp l)] (.own 0) [(0,RowL l)] 1:=by
 refine mW Tryz.X77 Tryz.func77 rfl Tryz.ntmps77 (by rw [Tryz.results77]) (aD _ ?_);simp only [go_sem,simprocAttr];intro b hn;refine ⟨fun hb=>?_,fun hb=>?_⟩
 ·have e:List.map LinkR.c l = []:=hn hb;unfold awS;simp only [go_sem,simprocAttr];refine aN [(0,none)] ?_;simp only [go_sem,simprocAttr];rw [e];simp [aL]
 ·unfold awS;simp only [go_sem,simprocAttr];refine ⟨⟨Nat.le_trans hl (by decide),by omega⟩,aN [(0,some 1)] ?_⟩;simp only [go_sem,simprocAttr]<;>simp [aL]
theorem cArrive (s:StateR) (nm:ByteArray) (sum:Int) (hf:s.files.length≤32) :
  CIO Tryz.prog 207 3 (stH s) [.own 0,bM nm,dS sum] (aC (dJ s nm sum).1) (stK (dJ s nm sum).2) 5:=by
 refine mW Tryz.X207 Tryz.func207 rfl Tryz.ntmps207 (by rw [Tryz.results207]) (aD _ ?_);simp only [go_sem,simprocAttr,dtf];have hf':s.files.length≤maxLen:=by unfold maxLen;omega
 refine rC ?_;simp only [go_sem,simprocAttr,dtf];refine ⟨_,aWn s _ hf',rfl,?_⟩;simp only [go_sem,simprocAttr,dtf];obtain ⟨x,hx⟩:∃ x,x=jM s.files nm:=⟨_,rfl⟩
 rw [← hx];have hr:x = -1 ∨ ∃ k:Nat,k<s.files.length∧x=k:=by rw [hx];exact fidx_range _ _
 refine ⟨fun h2=>?_,fun h2=>?_⟩
 ·simp only [bxx] at h2;obtain ⟨k,hk,rfl⟩:∃ k:Nat,k<s.files.length∧x=k:=by
   rcases hr with hr | hr
   ·omega
   ·exact hr
  have eA:dJ s nm sum=(0,⟨s.files.set k ⟨nm,sum,true⟩,s.links⟩):=by
   unfold dJ;rw [← hx,if_pos (by omega),Int.toNat_natCast]
  rw [eA];unfold awS;simp only [go_sem,simprocAttr,dtf];refine aK 8 .done rfl (by kernel_rfl) (by kernel_rfl) (by decide) ?_;simp only [go_sem,simprocAttr,dtf];refine ⟨⟨by omega,by omega⟩,hk,by kernel_rfl,?_⟩;rw [sZ FileR.c ⟨nm,sum,true⟩ (by rfl)];refine aN [(4,some 2),(3,some 1),(0,some 0)] ?_;simp only [go_sem,simprocAttr,dtf];simp
 ·simp only [bxx] at h2;have h32:decide ((s.files.length:Int) ≥ 32)=decide (32≤s.files.length):=by
   rw [Bool.eq_iff_iff,decide_eq_true_eq,decide_eq_true_eq];omega
  unfold awS;simp only [go_sem,simprocAttr,dtf,gK,List.length_map];refine ⟨fun h3=>?_,fun h3=>?_⟩
  ·simp only [bxx] at h3;have eA:dJ s nm sum=(18,s):=by
    unfold dJ;rw [← hx,if_neg (by omega),if_pos (by omega)]
   rw [eA];unfold awS;simp only [go_sem,simprocAttr,dtf];refine aN [(4,some 2),(3,some 1),(0,some 0)] ?_;simp only [go_sem,simprocAttr,dtf];simp
  ·simp only [bxx] at h3;have eA:dJ s nm sum=(0,⟨s.files ++ [⟨nm,sum,true⟩],s.links⟩):=by
    unfold dJ;rw [← hx,if_neg (by omega),if_neg (by omega)]
   rw [eA];unfold awS;simp only [go_sem,simprocAttr,dtf];refine aK 11 .done rfl (by kernel_rfl) (by kernel_rfl) (by decide) ?_;simp only [go_sem,simprocAttr,dtf];refine ⟨⟨by unfold maxLen;omega,by omega⟩,by kernel_rfl,?_⟩;refine aN [(4,some 2),(3,some 11),(0,some 0)] ?_;simp only [go_sem,simprocAttr,dtf];rw [List.map_append];simp;rfl
abbrev stHs (s:StateR):Heap:=stH s
theorem aH1 (s:StateR) (nm:ByteArray) (hf:s.files.length≤32) :
  CIO Tryz.prog 245 3 (stH s) [.own 0,bM nm] (.tup [aC (jM s.files nm),aS (rY s.files nm)]) (stK s) 5:=by
 refine mW Tryz.X245 Tryz.func245 rfl Tryz.ntmps245 (by rw [Tryz.results245]) (aD _ ?_);simp only [go_sem,simprocAttr,dtf];have hf':s.files.length≤maxLen:=by unfold maxLen;omega
 refine rC ?_;simp only [go_sem,simprocAttr,dtf];refine ⟨_,aWn s _ hf',rfl,?_⟩;simp only [go_sem,simprocAttr,dtf];obtain ⟨x,hx⟩:∃ x,x=jM s.files nm:=⟨_,rfl⟩
 have hr:x = -1 ∨ ∃ k:Nat,k<s.files.length∧x=k:=by rw [hx];exact fidx_range _ _
 have hB:rY s.files nm=(decide (0≤x)&&(s.files.getD x.toNat default).present):=by unfold rY gR;rw [← hx]
 rw [hB, ← hx];refine aK 15 .done rfl (by kernel_rfl) (by kernel_rfl) (by decide) ?_;simp only [go_sem,simprocAttr,dtf];refine ⟨fun h=>?_,fun h=>?_,by kernel_rfl,?_⟩
 ·simp only [bxx] at h;rcases hr with hr | ⟨k,hk,hr⟩<;>omega
 ·simp only [bxx] at h;rcases hr with hr | ⟨k,hk,hr⟩<;>omega
 ·refine aN [(4,some 2),(3,some 1),(0,some 0)] ?_;simp only [go_sem,simprocAttr,dtf];simp
theorem cLeave (s:StateR) (nm:ByteArray) (hf:s.files.length≤32) :
  CIO Tryz.prog 208 3 (stH s) [.own 0,bM nm] (aC (gM s nm).1) (stK (gM s nm).2) 5:=by
 refine mW Tryz.X208 Tryz.func208 rfl Tryz.ntmps208 (by rw [Tryz.results208]) (aD _ ?_);simp only [go_sem,simprocAttr,dtf];refine cG (aH1 s nm hf) [0,1,2] rfl (by omega) (by decide) ?_ rfl rfl rfl rfl ?_
 ·simp only [go_sem,simprocAttr,dtf]
 ·simp only [go_sem,simprocAttr,dtf,List.getElem?_nil];obtain ⟨x,hx⟩:∃ x,x=jM s.files nm:=⟨_,rfl⟩
  rw [← hx];have hr:x = -1 ∨ ∃ k:Nat,k<s.files.length∧x=k:=by rw [hx];exact fidx_range _ _
  have hB:rY s.files nm=(decide (x ≥ 0)&&(s.files.getD x.toNat default).present):=by unfold rY gR;rw [← hx]
  refine ⟨fun h3=>?_,fun h3=>?_⟩
  ·have eL:gM s nm=(7,s):=by
    unfold gM;rw [nt h3];rfl
   rw [eL];unfold awS;simp only [go_sem,simprocAttr,dtf];refine aN [(4,some 4),(3,some 3),(0,some 0)] ?_;simp only [go_sem,simprocAttr,dtf];simp
  ·have h4:=nf h3;rw [hB] at h4;obtain ⟨k,hk,rfl⟩:∃ k:Nat,k<s.files.length∧x=k:=by
    rcases hr with hr | hr
    ·rw [hr] at h4;cases h4
    ·exact hr
   have eL:gM s nm=(0,⟨s.files.set k { s.files.getD k default with present:=false },s.links⟩):=by
    unfold gM gR;rw [nf h3, ← hx,Int.toNat_natCast];rfl
   rw [eL];unfold awS;simp only [go_sem,simprocAttr,dtf];refine ⟨⟨by omega,by omega⟩,hk,?_⟩;rw [Jk FileR.c { s.files.getD k default with present:=false } (by rfl)];refine aN [(4,some 4),(3,some 3),(0,some 0)] ?_;simp only [go_sem,simprocAttr,dtf];simp
theorem aWs (s:StateR) (md nm:ByteArray) (hf:s.files.length≤32) (hl:s.links.length≤16) :
  CIO Tryz.prog 209 3 (stH s) [.own 0,bM md,bM nm] (aC (cH s md nm).1) (stK (cH s md nm).2) 5:=by
 refine mW Tryz.X209 Tryz.func209 rfl Tryz.ntmps209 (by rw [Tryz.results209]) (aD _ ?_);simp only [go_sem,simprocAttr,dtf];have hl':s.links.length≤maxLen:=by unfold maxLen;omega
 refine rC ?_;simp only [go_sem,simprocAttr,dtf];refine ⟨_,aWh s _ hl',rfl,?_⟩;simp only [go_sem,simprocAttr,dtf];obtain ⟨y,hy⟩:∃ y,y=mG s.links md:=⟨_,rfl⟩
 rw [← hy];refine ⟨fun h4=>?_,fun h4=>?_⟩
 ·simp only [bxx] at h4;have eC:cH s md nm=(8,s):=by
   unfold cH;rw [← hy,if_pos h4]
  rw [eC];unfold awS;simp only [go_sem,simprocAttr,dtf];refine aN [(4,some 2),(3,some 1),(0,some 0)] ?_;simp only [go_sem,simprocAttr,dtf];simp
 ·simp only [bxx] at h4;unfold awS;simp only [go_sem,simprocAttr,dtf];refine cG (aH1 s nm hf) [0,1,2] rfl (by omega) (by decide) ?_ rfl rfl rfl rfl ?_
  ·simp only [go_sem,simprocAttr,dtf]
  ·simp only [go_sem,simprocAttr,dtf,List.getElem?_nil];obtain ⟨x,hx⟩:∃ x,x=jM s.files nm:=⟨_,rfl⟩
   rw [← hx];have hr:x = -1 ∨ ∃ k:Nat,k<s.files.length∧x=k:=by rw [hx];exact fidx_range _ _
   have hB:rY s.files nm=(decide (x ≥ 0)&&(s.files.getD x.toNat default).present):=by unfold rY gR;rw [← hx]
   refine ⟨fun h5=>?_,fun h5=>?_⟩
   ·have eC:cH s md nm=(7,s):=by
     unfold cH;rw [← hy,if_neg (by omega),nt h5];rfl
    rw [eC];unfold awS;simp only [go_sem,simprocAttr,dtf];refine aN [(4,some 4),(3,some 3),(0,some 0)] ?_;simp only [go_sem,simprocAttr,dtf];simp
   ·have h6:=nf h5;have h6':=h6;rw [hB] at h6';obtain ⟨k,hk,rfl⟩:∃ k:Nat,k<s.files.length∧x=k:=by
     rcases hr with hr | hr
     ·rw [hr] at h6';cases h6'
     ·exact hr
    unfold awS;simp only [go_sem,simprocAttr,dtf,gK,List.length_map];refine ⟨fun h7=>?_,fun h7=>?_⟩
    ·simp only [bxx] at h7;have eC:cH s md nm=(18,s):=by
      unfold cH;rw [← hy,if_neg (by omega),h6,if_pos rfl,if_pos (by omega)]
     rw [eC];unfold awS;simp only [go_sem,simprocAttr,dtf];refine aN [(4,some 4),(3,some 3),(0,some 0)] ?_;simp only [go_sem,simprocAttr,dtf];simp
    ·simp only [bxx] at h7;have eC:cH s md nm=(0,⟨s.files,s.links ++ [⟨md,nm,(s.files.getD k default).sum,⟨#[]⟩⟩]⟩):=by
      unfold cH gR;rw [← hy, ← hx,if_neg (by omega),h6,if_pos rfl,if_neg (by omega),Int.toNat_natCast]
     rw [eC];unfold awS;simp only [go_sem,simprocAttr,dtf];refine aK 21 .done rfl (by kernel_rfl) (by kernel_rfl) (by decide) ?_;simp only [go_sem,simprocAttr,dtf];refine ⟨⟨by omega,by omega⟩,hk,⟨by unfold maxLen;omega,by omega⟩,by kernel_rfl,?_⟩;refine aN [(4,some 22),(3,some 3),(0,some 0)] ?_;simp only [go_sem,simprocAttr,dtf];rw [List.map_append];simp;rfl
theorem aW9 (s:StateR) (e:EventR) (hf:s.files.length≤32) (hl:s.links.length≤16) (he : 1≤e.kind∧e.kind≤3) :
  CIO Tryz.prog 153 3 (stH s) [.own 0,Hy e] (aC (bJ s e).1) (stK (bJ s e).2) 5:=by
 refine mW Tryz.X153 Tryz.func153 rfl Tryz.ntmps153 (by rw [Tryz.results153]) (aD _ ?_);simp only [go_sem,simprocAttr,dtf];refine ⟨fun h1=>?_,fun h1=>?_⟩
 ·simp only [bxx] at h1;have eP:bJ s e=dJ s e.file e.sum:=by unfold bJ;rw [if_pos h1]
  rw [eP];unfold awS;simp only [go_sem,simprocAttr,dtf];refine cG (cArrive s e.file e.sum hf) [0,1,2] rfl (by omega) (by decide) ?_ rfl rfl rfl rfl ?_
  ·simp only [go_sem,simprocAttr,dtf]
  ·simp only [go_sem,simprocAttr,dtf,List.getElem?_nil];refine aN [(4,some 5),(3,some 4),(0,some 0)] ?_;simp only [go_sem,simprocAttr,dtf];simp
 ·simp only [bxx] at h1;unfold awS;simp only [go_sem,simprocAttr,dtf];refine ⟨fun h2=>?_,fun h2=>?_⟩
  ·simp only [bxx] at h2;have eP:bJ s e=gM s e.file:=by unfold bJ;rw [if_neg h1,if_pos h2]
   rw [eP];unfold awS;simp only [go_sem,simprocAttr,dtf];refine cG (cLeave s e.file hf) [0,1,2] rfl (by omega) (by decide) ?_ rfl rfl rfl rfl ?_
   ·simp only [go_sem,simprocAttr,dtf]
   ·simp only [go_sem,simprocAttr,dtf,List.getElem?_nil];refine aN [(4,some 5),(3,some 4),(0,some 0)] ?_;simp only [go_sem,simprocAttr,dtf];simp
  ·simp only [bxx] at h2;have h3:e.kind=3:=by omega
   have eP:bJ s e=cH s e.media e.file:=by unfold bJ;rw [if_neg h1,if_neg h2,if_pos h3]
   rw [eP];have h3':(e.kind==3)=true:=by rw [h3];rfl
   unfold awS;simp only [go_sem,simprocAttr,dtf];rw [h3'];simp only [go_sem,simprocAttr,dtf];refine ⟨?_,fun h=>h.elim⟩;unfold awS;simp only [go_sem,simprocAttr,dtf];refine cG (aWs s e.media e.file hf hl) [0,1,2] rfl (by omega) (by decide) ?_ rfl rfl rfl rfl ?_
   ·simp only [go_sem,simprocAttr,dtf]
   ·simp only [go_sem,simprocAttr,dtf,List.getElem?_nil];refine aN [(4,some 5),(3,some 4),(0,some 0)] ?_;simp only [go_sem,simprocAttr,dtf];simp
open Go.RowKit
set_option maxRecDepth 4000
theorem cPEvent (e:EventR):aM Tryz.prog 152 [Hy e] (aS (kB e)):=by
 refine aH Tryz.X152 Tryz.func152 rfl Tryz.ntmps152 (by rw [Tryz.results152]) (aD _ ?_);simp only [go_sem,simprocAttr,dtf];refine aK 12 .done rfl (by kernel_rfl) (by kernel_rfl) (by decide) ?_;simp only [go_sem,simprocAttr,dtf];refine ⟨_,vM _,?_⟩;simp only [go_sem,simprocAttr,dtf];refine ⟨_,vM _,?_⟩;simp only [go_sem,simprocAttr,dtf];refine ⟨_,cPx _,?_⟩;simp only [go_sem,simprocAttr,dtf];have eV:kB e=if e.kind=1 then aT e.file&&emp e.media&&emp e.proxy
  else if e.kind=2 then aT e.file&&emp e.media&&emp e.proxy&&(e.sum==0)
  else if e.kind=3∨e.kind=4 then aT e.media&&aT e.file&&emp e.proxy&&(e.sum==0)
  else if e.kind=5 then aT e.media&&(emp e.proxy||aT e.proxy)&&emp e.file&&(e.sum==0)
  else false:=rfl
 rw [eV];refine ⟨by kernel_rfl,fun h1=>?_,fun h1=>?_⟩
 ·simp only [bxx] at h1;rw [if_pos h1];unfold awS;simp only [go_sem,simprocAttr,dtf];rfl
 ·simp only [bxx] at h1;rw [if_neg h1];unfold awS;simp only [go_sem,simprocAttr,dtf];refine ⟨fun h2=>?_,fun h2=>?_⟩
  ·simp only [bxx] at h2;rw [if_pos h2];unfold awS;simp only [go_sem,simprocAttr,dtf];rfl
  ·simp only [bxx] at h2;rw [if_neg h2];unfold awS;simp only [go_sem,simprocAttr,dtf];refine ⟨fun h3=>?_,fun h3=>?_⟩
   ·simp only [bxx] at h3;rw [if_pos (.inl h3)];unfold awS;simp only [go_sem,simprocAttr,dtf];refine ⟨fun _=>?_,fun h'=>by simp only [bxx] at h';omega⟩;unfold awS;simp only [go_sem,simprocAttr,dtf];rfl
   ·simp only [bxx] at h3;unfold awS;simp only [go_sem,simprocAttr,dtf];refine ⟨fun h4=>?_,fun h4=>?_⟩
    ·simp only [bxx] at h4;rw [if_pos (.inr h4)];unfold awS;simp only [go_sem,simprocAttr,dtf];rfl
    ·simp only [bxx] at h4;rw [if_neg (by omega)];unfold awS;simp only [go_sem,simprocAttr,dtf];refine ⟨fun h5=>?_,fun h5=>?_⟩
     ·simp only [bxx] at h5;rw [if_pos h5];unfold awS;simp only [go_sem,simprocAttr,dtf];rfl
     ·simp only [bxx] at h5;rw [if_neg h5];unfold awS;simp only [go_sem,simprocAttr,dtf]
theorem cPStep (s:StateR) (e:EventR) (hf:s.files.length≤65536) (hl:s.links.length≤65536) (hk:e.kind≤3):aM Tryz.prog 78 [fW s,Hy e] (aRz (eZ s e)):=by
 refine cR Tryz.X78 Tryz.func78 rfl Tryz.ntmps78 (by rw [Tryz.results78]) (aD _ ?_);simp only [go_sem,simprocAttr,dtf];have hf':s.files.length≤maxLen:=by unfold maxLen;omega
 have hl':s.links.length≤maxLen:=by unfold maxLen;omega
 refine ⟨_,aC2 s hf' hl',?_⟩;simp only [go_sem,simprocAttr,dtf];refine ⟨_,fun _=>cPEvent e,?_⟩;simp only [go_sem,simprocAttr,dtf];refine ⟨fun h=>?_,fun h=>?_⟩
 ·have eS:eZ s e=(⟨[],[]⟩,[],1):=by
   unfold eZ;rw [if_neg];simp only [Bool.and_eq_true,not_and,Bool.not_eq_true];intro h1;rw [h1,Bool.not_true,Bool.false_or] at h;exact nt h
  rw [eS];unfold awS;simp only [go_sem,simprocAttr,dtf];exact wY 1
 ·rw [Bool.or_eq_false_iff] at h;have h1:=nf h.1;have h2:=nf h.2;unfold awS;simp only [go_sem,simprocAttr,dtf];refine Tk [] [2,5] 9 .done rfl (by kernel_rfl) (by kernel_rfl) (by decide) ?_;simp only [go_sem,simprocAttr,dtf];refine Yx (aNq s.files hf) rfl ?_;simp only [go_sem,simprocAttr,dtf];refine Yx (aNp s.links hl) rfl ?_;simp only [go_sem,simprocAttr,dtf];have he : 1≤e.kind∧e.kind≤3:=by
   refine ⟨?_,hk⟩;apply Classical.byContradiction;intro hc;unfold kB at h2;rw [if_neg (by omega),if_neg (by omega),if_neg (by omega),if_neg (by omega)] at h2;cases h2
  have hsz:=(Eb s).1 h1;refine ⟨by kernel_rfl,?_⟩;refine cG (aW9 s e hsz.nf hsz.nl he) [10,5,8] rfl (by omega) (by decide) ?_ rfl rfl rfl rfl ?_
  ·simp only [go_sem,simprocAttr,dtf]
  ·simp only [go_sem,simprocAttr,dtf,List.getElem?_nil];obtain ⟨r,hr⟩:∃ r,r=bJ s e:=⟨_,rfl⟩
   rw [← hr];have hsm:r.1=0→Ok r.2:=fun h0=>by rw [hr];exact (Dz hsz h2 (by rw [← hr];exact h0)).ok
   refine brW (b:=decide (r.1≠0)) ?_ ⟨fun h3=>?_,fun h3=>?_⟩
   ·rw [Bool.eq_iff_iff,decide_eq_true_eq,bne_iff_ne]
   ·have h4:=of_decide_eq_true h3;have eS:eZ s e=(⟨[],[]⟩,[],r.1):=by
     unfold eZ;rw [h1,h2,if_pos (by rfl), ← hr,if_neg h4]
    rw [eS];unfold awS;simp only [go_sem,simprocAttr,dtf];exact wY _
   ·have h4:r.1=0:=by simpa using h3
    have eS:eZ s e=(r.2,Gf s r.2,0):=by
     unfold eZ;rw [h1,h2,if_pos (by rfl), ← hr,if_pos h4]
    have ht:=hsm h4;rw [eS,h4];obtain ⟨t,htt⟩:∃ t,t=r.2:=⟨_,rfl⟩
    rw [← htt] at ht ⊢;have htf:t.files.length≤maxLen:=by have:=ht.nf;unfold maxLen;omega
    have htl:t.links.length≤maxLen:=by have:=ht.nl;unfold maxLen;omega
    have ht16:=ht.nl;unfold awS;simp only [go_sem,simprocAttr,dtf];refine Un [12,13] ?_;simp only [go_sem,simprocAttr,dtf];refine aF (fun (k:Nat) σ => (fun τ : St => { τ with h:=(14,RowO (tQ s t k))::(τ.h.del 13).del 12,nx:=15 }) (cJ 9 (.own 14) (cJ 38 (aC k) (bN [11,12,39,40,41,42,43,44,45,46,47,48,49,50,51,52,53,54,55,56,57,58,59] (bK σ))))) (fun k=>k≤t.links.length) (fun k=>t.links.length - k) 0 (aN [(14,none),(10,some 10),(2,some 2),(1,some 1),(0,some 0)] ?_) (Nat.zero_le _) ?_
    ·simp only [go_sem,simprocAttr,dtf];exact ⟨rfl,by simp,by simp,by simp,by simp⟩
    ·intro k hk;refine aD _ ?_;simp only [go_sem,simprocAttr,dtf];refine ⟨fun hlt=>?_,fun hge=>?_⟩
     ·simp only [bxx] at hlt;have hkl:k<t.links.length:=by omega
      obtain ⟨n,hn⟩:∃ n,n=(t.links.getD k default).media:=⟨_,rfl⟩
      have eO:=Lp (s:=s) hkl;have oL:=Qu s t k;unfold awS;simp only [go_sem,simprocAttr,dtf];rw [← hn];refine ⟨⟨by omega,by omega⟩,_,yD t n htf htl,?_⟩;simp only [go_sem,simprocAttr,dtf];refine ⟨_,yD s n hf' hl',?_⟩;simp only [go_sem,simprocAttr,dtf];refine brW (b:=decide (status s n≠status t n)) ?_ ⟨fun h5=>?_,fun h5=>?_⟩
      ·rw [Bool.eq_iff_iff,decide_eq_true_eq,bne_iff_ne,ne_comm]
      ·have h6:=of_decide_eq_true h5;have eF:Mv s t (t.links.getD k default)=some ⟨n,status t n⟩:=by
        unfold Mv;rw [← hn,if_pos (by rw [bne_iff_ne];exact fun e=>h6 e.symm)]
       rw [eF] at eO;unfold awS;simp only [go_sem,simprocAttr,dtf];refine ⟨⟨by unfold maxLen;omega,by omega⟩,k+1,aN [(14,some 17),(10,some 10),(2,some 2),(1,some 1),(0,some 0)] ?_,by omega,by omega⟩;simp only [go_sem,simprocAttr,dtf];rw [eO,List.map_append,bX (show k<9223372036854775807 by omega)];simp;rfl
      ·have h6:status s n=status t n:=by simpa using h5
       have eF:Mv s t (t.links.getD k default)=none:=by
        unfold Mv;rw [← hn,h6,if_neg (by simp)]
       rw [eF] at eO;unfold awS;simp only [go_sem,simprocAttr,dtf];refine ⟨k+1,aB ?_,by omega,by omega⟩;simp only [go_sem,simprocAttr,dtf];rw [eO,bX (show k<9223372036854775807 by omega)];simp
     ·simp only [bxx] at hge;have:k=t.links.length:=by omega
      subst this;unfold awS;simp only [go_sem,simprocAttr,dtf];rw [show tQ s t t.links.length=Gf s t from by unfold tQ Gf;rw [List.take_length]];refine aU ?_ rfl;simp only [go_sem,simprocAttr,dtf]
open Go.RowKit
set_option maxRecDepth 4000
theorem errs_ok (l:List Int) {k n:Nat} (e:Int) (hl:l.length=k) (h:k<n):(l++List.replicate (n - k) 0).set k e=(l ++ [e])++List.replicate (n - (k+1)) 0:=by
 obtain ⟨m,hm⟩:∃ m,n - k=m+1:=⟨n - k - 1,by omega⟩
 rw [hm,show n - (k+1)=m by omega,List.replicate_succ,List.set_append_right _ _ (by omega),hl,Nat.sub_self,List.set_cons_zero];simp
theorem aR6 (l:List Int) {k n:Nat} (h:k<n):l++List.replicate (n - k) 0=(l ++ [0])++List.replicate (n - (k+1)) 0:=by
 obtain ⟨m,hm⟩:∃ m,n - k=m+1:=⟨n - k - 1,by omega⟩
 rw [hm,show n - (k+1)=m by omega,List.replicate_succ];simp
@[go_sem] abbrev ErrF (acc:StateR×List OutR×List Int) (d:Nat) (k:Nat) (σ : St):St :=
 (fun τ : St => { τ with h:=(11,RowO acc.2.1)::(((τ.h.del 8).del 5).set 2 (Row23 (acc.2.2++List.replicate d 0))).set 0 (.box [.t (Dq acc.1.files), .t (Dp acc.1.links)]),nx:=12 }) (cJ 9 (.own 11) (cJ 41 (aC k) (bN [10,11,12,13,14,42,43,44,45,46,47,48,49,50,51,52,53,54,55,56,57,58,59,60,61,62,63] (bK σ))))
theorem cPRun (s:StateR) (es:List EventR) (hs:Ok s) (hes:es.length≤65536) (hk3:∀ e∈es,e.kind≤3):aM Tryz.prog 27 [fW s, .t (aAc es)] (.tup [fW (bP s es).1, .t (aSc (bP s es).2.1), .t (bY (bP s es).2.2)]):=by
 refine aH Tryz.X27 Tryz.func27 rfl Tryz.ntmps27 (by rw [Tryz.results27]) (aD _ ?_);have hnf:=hs.nf;have hnl:=hs.nl;simp only [go_sem,simprocAttr,dtf];refine ⟨⟨by omega,by unfold maxLen;omega,by omega⟩,_,aC2 s (by unfold maxLen;omega) (by unfold maxLen;omega),?_⟩;rw [(Eb s).2 hs];simp only [go_sem,simprocAttr,dtf];refine Tk [] [2,5] 8 .done rfl (by kernel_rfl) (by kernel_rfl) (by decide) ?_;simp only [go_sem,simprocAttr,dtf];refine Yx (aNq s.files (by omega)) rfl ?_;simp only [go_sem,simprocAttr,dtf];refine Yx (aNp s.links (by omega)) rfl ?_;simp only [go_sem,simprocAttr,dtf];refine ⟨by kernel_rfl,?_⟩;have hel:es.length≤maxLen:=by unfold maxLen;omega
 refine Un [5,8] ?_;simp only [go_sem,simprocAttr,dtf];refine aF (fun (k:Nat) σ => ErrF (bP s (es.take k)) (es.length - k) k σ) (fun k=>k≤es.length) (fun k=>es.length - k) 0 (aN [(11,none),(2,some 2),(1,some 1),(0,some 0)] ?_) (Nat.zero_le _) ?_
 ·simp only [go_sem,simprocAttr,dtf];refine ⟨rfl,by simp,?_,by simp,by simp,rfl,rfl⟩;show _=List.map xQ ([]++List.replicate (es.length - 0) 0)
  rw [List.nil_append,Nat.sub_zero,List.map_replicate];rfl
 ·intro k hk;refine aD _ ?_;simp only [go_sem,simprocAttr,dtf];refine ⟨fun hlt=>?_,fun hge=>?_⟩
  ·simp only [bxx] at hlt;have hlt':k<es.length:=by omega
   obtain ⟨hcur,houts⟩:=Dw hs es k hk;have hcf:=hcur.nf;have hcl:=hcur.nl;have hacc:(bP s (List.take k es)).snd.snd.length=k:=zH s es k hk;have hnext:=sQ (s:=s) hlt';have hso:=Ee (es.getD k default) hcur;have hkk:(es.getD k default).kind≤3:=hk3 _ (aW hlt');unfold awS;simp only [go_sem,simprocAttr,dtf];generalize es.getD k default=ev at *;refine ⟨⟨by omega,by omega⟩,_,cPStep (bP s (es.take k)).1 ev (by omega) (by omega) hkk,?_⟩;simp only [go_sem,simprocAttr,dtf];obtain ⟨r,hr⟩:∃ r,r=eZ (bP s (es.take k)).1 ev:=⟨_,rfl⟩
   rw [← hr] at hso ⊢;refine brW (b:=decide (r.2.2≠0)) ?_ ⟨fun h3=>?_,fun h3=>?_⟩
   ·rw [Bool.eq_iff_iff,decide_eq_true_eq,bne_iff_ne]
   ·have h4:=of_decide_eq_true h3;have hA:bP s (List.take (k+1) es)=((bP s (List.take k es)).1,(bP s (List.take k es)).2.1,(bP s (List.take k es)).2.2 ++ [r.2.2]):=by rw [hnext,jD, ← hr,if_neg h4]
    unfold awS;simp only [go_sem,simprocAttr,dtf];rw [List.length_append,List.length_replicate,hacc];refine ⟨⟨by omega,by omega⟩,by omega,?_⟩;rw [Jk xQ r.2.2 (by rfl),errs_ok _ _ hacc hlt'];refine ⟨k+1,aB ?_,by omega,by omega⟩;simp only [go_sem,simprocAttr,dtf,hA];simp [dV hlt' hel]
   ·have h4:r.2.2=0:=by simpa using h3
    have hA:bP s (List.take (k+1) es)=(r.1,(bP s (List.take k es)).2.1++r.2.1,(bP s (List.take k es)).2.2 ++ [0]):=by rw [hnext,jD, ← hr,if_pos h4]
    unfold awS;simp only [go_sem,simprocAttr,dtf];rw [aR6 _ hlt'];refine ⟨⟨by unfold maxLen;omega,by omega⟩,k+1,aN [(11,some 14),(2,some 2),(1,some 1),(0,some 0)] ?_,by omega,by omega⟩;simp only [go_sem,simprocAttr,dtf,hA];rw [List.map_append];simp [dV hlt' hel]
  ·simp only [bxx] at hge;unfold awS;simp only [go_sem,simprocAttr,dtf];have:k=es.length:=by omega
   subst this;simp only [List.take_length,Nat.sub_self,List.replicate_zero,List.append_nil]
end Go.Proofs.YtbfnemkngoaeeaaGreat
