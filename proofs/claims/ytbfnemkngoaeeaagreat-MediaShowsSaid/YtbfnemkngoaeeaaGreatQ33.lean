/- Proved here: States of media as plain data, and the places of files and links in them; conditions stand in each theorem. -/
import Derived.Test.YtbfnemkngoaeeaaGreatQ13
import Derived.Test.YtbfnemkngoaeeaaGreatQ20
import Derived.Test.YtbfnemkngoaeeaaGreatQ32
import Derived.Test.YtbfnemkngoaeeaaGreatQ17
set_option linter.unusedSimpArgs false
set_option linter.unusedVariables false
set_option linter.unusedSectionVars false
set_option linter.unnecessarySimpa false
namespace Go.Proofs.YtbfnemkngoaeeaaGreat
open Go.RowKit
set_option maxRecDepth 4000
structure FileR where
 name:ByteArray
 sum:Int
 present:Bool
 deriving Inhabited
structure LinkR where
 media:ByteArray
 file:ByteArray
 sum:Int
 proxy:ByteArray
 deriving Inhabited
structure StateR where
 files:List FileR
 links:List LinkR
 deriving Inhabited
def FileR.c (f:FileR):List T:=[gJ f.name,tu f.sum,tbl f.present]
def LinkR.c (l:LinkR):List T:=[gJ l.media,gJ l.file,tu l.sum,gJ l.proxy]
abbrev vfile (f:FileR):V := .agg [bM f.name,dS f.sum,aS f.present]
abbrev vlink (l:LinkR):V := .agg [bM l.media,bM l.file,dS l.sum,bM l.proxy]
@[go_sem] theorem FileR.ct (f:FileR):(FileR.c f).map V.t = [bM f.name,dS f.sum,aS f.present]:=rfl
@[go_sem] theorem LinkR.ct (l:LinkR):(LinkR.c l).map V.t = [bM l.media,bM l.file,dS l.sum,bM l.proxy]:=rfl
@[go_sem] theorem FileR.cl (f:FileR):(FileR.c f).length=3:=rfl
@[go_sem] theorem LinkR.cl (l:LinkR):(LinkR.c l).length=4:=rfl
@[go_sem] abbrev Dq (l:List FileR):T := .list 3 (FileR.c default) (l.map FileR.c)
@[go_sem] abbrev Dp (l:List LinkR):T := .list 4 (LinkR.c default) (l.map LinkR.c)
abbrev fW (s:StateR):V := .agg [.t (Dq s.files), .t (Dp s.links)]
theorem wF {α : Type} [Inhabited α] {p : α → Bool} {l:List α} {k:Nat} (h:k<l.length) (hp:p (l.getD k default)=false):aZ p (l.drop (k+1)) (k+1)=aZ p (l.drop k) k:=aUz h (by rw [← aJ h];exact hp)
theorem Aj {α : Type} [Inhabited α] {p : α → Bool} {l:List α} {k:Nat} (h:k<l.length) (hp:p (l.getD k default)=true):aZ p (l.drop k) k=k:=(idx_hit h (by rw [← aJ h];exact hp)).symm
theorem Gz {α : Type} {p : α → Bool} {l:List α} {k:Nat} (h:l.length≤k):aZ p (l.drop k) k = -1:=(idx_end (by omega)).symm
theorem idxFrom_range {α : Type} (p : α → Bool):∀ (l:List α) (k:Nat),aZ p l k = -1∨((k:Int)≤aZ p l k∧aZ p l k<k+l.length)
 | [],k => .inl rfl
 | x::r,k=>by
  unfold aZ;split
  ·exact .inr ⟨Int.le_refl _,by simp only [List.length_cons];omega⟩
  ·rcases idxFrom_range p r (k+1) with h | h
   ·exact .inl h
   ·exact .inr ⟨by omega,by simp only [List.length_cons];omega⟩
theorem Yh {α : Type} (p : α → Bool) (l:List α):idx p l = -1 ∨ ∃ k:Nat,k<l.length∧idx p l=k:=by
 rcases idxFrom_range p l 0 with h | h
 ·exact .inl h
 ·exact .inr ⟨(idx p l).toNat,by unfold idx;omega,by unfold idx;omega⟩
def aFz (n:ByteArray) (f:FileR):Bool:=f.name.toList==n.toList
def aFb (n:ByteArray) (l:LinkR):Bool:=l.media.toList==n.toList
def jM (fs:List FileR) (n:ByteArray):Int:=idx (aFz n) fs
def mG (ls:List LinkR) (n:ByteArray):Int:=idx (aFb n) ls
theorem aKw (s:StateR) (n:ByteArray) (h:s.files.length≤maxLen):aM Tryz.prog 132 [fW s,bM n] (aC (jM s.files n)):=by
 refine aH Tryz.X132 Tryz.func132 rfl Tryz.ntmps132 (by rw [Tryz.results132]) (aD _ ?_);simp only [go_sem,simprocAttr];refine aF (fun (k:Nat) σ => cJ 5 (aC k) (bN [6,7,8,9,10,11,12,13,14,15,16,17,18,19,20,21] (bK σ))) (fun k=>k≤s.files.length∧aZ (aFz n) (s.files.drop k) k=jM s.files n) (fun k=>s.files.length - k) 0 (aB ?_) ⟨Nat.zero_le _,rfl⟩ ?_
 ·simp only [go_sem,simprocAttr]<;>simp
 ·rintro k ⟨hk,hi⟩;refine aD _ ?_;simp only [go_sem,simprocAttr];refine ⟨fun hlt=>?_,fun hge=>?_⟩
  ·simp only [bxx] at hlt;unfold awS;simp only [go_sem,simprocAttr];refine ⟨⟨by omega,by omega⟩,fun h2=>?_,fun h2=>?_⟩
   ·unfold awS;simp only [go_sem,simprocAttr];rw [← hi,Aj (by omega) h2]
   ·unfold awS;simp only [go_sem,simprocAttr];refine ⟨k+1,aB ?_,⟨by omega,by rw [← hi];exact wF (by omega) h2⟩,by omega⟩;simp only [go_sem,simprocAttr]<;>simp [dV (show k<s.files.length by omega) h]
  ·simp only [bxx] at hge;unfold awS;simp only [go_sem,simprocAttr];rw [← hi,Gz (by omega)]
theorem aC3 (s:StateR) (n:ByteArray) (h:s.links.length≤maxLen):aM Tryz.prog 65 [fW s,bM n] (aC (mG s.links n)):=by
 refine aH Tryz.X65 Tryz.func65 rfl Tryz.ntmps65 (by rw [Tryz.results65]) (aD _ ?_);simp only [go_sem,simprocAttr];refine aF (fun (k:Nat) σ => cJ 5 (aC k) (bN [6,7,8,9,10,11,12,13,14,15,16,17,18,19,20,21] (bK σ))) (fun k=>k≤s.links.length∧aZ (aFb n) (s.links.drop k) k=mG s.links n) (fun k=>s.links.length - k) 0 (aB ?_) ⟨Nat.zero_le _,rfl⟩ ?_
 ·simp only [go_sem,simprocAttr]<;>simp
 ·rintro k ⟨hk,hi⟩;refine aD _ ?_;simp only [go_sem,simprocAttr];refine ⟨fun hlt=>?_,fun hge=>?_⟩
  ·simp only [bxx] at hlt;unfold awS;simp only [go_sem,simprocAttr];refine ⟨⟨by omega,by omega⟩,fun h2=>?_,fun h2=>?_⟩
   ·unfold awS;simp only [go_sem,simprocAttr];rw [← hi,Aj (by omega) h2]
   ·unfold awS;simp only [go_sem,simprocAttr];refine ⟨k+1,aB ?_,⟨by omega,by rw [← hi];exact wF (by omega) h2⟩,by omega⟩;simp only [go_sem,simprocAttr]<;>simp [dV (show k<s.links.length by omega) h]
  ·simp only [bxx] at hge;unfold awS;simp only [go_sem,simprocAttr];rw [← hi,Gz (by omega)]
abbrev nmP (s:ByteArray):V := .elem 1 [gJ s] [[gJ s]] 0 0
theorem cLink1 (l:LinkR) (n:ByteArray):aM Tryz.prog 149 [vlink l,nmP n] (aS (aFb n l)):=by
 refine aH Tryz.X149 Tryz.func149 rfl Tryz.ntmps149 (by rw [Tryz.results149]) (aD _ ?_);simp only [go_sem,simprocAttr,Bw];rfl
theorem cFile1 (l:FileR) (n:ByteArray):aM Tryz.prog 151 [vfile l,nmP n] (aS (aFz n l)):=by
 refine aH Tryz.X151 Tryz.func151 rfl Tryz.ntmps151 (by rw [Tryz.results151]) (aD _ ?_);simp only [go_sem,simprocAttr,Bw];rfl
theorem cIdxL (ls:List LinkR) (n:ByteArray) (h:ls.length≤maxLen):aM Tryz.prog 148 [.t (Dp ls), .clo 149 [nmP n]] (aC (mG ls n)):=by
 refine aH Tryz.X148 Tryz.func148 rfl Tryz.ntmps148 (by rw [Tryz.results148]) (aD _ ?_);simp only [go_sem,simprocAttr];refine aF (fun (k:Nat) σ => cJ 8 (aC k) (bN [5,9,10,11,12,13,14,15,16,17,18] (bK σ))) (fun k=>k≤ls.length∧aZ (aFb n) (ls.drop k) k=mG ls n) (fun k=>ls.length - k) 0 (aB ?_) ⟨Nat.zero_le _,rfl⟩ ?_
 ·simp only [go_sem,simprocAttr]<;>simp
 ·rintro k ⟨hk,hi⟩;refine aD _ ?_;simp only [go_sem,simprocAttr];refine ⟨fun hlt=>?_,fun hge=>?_⟩
  ·simp only [bxx] at hlt;unfold awS;simp only [go_sem,simprocAttr];refine ⟨⟨by omega,by omega⟩,?_⟩;refine jJ (cLink1 _ n) rfl ?_;simp only [go_sem,simprocAttr];refine ⟨fun h2=>?_,fun h2=>?_⟩
   ·unfold awS;simp only [go_sem,simprocAttr];rw [← hi,Aj (by omega) h2]
   ·unfold awS;simp only [go_sem,simprocAttr];refine ⟨k+1,aB ?_,⟨by omega,by rw [← hi];exact wF (by omega) h2⟩,by omega⟩;simp only [go_sem,simprocAttr]<;>simp [dV (show k<ls.length by omega) h]
  ·simp only [bxx] at hge;unfold awS;simp only [go_sem,simprocAttr];rw [← hi,Gz (by omega)]
theorem cIdxF (ls:List FileR) (n:ByteArray) (h:ls.length≤maxLen):aM Tryz.prog 150 [.t (Dq ls), .clo 151 [nmP n]] (aC (jM ls n)):=by
 refine aH Tryz.X150 Tryz.func150 rfl Tryz.ntmps150 (by rw [Tryz.results150]) (aD _ ?_);simp only [go_sem,simprocAttr];refine aF (fun (k:Nat) σ => cJ 8 (aC k) (bN [5,9,10,11,12,13,14,15,16,17,18] (bK σ))) (fun k=>k≤ls.length∧aZ (aFz n) (ls.drop k) k=jM ls n) (fun k=>ls.length - k) 0 (aB ?_) ⟨Nat.zero_le _,rfl⟩ ?_
 ·simp only [go_sem,simprocAttr]<;>simp
 ·rintro k ⟨hk,hi⟩;refine aD _ ?_;simp only [go_sem,simprocAttr];refine ⟨fun hlt=>?_,fun hge=>?_⟩
  ·simp only [bxx] at hlt;unfold awS;simp only [go_sem,simprocAttr];refine ⟨⟨by omega,by omega⟩,?_⟩;refine jJ (cFile1 _ n) rfl ?_;simp only [go_sem,simprocAttr];refine ⟨fun h2=>?_,fun h2=>?_⟩
   ·unfold awS;simp only [go_sem,simprocAttr];rw [← hi,Aj (by omega) h2]
   ·unfold awS;simp only [go_sem,simprocAttr];refine ⟨k+1,aB ?_,⟨by omega,by rw [← hi];exact wF (by omega) h2⟩,by omega⟩;simp only [go_sem,simprocAttr]<;>simp [dV (show k<ls.length by omega) h]
  ·simp only [bxx] at hge;unfold awS;simp only [go_sem,simprocAttr];rw [← hi,Gz (by omega)]
theorem aWh (s:StateR) (n:ByteArray) (h:s.links.length≤maxLen):aM Tryz.prog 74 [fW s,bM n] (aC (mG s.links n)):=by
 refine aH Tryz.X74 Tryz.func74 rfl Tryz.ntmps74 (by rw [Tryz.results74]) (aD _ ?_);simp only [go_sem,simprocAttr];refine rC ?_;simp only [go_sem,simprocAttr];refine ⟨_,cIdxL s.links n h,rfl,?_⟩;simp only [go_sem,simprocAttr]
theorem aWn (s:StateR) (n:ByteArray) (h:s.files.length≤maxLen):aM Tryz.prog 75 [fW s,bM n] (aC (jM s.files n)):=by
 refine aH Tryz.X75 Tryz.func75 rfl Tryz.ntmps75 (by rw [Tryz.results75]) (aD _ ?_);simp only [go_sem,simprocAttr];refine rC ?_;simp only [go_sem,simprocAttr];refine ⟨_,cIdxF s.files n h,rfl,?_⟩;simp only [go_sem,simprocAttr]
open Go.RowKit
set_option maxRecDepth 4000
def gR (fs:List FileR) (i:Int):FileR:=fs.getD i.toNat default
def jR (fs:List FileR) (l:LinkR):Int :=
 if (decide (jM fs l.file<0) || !(gR fs (jM fs l.file)).present)=true then 3 else if ((gR fs (jM fs l.file)).sum != l.sum)=true then 2 else 1
def status (s:StateR) (n:ByteArray):Int :=
 if mG s.links n<0 then 0 else jR s.files (s.links.getD (mG s.links n).toNat default)
def bW (s:StateR) (n:ByteArray):ByteArray :=
 if mG s.links n<0 then ⟨#[]⟩ else (s.links.getD (mG s.links n).toNat default).proxy
theorem lidx_range (ls:List LinkR) (n:ByteArray):mG ls n = -1 ∨ ∃ k:Nat,k<ls.length∧mG ls n=k:=Yh _ _
theorem fidx_range (ls:List FileR) (n:ByteArray):jM ls n = -1 ∨ ∃ k:Nat,k<ls.length∧jM ls n=k:=Yh _ _
theorem cProxy (s:StateR) (n:ByteArray) (hl:s.links.length≤maxLen):aM Tryz.prog 57 [fW s,bM n] (bM (bW s n)):=by
 refine aH Tryz.X57 Tryz.func57 rfl Tryz.ntmps57 (by rw [Tryz.results57]) (aD _ ?_);simp only [go_sem,simprocAttr,dtf];refine ⟨_,aWh s n hl,?_⟩;simp only [go_sem,simprocAttr,dtf];rcases lidx_range s.links n with hk | ⟨k,hk,hkl⟩
 ·have e:bW s n=⟨#[]⟩:=by unfold bW;rw [hk];rfl
  rw [e,hk];simp only [go_sem,simprocAttr,dtf];unfold awS;simp only [go_sem,simprocAttr,dtf];exact fun h=>h.elim
 ·have e:bW s n=(s.links.getD k default).proxy:=by
   unfold bW;rw [hkl,if_neg (by omega),Int.toNat_natCast]
  rw [e,hkl];refine ⟨fun h=>by simp only [bxx] at h;omega,fun h=>?_⟩;unfold awS;simp only [go_sem,simprocAttr,dtf];omega
theorem yD (s:StateR) (n:ByteArray) (hf:s.files.length≤maxLen) (hl:s.links.length≤maxLen):aM Tryz.prog 26 [fW s,bM n] (aC (status s n)):=by
 refine aH Tryz.X26 Tryz.func26 rfl Tryz.ntmps26 (by rw [Tryz.results26]) (aD _ ?_);simp only [go_sem,simprocAttr,dtf];refine ⟨_,aWh s n hl,?_⟩;simp only [go_sem,simprocAttr,dtf];rcases lidx_range s.links n with hk | ⟨k,hk,hkl⟩
 ·have e:status s n=0:=by unfold status;rw [hk];rfl
  rw [e,hk];simp only [go_sem,simprocAttr,dtf];unfold awS;simp only [go_sem,simprocAttr,dtf];exact fun h=>h.elim
 ·have e:status s n=jR s.files (s.links.getD k default):=by
   unfold status;rw [hkl,if_neg (by omega),Int.toNat_natCast]
  rw [e,hkl];refine ⟨fun h=>by simp only [bxx] at h;omega,fun h=>?_⟩;unfold awS;simp only [go_sem,simprocAttr,dtf];refine aK 9 .done rfl (by kernel_rfl) (by kernel_rfl) (by decide) ?_;simp only [go_sem,simprocAttr,dtf];refine ⟨⟨by omega,by omega⟩,_,aWn s _ hf,?_⟩;simp only [go_sem,simprocAttr,dtf];refine ⟨by kernel_rfl,?_⟩;obtain ⟨l,hle⟩:∃ l,l=s.links.getD k default:=⟨_,rfl⟩
  rw [← hle];rcases fidx_range s.files l.file with hq | ⟨q,hq,hql⟩
  ·have e:jR s.files l=3:=by unfold jR;rw [hq];rfl
   rw [e,hq];simp only [go_sem,simprocAttr,dtf];unfold awS;simp only [go_sem,simprocAttr,dtf];exact ⟨fun h=>h.elim,fun h=>h.elim⟩
  ·rw [hql];have e:jR s.files l=if (!(s.files.getD q default).present)=true then 3 else if ((s.files.getD q default).sum != l.sum)=true then 2 else 1:=by
    unfold jR gR;rw [hql,decide_eq_false (by omega),Int.toNat_natCast,Bool.false_or]
   rw [e];simp only [go_sem,simprocAttr,dtf];have hd:decide ((q:Int)<0)=false:=decide_eq_false (by omega);refine ⟨fun _=>⟨by omega,by omega⟩,fun h=>?_,fun h=>?_⟩
   ·rw [hd,Bool.false_or] at h;rw [if_pos h];unfold awS;simp only [go_sem,simprocAttr,dtf]
   ·rw [hd,Bool.false_or] at h;rw [h,if_neg (by decide)];unfold awS;simp only [go_sem,simprocAttr,dtf];refine aK 14 .done rfl (by kernel_rfl) (by kernel_rfl) (by decide) ?_;simp only [go_sem,simprocAttr,dtf];rw [← hle];refine ⟨⟨by omega,by omega⟩,⟨by omega,by omega⟩,by kernel_rfl,?_⟩;refine ⟨fun h2=>?_,fun h2=>?_⟩
    ·rw [if_pos h2];unfold awS;simp only [go_sem,simprocAttr,dtf]
    ·rw [h2,if_neg (by decide)];unfold awS;simp only [go_sem,simprocAttr,dtf]
theorem Uf (s:StateR) (n:ByteArray) (hf:s.files.length≤maxLen) (hl:s.links.length≤maxLen):aM Tryz.prog 64 [fW s,bM n] (aC (status s n)):=by
 refine aH Tryz.X64 Tryz.func64 rfl Tryz.ntmps64 (by rw [Tryz.results64]) (aD _ ?_);simp only [go_sem,simprocAttr,dtf];refine ⟨_,aC3 s n hl,?_⟩;simp only [go_sem,simprocAttr,dtf];rcases lidx_range s.links n with hk | ⟨k,hk,hkl⟩
 ·have e:status s n=0:=by unfold status;rw [hk];rfl
  rw [e,hk];simp only [go_sem,simprocAttr,dtf];unfold awS;simp only [go_sem,simprocAttr,dtf];exact fun h=>h.elim
 ·have e:status s n=jR s.files (s.links.getD k default):=by
   unfold status;rw [hkl,if_neg (by omega),Int.toNat_natCast]
  rw [e,hkl];refine ⟨fun h=>by simp only [bxx] at h;omega,fun h=>?_⟩;unfold awS;simp only [go_sem,simprocAttr,dtf];refine aK 9 .done rfl (by kernel_rfl) (by kernel_rfl) (by decide) ?_;simp only [go_sem,simprocAttr,dtf];refine ⟨⟨by omega,by omega⟩,_,aKw s _ hf,?_⟩;simp only [go_sem,simprocAttr,dtf];refine ⟨by kernel_rfl,?_⟩;obtain ⟨l,hle⟩:∃ l,l=s.links.getD k default:=⟨_,rfl⟩
  rw [← hle];rcases fidx_range s.files l.file with hq | ⟨q,hq,hql⟩
  ·have e:jR s.files l=3:=by unfold jR;rw [hq];rfl
   rw [e,hq];simp only [go_sem,simprocAttr,dtf];unfold awS;simp only [go_sem,simprocAttr,dtf];exact ⟨fun h=>h.elim,fun h=>h.elim⟩
  ·rw [hql];have e:jR s.files l=if (!(s.files.getD q default).present)=true then 3 else if ((s.files.getD q default).sum != l.sum)=true then 2 else 1:=by
    unfold jR gR;rw [hql,decide_eq_false (by omega),Int.toNat_natCast,Bool.false_or]
   rw [e];simp only [go_sem,simprocAttr,dtf];have hd:decide ((q:Int)<0)=false:=decide_eq_false (by omega);refine ⟨fun _=>⟨by omega,by omega⟩,fun h=>?_,fun h=>?_⟩
   ·rw [hd,Bool.false_or] at h;rw [if_pos h];unfold awS;simp only [go_sem,simprocAttr,dtf]
   ·rw [hd,Bool.false_or] at h;rw [h,if_neg (by decide)];unfold awS;simp only [go_sem,simprocAttr,dtf];refine aK 13 .done rfl (by kernel_rfl) (by kernel_rfl) (by decide) ?_;simp only [go_sem,simprocAttr,dtf];rw [← hle];refine ⟨⟨by omega,by omega⟩,⟨by omega,by omega⟩,by kernel_rfl,?_⟩;refine ⟨fun h2=>?_,fun h2=>?_⟩
    ·rw [if_pos h2];unfold awS;simp only [go_sem,simprocAttr,dtf]
    ·rw [h2,if_neg (by decide)];unfold awS;simp only [go_sem,simprocAttr,dtf]
open Go.RowKit
set_option maxRecDepth 4000
def aL7 (p:Nat→Bool) (n:Nat):Bool:=(List.range n).all p
theorem wL {p:Nat→Bool} {n:Nat}:aL7 p n=true ↔ ∀ i,i<n→p i=true:=by simp [aL7,List.all_eq_true]
theorem pA {p:Nat→Bool} {k n:Nat} (h:k<n) (hp:p k=false):aL7 p n=false:=by
 rw [Bool.eq_false_iff];intro hc;rw [wL.1 hc k h] at hp;cases hp
def okF (fs:List FileR) (i:Nat):Bool:=aT (fs.getD i default).name && !uH (fs.getD i default).name ((fs.take i).map FileR.name)
def okL (ls:List LinkR) (i:Nat):Bool :=
 aT (ls.getD i default).media && !uH (ls.getD i default).media ((ls.take i).map LinkR.media)&&aT (ls.getD i default).file&&(emp (ls.getD i default).proxy||aT (ls.getD i default).proxy) &&
 !((ls.getD i default).proxy.toList==(ls.getD i default).media.toList)
def fL (s:StateR):Bool:=decide ((s.files.length:Int)≤32)&&decide ((s.links.length:Int)≤16)&&aL7 (okF s.files) s.files.length&&aL7 (okL s.links) s.links.length
theorem cPx (s:ByteArray):aM Tryz.prog 125 [bM s] (aS (emp s||aT s)):=by
 refine aH Tryz.X125 Tryz.func125 rfl Tryz.ntmps125 (by rw [Tryz.results125]) (aD _ ?_);simp only [go_sem,simprocAttr,dtf];refine ⟨_,fun _=>vM s,?_⟩;simp only [go_sem,simprocAttr,dtf];rfl
theorem aC2 (s:StateR) (hf:s.files.length≤maxLen) (hl:s.links.length≤maxLen):aM Tryz.prog 56 [fW s] (aS (fL s)):=by
 refine aH Tryz.X56 Tryz.func56 rfl Tryz.ntmps56 (by rw [Tryz.results56]) (aD _ ?_);simp only [go_sem,simprocAttr,dtf];refine brW (b := !(decide ((s.files.length:Int)≤32)&&decide ((s.links.length:Int)≤16))) ?_ ⟨fun hb=>?_,fun hb=>?_⟩
 ·rw [xT,xT]
  (try simp only [bne]);cases (decide ((s.files.length:Int)≤32))<;>cases (decide ((s.links.length:Int)≤16))<;>rfl
 ·have e:fL s=false:=by
   unfold fL;have hb2:(decide ((s.files.length:Int)≤32)&&decide ((s.links.length:Int)≤16))=false:=by simpa only [Bool.not_eq_true'] using hb
   rw [hb2];rfl
  rw [e];unfold awS;simp only [go_sem,simprocAttr,dtf]
 ·have hb2:(decide ((s.files.length:Int)≤32)&&decide ((s.links.length:Int)≤16))=true:=by simpa only [Bool.not_eq_false'] using hb
  have e:fL s=(aL7 (okF s.files) s.files.length&&aL7 (okL s.links) s.links.length):=by
   unfold fL;rw [hb2];rfl
  rw [e];simp only [Bool.and_eq_true,decide_eq_true_eq] at hb2;unfold awS;simp only [go_sem,simprocAttr,dtf];refine aF (fun (k:Nat) σ => zD 1 (.map (tEs (sF ((s.files.take k).map FileR.name)))) (cJ 23 (aC k) (bN [5,24,25,26,27,28,29,30,31,32,33,34,35,36,37,38,39] (bK σ)))) (fun k=>k≤s.files.length ∧ ∀ i,i<k→okF s.files i=true) (fun k=>s.files.length - k) 0 (aB ?_) ⟨Nat.zero_le _,by omega⟩ ?_
  ·simp only [go_sem,simprocAttr,dtf];exact ⟨by simp,rfl,by simp⟩
  ·rintro k ⟨hk,hi⟩;refine aD _ ?_;simp only [go_sem,simprocAttr,dtf];refine ⟨fun hlt=>?_,fun hge=>?_⟩
   ·simp only [bxx] at hlt;have hkl:k<s.files.length:=by omega
    unfold awS;simp only [go_sem,simprocAttr,dtf];refine ⟨⟨by omega,by omega⟩,_,vM _,?_⟩;obtain ⟨n,hn⟩:∃ n,n=(s.files.getD k default).name:=⟨_,rfl⟩
    have eO:okF s.files k=(aT n && !uH n ((s.files.take k).map FileR.name)):=by unfold okF;rw [← hn]
    rw [← hn];cases hm:uH n ((s.files.take k).map FileR.name) with
    | true =>
     simp only [go_sem,simprocAttr,dtf,Ab,hm];rw [pA hkl (by rw [eO,hm,Bool.not_true,Bool.and_false])];rfl
    | false =>
     simp only [go_sem,simprocAttr,dtf,Ab,hm];refine ⟨fun h=>?_,fun h=>?_⟩
     ·have hv:aT n=false:=by simpa using h
      rw [pA hkl (by rw [eO,hv,Bool.false_and])];unfold awS;simp only [go_sem,simprocAttr,dtf]
     ·have hv:aT n=true:=by simpa using h
      unfold awS;simp only [go_sem,simprocAttr,dtf];refine ⟨k+1,aB ?_,⟨by omega,upto hi (by rw [eO,hm,hv];rfl)⟩,by omega⟩;simp only [go_sem,simprocAttr,dtf];rw [Bp,cA hkl,List.map_append,List.map_singleton, ← hn,bX (show k<9223372036854775807 by omega)];simp
   ·simp only [bxx] at hge;have:k=s.files.length:=by omega
    subst this;unfold awS;simp only [go_sem,simprocAttr,dtf];rw [wL.2 hi,Bool.true_and];refine aF (fun (k:Nat) σ => zD 2 (.map (tEs (sF ((s.links.take k).map LinkR.media)))) (cJ 45 (aC k) (bN [8,46,47,48,49,50,51,52,53,54,55,56,57,58,59,60,61,62,63,64,65,66,67,68,69,70,71,72,73,74,75,76,77,78,79,80] (bK σ)))) (fun k=>k≤s.links.length ∧ ∀ i,i<k→okL s.links i=true) (fun k=>s.links.length - k) 0 (aB ?_) ⟨Nat.zero_le _,by omega⟩ ?_
    ·simp only [go_sem,simprocAttr,dtf];exact ⟨by simp,rfl,by simp,by simp⟩
    ·rintro k ⟨hk,hi⟩;refine aD _ ?_;simp only [go_sem,simprocAttr,dtf];refine ⟨fun hlt=>?_,fun hge=>?_⟩
     ·simp only [bxx] at hlt;have hkl:k<s.links.length:=by omega
      obtain ⟨l,hl⟩:∃ l,l=s.links.getD k default:=⟨_,rfl⟩
      have eO:okL s.links k=(aT l.media && !uH l.media ((s.links.take k).map LinkR.media)&&aT l.file&&(emp l.proxy||aT l.proxy) && !(l.proxy.toList==l.media.toList)):=by unfold okL;rw [← hl]
      unfold awS;simp only [go_sem,simprocAttr,dtf];rw [← hl];refine ⟨⟨by omega,by omega⟩,_,vM _,?_⟩;simp only [go_sem,simprocAttr,dtf];cases hm:uH l.media ((s.links.take k).map LinkR.media) with
      | true =>
       rw [pA hkl (by rw [eO,hm,Bool.not_true,Bool.and_false,Bool.false_and,Bool.false_and,Bool.false_and])];cases hv:aT l.media with
       | false =>
        simp only [go_sem,simprocAttr,dtf,Ab,hm];refine ⟨aS false,fun h=>h.elim,?_⟩;simp only [go_sem,simprocAttr,dtf];refine ⟨aS false,fun h=>h.elim,?_⟩;simp only [go_sem,simprocAttr,dtf]
       | true =>
        simp only [go_sem,simprocAttr,dtf,Ab,hm];refine ⟨aS false,fun h=>h.elim,?_⟩;simp only [go_sem,simprocAttr,dtf];refine ⟨aS false,fun h=>h.elim,?_⟩;simp only [go_sem,simprocAttr,dtf]
      | false =>
       cases hv:aT l.media with
       | false =>
        rw [pA hkl (by rw [eO,hv,Bool.false_and,Bool.false_and,Bool.false_and,Bool.false_and])];simp only [go_sem,simprocAttr,dtf,Ab,hm];refine ⟨aS false,fun h=>h.elim,?_⟩;simp only [go_sem,simprocAttr,dtf];refine ⟨aS false,fun h=>h.elim,?_⟩;simp only [go_sem,simprocAttr,dtf]
       | true =>
        simp only [go_sem,simprocAttr,dtf,Ab,hm];refine ⟨_,vM _,?_⟩;simp only [go_sem,simprocAttr,dtf];cases hf2:aT l.file with
        | false =>
         rw [pA hkl (by rw [eO,hf2,Bool.and_false,Bool.false_and,Bool.false_and])];simp only [go_sem,simprocAttr,dtf];refine ⟨aS false,fun h=>h.elim,?_⟩;simp only [go_sem,simprocAttr,dtf]
        | true =>
         simp only [go_sem,simprocAttr,dtf];refine ⟨_,cPx _,?_⟩;simp only [go_sem,simprocAttr,dtf];have e3:okL s.links k = !(!(emp l.proxy||aT l.proxy)||l.proxy.toList==l.media.toList):=by
          rw [eO,hm,hv,hf2];cases (emp l.proxy||aT l.proxy)<;>cases (l.proxy.toList==l.media.toList)<;>rfl
         refine ⟨fun h=>?_,fun h=>?_⟩
         ·rw [pA hkl (by rw [e3,h];rfl)];unfold awS;simp only [go_sem,simprocAttr,dtf]
         ·unfold awS;simp only [go_sem,simprocAttr,dtf];refine ⟨k+1,aB ?_,⟨by omega,upto hi (by rw [e3,h];rfl)⟩,by omega⟩;simp only [go_sem,simprocAttr,dtf];rw [Bp,cA hkl,List.map_append,List.map_singleton, ← hl,bX (show k<9223372036854775807 by omega)];simp
     ·simp only [bxx] at hge;have:k=s.links.length:=by omega
      subst this;rw [wL.2 hi];unfold awS;simp only [go_sem,simprocAttr,dtf]
open Go.RowKit
set_option maxRecDepth 4000
theorem toList_eq {a b:ByteArray}:(a.toList==b.toList)=true ↔ a=b:=by
 rw [beq_iff_eq];exact ⟨fun h=>ByteArray.ext (Array.ext' (by simpa [ByteArray.toList_eq] using h)),fun h=>by rw [h]⟩
theorem aFm {α : Type} [Inhabited α] {p : α → Bool} {l:List α}:∀ {k:Nat},k≤l.length→(∀ i,i<k→p (l.getD i default)=false)→idx p l=aZ p (l.drop k) k
 | 0,_,_=>rfl
 | k+1,hk,h=>by
  rw [wF (by omega) (h k (by omega))];exact aFm (by omega) fun i hi=>h i (by omega)
theorem idx_least {α : Type} [Inhabited α] {p : α → Bool} {l:List α} {k:Nat} (hk:k<l.length) (hp:p (l.getD k default)=true):idx p l=k ∨ ∃ i,i<k∧p (l.getD i default)=true∧idx p l=i:=by
 induction k using Nat.strongRecOn with
 | ind k ih =>
  by_cases h:∃ i,i<k∧p (l.getD i default)=true
  ·obtain ⟨i,hi,hpi⟩:=h;rcases ih i hi (by omega) hpi with h1 | ⟨j,hj,hpj,h1⟩
   ·exact .inr ⟨i,hi,hpi,h1⟩
   ·exact .inr ⟨j,by omega,hpj,h1⟩
  ·refine .inl ?_;rw [aFm (k:=k) (by omega) fun i hi=>by
    cases e:p (l.getD i default) with
    | false=>rfl
    | true=>exact absurd ⟨i,hi,e⟩ h]
   exact Aj hk hp
theorem Rh {α : Type} [Inhabited α] {l:List α} {nm : α → ByteArray} {n:ByteArray} {k:Nat} (hk:k≤l.length):uH n ((l.take k).map nm)=true ↔ ∃ i,i<k∧nm (l.getD i default)=n:=by
 rw [Gp,List.mem_map];constructor
 ·rintro ⟨x,hx,rfl⟩;obtain ⟨i,hi,rfl⟩:=List.getElem_of_mem hx;rw [List.length_take] at hi;exact ⟨i,by omega,by rw [List.getElem_take,aJ (by omega)]⟩
 ·rintro ⟨i,hi,rfl⟩;refine ⟨l.getD i default,?_,rfl⟩;rw [aJ (by omega:i<l.length)];exact List.mem_iff_getElem.2 ⟨i,by rw [List.length_take];omega,by rw [List.getElem_take]⟩
theorem aFn {α : Type} [Inhabited α] {l:List α} {nm : α → ByteArray} {k:Nat} (hk:k<l.length) :
  (idx (fun x : α => (nm x).toList==(nm (l.getD k default)).toList) l != (k:Int))=uH (nm (l.getD k default)) ((l.take k).map nm):=by
 rw [Bool.eq_iff_iff,bne_iff_ne,Rh (by omega)];constructor
 ·intro h;rcases idx_least (p:=fun x : α => (nm x).toList==(nm (l.getD k default)).toList) hk (by simp) with h1 | ⟨i,hi,hp,_⟩
  ·exact absurd h1 h
  ·exact ⟨i,hi,toList_eq.1 hp⟩
 ·rintro ⟨i,hi,hn⟩;rcases idx_least (p:=fun x : α => (nm x).toList==(nm (l.getD k default)).toList) (k:=i) (by omega) (toList_eq.2 hn) with h1 | ⟨j,hj,_,h1⟩
  ·rw [h1];omega
  ·rw [h1];omega
theorem aR4 {fs:List FileR} {k:Nat} (hk:k<fs.length):(jM fs (fs.getD k default).name != (k:Int))=uH (fs.getD k default).name ((fs.take k).map FileR.name):=aFn (nm:=FileR.name) hk
theorem aQk {ls:List LinkR} {k:Nat} (hk:k<ls.length):(mG ls (ls.getD k default).media != (k:Int))=uH (ls.getD k default).media ((ls.take k).map LinkR.media):=aFn (nm:=LinkR.media) hk
theorem aVj {a b:ByteArray}:emp a=true→aT b=true→(a.toList==b.toList)=false:=by
 intro h1 h2;rw [Bool.eq_false_iff];intro h3;have e1:a=⟨#[]⟩:=toList_eq.1 h1;have e2:=toList_eq.1 h3;rw [← e2,e1] at h2;revert h2;decide
theorem aGz (s:StateR) (hf:s.files.length≤maxLen) (hlk:s.links.length≤maxLen):aM Tryz.prog 61 [fW s] (aS (fL s)):=by
 refine aH Tryz.X61 Tryz.func61 rfl Tryz.ntmps61 (by rw [Tryz.results61]) (aD _ ?_);simp only [go_sem,simprocAttr,dtf];refine aF (fun (k:Nat) σ => cJ 3 (aC k) (bN [6,7,8,9,10,11,12,13,14,15,16,17,18,19,20,21,22,23,24,25,26,27,28,29,30,31,32] (bK σ))) (fun k=>k≤s.files.length ∧ ∀ i,i<k→okF s.files i=true) (fun k=>s.files.length - k) 0 (aB ?_) ⟨Nat.zero_le _,by omega⟩ ?_
 ·simp only [go_sem,simprocAttr,dtf];simp
 ·rintro k ⟨hk,hi⟩;refine aD _ ?_;simp only [go_sem,simprocAttr,dtf];refine ⟨fun hlt=>?_,fun hge=>?_⟩
  ·simp only [bxx] at hlt;have hkl:k<s.files.length:=by omega
   have hon:=aR4 hkl;obtain ⟨n,hn⟩:∃ n,n=(s.files.getD k default).name:=⟨_,rfl⟩
   have eO:okF s.files k=(aT n && !uH n ((s.files.take k).map FileR.name)):=by unfold okF;rw [← hn]
   rw [← hn] at hon;have stop:okF s.files k=false→fL s=false:=fun h=>by
    unfold fL;rw [pA hkl h,Bool.and_false,Bool.false_and]
   unfold awS;simp only [go_sem,simprocAttr,dtf];refine cL [0,1,2,3,4,5,6,7,8,9,10,11,12,13,14,15,16,17,18,19] .done rfl (by kernel_rfl) (by kernel_rfl) (by decide) ?_;simp only [go_sem,simprocAttr,dtf];rw [← hn];refine ⟨⟨by omega,by omega⟩,_,Ev _,?_⟩;simp only [go_sem,simprocAttr,dtf];cases hv:aT n with
   | false =>
    simp only [go_sem,simprocAttr,dtf];refine ⟨fun h=>h.elim,aC 0,fun h=>h.elim,?_⟩;simp only [go_sem,simprocAttr,dtf];rw [stop (by rw [eO,hv,Bool.false_and])]
   | true =>
    simp only [go_sem,simprocAttr,dtf];rw [← hn];refine ⟨⟨by omega,by omega⟩,_,aKw s n hf,?_⟩;simp only [go_sem,simprocAttr,dtf];rw [hon];refine ⟨fun h=>?_,fun h=>?_⟩
    ·rw [stop (by rw [eO,hv,h];rfl)];unfold awS;simp only [go_sem,simprocAttr,dtf]
    ·unfold awS;simp only [go_sem,simprocAttr,dtf];refine ⟨k+1,aB ?_,⟨by omega,upto hi (by rw [eO,hv,h];rfl)⟩,by omega⟩;simp only [go_sem,simprocAttr,dtf];simp [dV (show k<s.files.length by omega) hf]
  ·simp only [bxx] at hge;have:k=s.files.length:=by omega
   subst this;have hF:=wL.2 hi;unfold awS;simp only [go_sem,simprocAttr,dtf];refine aF (fun (k:Nat) σ => cJ 4 (aC k) (bN [5,33,34,35,36,37,38,39,40,41,42,43,44,45,46,47,48,49,50,51,52,53,54,55,56,57,58,59,60,61,62,63,64,65,66,67,68,69,70,71,72,73,74,75,76,77,78,79,80] (bK σ))) (fun k=>k≤s.links.length ∧ ∀ i,i<k→okL s.links i=true) (fun k=>s.links.length - k) 0 (aB ?_) ⟨Nat.zero_le _,by omega⟩ ?_
   ·simp only [go_sem,simprocAttr,dtf];simp
   ·rintro k ⟨hk,hi⟩;refine aD _ ?_;simp only [go_sem,simprocAttr,dtf];refine ⟨fun hlt=>?_,fun hge=>?_⟩
    ·simp only [bxx] at hlt;have hkl:k<s.links.length:=by omega
     have hon:=aQk hkl;obtain ⟨l,hl⟩:∃ l,l=s.links.getD k default:=⟨_,rfl⟩
     have eO:okL s.links k=(aT l.media && !uH l.media ((s.links.take k).map LinkR.media)&&aT l.file&&(emp l.proxy||aT l.proxy) && !(l.proxy.toList==l.media.toList)):=by unfold okL;rw [← hl]
     rw [← hl] at hon;have stop:okL s.links k=false→fL s=false:=fun h=>by
      unfold fL;rw [pA hkl h,Bool.and_false]
     unfold awS;simp only [go_sem,simprocAttr,dtf];rw [← hl];refine ⟨⟨by omega,by omega⟩,_,Ev _,?_⟩;simp only [go_sem,simprocAttr,dtf];refine ⟨_,fun _=>Ev _,?_⟩;simp only [go_sem,simprocAttr,dtf];refine ⟨_,fun _=>aC3 s _ hlk,?_⟩;simp only [go_sem,simprocAttr,dtf];refine ⟨_,fun _=>Ev _,?_⟩;simp only [go_sem,simprocAttr,dtf];refine brW (b := !(okL s.links k)) ?_ ⟨fun h=>?_,fun h=>?_⟩
     ·rw [eO,hon];have hE:(l.proxy.toList==(⟨#[]⟩:ByteArray).toList)=emp l.proxy:=rfl;have h3:=aVj (a:=l.proxy) (b:=l.media);rw [hE];generalize aT l.media=A at *;generalize uH l.media ((s.links.take k).map LinkR.media)=M at *;generalize aT l.file=B at *;generalize emp l.proxy=E at *;generalize aT l.proxy=P at *;generalize (l.proxy.toList==l.media.toList)=Q at *;clear hE eO stop hon;revert h3;cases A<;>cases M<;>cases B<;>cases E<;>cases P<;>cases Q<;>simp
     ·rw [stop (by simpa only [Bool.not_eq_true'] using h)];unfold awS;simp only [go_sem,simprocAttr,dtf]
     ·unfold awS;simp only [go_sem,simprocAttr,dtf];refine ⟨k+1,aB ?_,⟨by omega,upto hi (by simpa only [Bool.not_eq_false'] using h)⟩,by omega⟩;simp only [go_sem,simprocAttr,dtf];simp [dV (show k<s.links.length by omega) hlk]
    ·simp only [bxx] at hge;have:k=s.links.length:=by omega
     subst this;have hL:=wL.2 hi;have e:fL s=(decide ((s.files.length:Int)≤32)&&decide ((s.links.length:Int)≤16)):=by
      unfold fL;rw [hF,hL,Bool.and_true,Bool.and_true]
     rw [e];unfold awS;simp only [go_sem,simprocAttr,dtf]
end Go.Proofs.YtbfnemkngoaeeaaGreat
