/- Proved here: Contracts of the functions that find a frame in a track; conditions stand in each theorem. -/
import Derived.Test.YtbfnemkngoaeeaaGreatQ10
set_option linter.unusedSimpArgs false
set_option linter.unusedVariables false
set_option linter.unusedSectionVars false
set_option linter.unnecessarySimpa false
namespace Go.Proofs.YtbfnemkngoaeeaaGreat
open Go.RowKit
set_option maxRecDepth 4000
def uE:List ClipR→Nat→Int→Int×Int×Bool
 | [],_,_=>(0,0,false)
 | c::l,i,n=>if n<c.len then (i,n,true) else uE l (i+1) (n - c.len)
theorem aGz (i:Nat) (n:Int):uE [] i n=(0,0,false):=rfl
theorem aC7 (c:ClipR) (l:List ClipR) (i:Nat) (n:Int):uE (c::l) i n=if n<c.len then (↑i,n,true) else uE l (i+1) (n - c.len):=rfl
abbrev vfind (r:Int×Int×Bool):V := .tup [aC r.1,aC r.2.1,aP r.2.2]
def aEd (t:List ClipR) (n:Int):Int×Int×Bool:=if cC t=true∧0≤n then uE t 0 n else (0,0,false)
theorem aH3 {t:List ClipR} {k:Nat} (h:k<t.length):t.drop k=t.getD k default::t.drop (k+1):=by
 rw [aU h,List.drop_eq_getElem_cons h]
theorem cPfind (t:List ClipR) (n:Int) (hn:I64 n) (hv:∀ c∈t,bQ c=true) (h64:t.length≤64):aN Tryz.prog 162 [.t (dD t),aC n] (vfind (if 0≤n then uE t 0 n else (0,0,false))):=by
 obtain ⟨n1,n2⟩:=hn;refine aH Tryz.X162 Tryz.func162 rfl Tryz.ntmps162 (by rw [Tryz.results162]) (aD _ ?_);simp only [go_sem,simprocAttr];refine ⟨fun h=>?_,fun h=>?_⟩
 ·simp only [bxx] at h;unfold awS;simp only [go_sem,simprocAttr];rw [if_neg (by omega)]
 ·simp only [bxx] at h;rw [if_pos (by omega)];unfold awS;simp only [go_sem,simprocAttr];refine aF (fun (x:Nat×Int) σ => bL 1 (aC x.2) (bL 13 (aC x.1) (aX [9,10] σ))) (fun x=>x.1≤t.length∧0≤x.2∧x.2≤n∧uE (t.drop x.1) x.1 x.2=uE t 0 n) (fun x=>t.length - x.1) (0,n) (aA ?_) ⟨Nat.zero_le _,by simp only;omega,by simp only;omega,rfl⟩ ?_
  ·simp only [go_sem,simprocAttr]<;>rfl
  ·rintro ⟨k,m⟩ ⟨hk,hm0,hmn,hf⟩;simp only at hk hm0 hmn hf;refine aD _ ?_;simp only [go_sem,simprocAttr];refine ⟨fun hlt=>?_,fun hge=>?_⟩
   ·simp only [bxx] at hlt;have hkl:k<t.length:=by omega
    have hl:=kQ (hv _ (aQ (d:=default) hkl));rw [aH3 hkl] at hf;rw [aC7] at hf;unfold awS;simp only [go_sem,simprocAttr];refine ⟨⟨by omega,by omega⟩,fun hc=>?_,fun hc=>?_⟩
    ·simp only [bxx] at hc;rw [if_pos hc] at hf;unfold awS;simp only [go_sem,simprocAttr];rw [← hf]
    ·simp only [bxx] at hc;rw [if_neg hc] at hf;unfold awS;simp only [go_sem,simprocAttr];refine ⟨(k+1,m - (t.getD k default).len),aA ?_,⟨by simp only;omega,by simp only;omega,by simp only;omega,hf⟩,by simp only;omega⟩;simp only [go_sem,simprocAttr];rw [wrap64 (x:=m - (t.getD k default).len) (by omega) (by omega)];simp [bJ (show k<9223372036854775807 by omega)]
   ·simp only [bxx] at hge;unfold awS;simp only [go_sem,simprocAttr];rw [List.drop_of_length_le (by omega),aGz] at hf;rw [← hf]
theorem cPFind (t:List ClipR) (n:Int) (hn:I64 n) (hfit:∀ c∈t,c.fit):aN Tryz.prog 88 [.t (dD t),aC n] (vfind (aEd t n)):=by
 refine aH Tryz.X88 Tryz.func88 rfl Tryz.ntmps88 (by rw [Tryz.results88]) (aD _ ?_);simp only [go_sem,simprocAttr];refine ⟨_,Bt t hfit,?_⟩;simp only [go_sem,simprocAttr];refine brW (b := !cC t) ?_ ⟨fun hb=>?_,fun hb=>?_⟩
 ·rfl
 ·unfold awS;simp only [go_sem,simprocAttr];unfold aEd;rw [nt hb];rfl
 ·unfold awS;simp only [go_sem,simprocAttr];obtain ⟨h1,h2,h3⟩:=Nx (nf hb);refine ⟨_,cPfind t n hn h2 h1,?_⟩;simp only [go_sem,simprocAttr];unfold aEd;rw [nf hb];simp only [true_and]
end Go.Proofs.YtbfnemkngoaeeaaGreat
