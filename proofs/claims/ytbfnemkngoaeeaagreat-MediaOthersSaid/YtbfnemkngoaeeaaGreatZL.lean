/- Proved here: Contracts of the functions that copy clips, for use in the proofs of the given statements; conditions stand in each theorem. -/
import Derived.Test.YtbfnemkngoaeeaaGreatZK
import Derived.Test.YtbfnemkngoaeeaaGreatZS
set_option linter.unusedSimpArgs false
set_option linter.unusedVariables false
set_option linter.unusedSectionVars false
set_option linter.unnecessarySimpa false
namespace Go.Proofs.YtbfnemkngoaeeaaGreat
open Go.RowKit
set_option maxRecDepth 4000
theorem cClone (xs:List Int) (hl:xs.length≤65536):CPure Tryz.prog 119 [.t (tints xs)] (.t (tints xs)):=by
 refine cpure_ofW Tryz.xen119 Tryz.func119 rfl Tryz.ntmps119 (by rw [Tryz.results119]) (aw_ok _ ?_)
 simp only [go_sem,simprocAttr]
 intro b hn
 refine ⟨fun hb=>?_,fun hb=>?_⟩
 ·have e:List.map intC xs = []:=hn hb
  unfold awS
  simp only [go_sem,simprocAttr]
  rw [e]
  exact pureW_nil
 ·unfold awS
  simp only [go_sem,simprocAttr]
  refine ⟨⟨Nat.le_trans hl (by decide),by omega⟩,pureW_self ?_ rfl⟩
  simp only [go_sem,simprocAttr]<;>rfl
open Go.RowKit
set_option maxRecDepth 4000
def zClip:ClipR:=⟨0,0,zSource,zSource,0,0,0,⟨#[]⟩,0,[]⟩
def shK (k:Int):Bool:=k==2||k==3
def advR (c:ClipR) (n:Int):ClipR := { c with len:=c.len - n,a:=movedS c.a n,b:=movedS c.b n,off:=if shK c.kind=true then c.off+n else c.off }
def advOk (c:ClipR) (n:Int):Bool:=vClip c&&decide (0≤n)&&decide (n<c.len)
def advC (c:ClipR) (n:Int):ClipR×Int:=if advOk c n=true then (if (placedOk (movedS c.a n)&&placedOk (movedS c.b n))=true then (advR c n,0) else (zClip,2)) else (zClip,1)
abbrev vce (r:ClipR×Int):V := .tup [vclip r.1,vint r.2]
def zVs:List V:=[vint 0,vint 0,vint 0,vstr ⟨#[]⟩,vint 0,vint 0,vint 0,vint 0,vbool false,vint 0,vstr ⟨#[]⟩,vint 0,vint 0,vint 0,vint 0,vbool false,vint 0,vint 0,vint 0,vstr ⟨#[]⟩,vint 0, .t (.lit (.slice none 0 0))]
open Go.RowKit
set_option maxRecDepth 4000
abbrev vcb (c:ClipR) (b:Bool):V := .tup [vclip c,vbool b]
def shiftR (c:ClipR) (n:Int):ClipR := { c with a:=movedS c.a n,b:=movedS c.b n,off:=if shK c.kind=true then c.off+n else c.off }
def headOk (c:ClipR) (n:Int):Bool:=vClip c&&decide (1≤n)&&decide (n≤c.len)
def headC (c:ClipR) (n:Int):ClipR×Int:=if headOk c n=true then ({ c with len:=n },0) else (zClip,1)
open Go.RowKit
set_option maxRecDepth 4000
def intsEq (a b:List Int):Bool:=a==b
theorem intsEq_hit {a b:List Int} {k:Nat} (h1:k<a.length) (h2:a.getD k 0≠b.getD k 0):(a==b)=false:=by
 rw [beq_eq_false_iff_ne]
 rintro rfl
 exact h2 rfl
theorem intsEq_done {a b:List Int} (hl:a.length=b.length) (h:∀ i,i<a.length→a.getD i 0=b.getD i 0):(a==b)=true:=by
 rw [beq_iff_eq]
 refine List.ext_getElem hl fun i h1 h2=>?_
 have:=h i h1
 rw [List.getD_eq_getElem?_getD,List.getD_eq_getElem?_getD,List.getElem?_eq_getElem h1,List.getElem?_eq_getElem h2] at this
 simpa using this
theorem cEqual (a b:List Int):CPure Tryz.prog 267 [.t (tints a), .t (tints b)] (vbool (a==b)):=by
 refine cpure_of Tryz.xen267 Tryz.func267 rfl Tryz.ntmps267 (by rw [Tryz.results267]) (awp_facts fun hf=>aw_ok _ ?_)
 simp only [go_sem,simprocAttr,factsT] at hf
 have hla:a.length≤maxLen:=by first | exact hf.1 | exact hf.1.1 | exact hf.2.1
 simp only [go_sem,simprocAttr]
 refine ⟨fun h=>?_,fun h=>?_⟩
 ·simp only [bxx] at h
  unfold awS
  simp only [go_sem,simprocAttr]
  have:(a==b)=false:=by
   rw [beq_eq_false_iff_ne];rintro rfl;exact h rfl
  rw [this]
 ·have hl:a.length=b.length:=by simp only [bne_eq_false_iff_eq] at h;omega
  unfold awS
  simp only [go_sem,simprocAttr]
  refine awp_loop_f (fun (k:Nat) σ => setS 13 (vint k) σ) (fun k=>k≤a.length ∧ ∀ i,i<k→a.getD i 0=b.getD i 0) (fun k=>a.length - k) 0 (weak_self ?_) ⟨Nat.zero_le _,by omega⟩ ?_
  ·simp only [go_sem,simprocAttr]<;>rfl
  ·rintro k ⟨hk,hi⟩
   refine aw_ok _ ?_
   simp only [go_sem,simprocAttr]
   refine ⟨fun hlt=>?_,fun hge=>?_⟩
   ·simp only [bxx] at hlt
    unfold awS
    simp only [go_sem,simprocAttr]
    refine drawR_of [0,1,2,3,4,5,6,7,8] .done rfl (by kernel_rfl) (by kernel_rfl) (by decide) ?_
    simp only [go_sem,simprocAttr]
    refine ⟨⟨by omega,by omega⟩,⟨by omega,by omega⟩,?_⟩
    refine ⟨fun h2=>?_,fun h2=>?_⟩
    ·unfold awS
     simp only [go_sem,simprocAttr]
     rw [intsEq_hit (k:=k) (by omega) (by simpa using h2)]
    ·unfold awS
     simp only [go_sem,simprocAttr]
     refine ⟨k+1,weak_self ?_,⟨by omega,upto hi (by simpa using h2)⟩,by omega⟩
     simp only [go_sem,simprocAttr]<;>simp [wrap_of (show k<a.length by omega) hla]
   ·simp only [bxx] at hge
    unfold awS
    simp only [go_sem,simprocAttr]
    rw [intsEq_done hl (fun i h2=>hi i (by omega))]
def ClipR.eqb (a b:ClipR):Bool:=a.len==b.len&&a.kind==b.kind&&SourceR.eqb a.a b.a&&SourceR.eqb a.b b.b&&a.off==b.off&&a.total==b.total&&a.param==b.param&&(a.text.toList==b.text.toList)&&a.gain==b.gain&&(a.chan==b.chan)
theorem ClipR.eqb_chan {a b:ClipR} (h:(a.chan==b.chan)=false):a.eqb b=false:=by
 unfold ClipR.eqb;rw [h,Bool.and_false]
theorem cSameClip (a b:ClipR):CPure Tryz.prog 194 [vclip a,vclip b] (vbool (a.eqb b)):=by
 refine cpure_of Tryz.xen194 Tryz.func194 rfl Tryz.ntmps194 (by rw [Tryz.results194]) (awp_facts fun hf=>aw_ok _ ?_)
 simp only [go_sem,simprocAttr,factsT] at hf
 have hla:a.chan.length≤maxLen:=hf.1.2.2.2.2.2.2.2.2.2.2.2.2.2.2.2.2.2.2.2.2.2.1
 simp only [go_sem,simprocAttr]
 refine ⟨fun h=>?_,fun h=>?_⟩
 ·simp only [bxx] at h
  unfold awS
  simp only [go_sem,simprocAttr]
  rw [ClipR.eqb_chan]
  rw [beq_eq_false_iff_ne];intro e;rw [e] at h;exact h rfl
 ·have hl:a.chan.length=b.chan.length:=by simp only [bne_eq_false_iff_eq] at h;omega
  unfold awS
  simp only [go_sem,simprocAttr]
  refine awp_loop_f (fun (k:Nat) σ => setS 5 (vint k) σ) (fun k=>k≤a.chan.length ∧ ∀ i,i<k→a.chan.getD i 0=b.chan.getD i 0) (fun k=>a.chan.length - k) 0 (weak_self ?_) ⟨Nat.zero_le _,by omega⟩ ?_
  ·simp only [go_sem,simprocAttr]
   first | rfl | simp
  ·rintro k ⟨hk,hi⟩
   refine aw_ok _ ?_
   simp only [go_sem,simprocAttr]
   refine ⟨fun hlt=>?_,fun hge=>?_⟩
   ·simp only [bxx] at hlt
    unfold awS
    simp only [go_sem,simprocAttr]
    refine drawR_of [0,1,2,3,4,5,6,7,8,9,10] .done rfl (by kernel_rfl) (by kernel_rfl) (by decide) ?_
    simp only [go_sem,simprocAttr]
    refine ⟨⟨by omega,by omega⟩,⟨by omega,by omega⟩,?_⟩
    refine ⟨fun h2=>?_,fun h2=>?_⟩
    ·unfold awS
     simp only [go_sem,simprocAttr]
     rw [ClipR.eqb_chan (intsEq_hit (k:=k) (by omega) (by simpa using h2))]
    ·unfold awS
     simp only [go_sem,simprocAttr]
     refine ⟨k+1,weak_self ?_,⟨by omega,upto hi (by simpa using h2)⟩,by omega⟩
     simp only [go_sem,simprocAttr]<;>simp [wrap_of (show k<a.chan.length by omega) hla]
   ·simp only [bxx] at hge
    have hch:(a.chan==b.chan)=true:=intsEq_done hl (fun i h2=>hi i (by omega))
    unfold awS
    simp only [go_sem,simprocAttr,List.append,List.append_eq,List.cons_append,List.nil_append]
    refine ⟨_,fun _=>eqSource a.a b.a,_,fun _=>eqSource a.b b.b,?_⟩
    try simp only [go_sem,simprocAttr,List.append,List.append_eq,List.cons_append,List.nil_append]
    unfold ClipR.eqb
    rw [hch,Bool.and_true]
theorem SourceR.eqb_iff {a b:SourceR}:a.eqb b=true ↔ a=b:=by
 unfold SourceR.eqb
 simp only [Bool.and_eq_true,beq_iff_eq]
 refine ⟨fun ⟨⟨⟨⟨⟨⟨h1,h2⟩,h3⟩,h4⟩,h5⟩,h6⟩,h7⟩=>?_,fun h=>by rw [h];exact ⟨⟨⟨⟨⟨⟨rfl,rfl⟩,rfl⟩,rfl⟩,rfl⟩,rfl⟩,rfl⟩⟩
 obtain ⟨k,n,⟨p1,p2⟩,⟨q1,q2⟩,m⟩:=a
 obtain ⟨k',n',⟨p1',p2'⟩,⟨q1',q2'⟩,m'⟩:=b
 simp only at h1 h2 h3 h4 h5 h6 h7
 rw [h1,bytes_inj h2,h3,h4,h5,h6,h7]
theorem ClipR.eqb_iff {a b:ClipR}:a.eqb b=true ↔ a=b:=by
 unfold ClipR.eqb
 simp only [Bool.and_eq_true,beq_iff_eq,SourceR.eqb_iff]
 refine ⟨fun ⟨⟨⟨⟨⟨⟨⟨⟨⟨h1,h2⟩,h3⟩,h4⟩,h5⟩,h6⟩,h7⟩,h8⟩,h9⟩,h10⟩=>?_,fun h=>by rw [h];exact ⟨⟨⟨⟨⟨⟨⟨⟨⟨rfl,rfl⟩,rfl⟩,rfl⟩,rfl⟩,rfl⟩,rfl⟩,rfl⟩,rfl⟩,rfl⟩⟩
 cases a;cases b
 simp only at h1 h2 h3 h4 h5 h6 h7 h8 h9 h10
 rw [h1,h2,h3,h4,h5,h6,h7,bytes_inj h8,h9,h10]
open Go.RowKit
set_option maxRecDepth 4000
structure Mild (c:ClipR):Prop where
 fit:c.fit
 chan:c.chan.length≤65536
 a:vSource c.a=true
 b:vSource c.b=true
 len : 0≤c.len∧c.len≤2147483647
 off:shK c.kind=true → -2147483648≤c.off∧c.off≤2147483648
def contC (p q:ClipR):Bool:=if (p.kind==0&&q.kind==0)=true then true else q.eqb { shiftR p p.len with len:=q.len }
end Go.Proofs.YtbfnemkngoaeeaaGreat
