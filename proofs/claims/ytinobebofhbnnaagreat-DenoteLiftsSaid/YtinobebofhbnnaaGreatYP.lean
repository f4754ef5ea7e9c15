/- Proved here: The runs of a list of expressions, for use in the proofs of the given statements; conditions stand in each theorem. -/
import Derived.Test.YtinobebofhbnnaaGreatY3
import Derived.Test.YtinobebofhbnnaaGreatY6
set_option linter.unusedSimpArgs false
set_option linter.unusedVariables false
set_option linter.unusedSectionVars false
set_option linter.unnecessarySimpa false
namespace Go.Proofs.YtinobebofhbnnaaGreat
open Go.RowKit
set_option maxRecDepth 4000
structure RunR where
 media:ByteArray
 film:Int
 start:Int
 len:Int
 deriving Inhabited
def RunR.c (r:RunR):List T:=[tstr r.media,ti r.film,ti r.start,ti r.len]
abbrev vrun (r:RunR):V := .agg [vstr r.media,vint r.film,vint r.start,vint r.len]
@[go_sem] theorem RunR.ct (r:RunR):(RunR.c r).map V.t = [vstr r.media,vint r.film,vint r.start,vint r.len]:=rfl
@[go_sem] theorem RunR.cl (r:RunR):(RunR.c r).length=4:=rfl
abbrev truns (l:List RunR):T := .list 4 (RunR.c default) (l.map RunR.c)
def mediaE:ExprR→ByteArray
 | .mk _ media .. => media
def frameE:ExprR→Int
 | .mk _ _ frame .. => frame
def srcB (e:ExprR):Bool:=opE e==1
def followsB (b e:ExprR):Bool:=opE b==1&&((mediaE b).toList==(mediaE e).toList)&&frameE e - 1==frameE b
def bump:List RunR→List RunR
 | []=>[]
 | [r]=>[{ r with len:=r.len+1 }]
 | r::s::l=>r::bump (s::l)
theorem bump_snoc (r:RunR):∀ l:List RunR,bump (l ++ [r])=l ++ [{ r with len:=r.len+1 }]
 | []=>rfl
 | [d]=>rfl
 | d::e::l=>by
  have:=bump_snoc r (e::l)
  simp only [List.cons_append,bump] at this ⊢
  rw [this]
def joinB (l:List ExprR) (k:Nat):Bool:=decide (0<k)&&followsB (l.getD (k - 1) default) (l.getD k default)
def runsGo (l:List ExprR):Nat→List RunR
 | 0=>[]
 | k+1 =>
  if srcB (l.getD k default)=true then
   (if joinB l k=true then bump (runsGo l k) else runsGo l k ++ [⟨mediaE (l.getD k default),k,frameE (l.getD k default),1⟩])
  else runsGo l k
def runsE (l:List ExprR):List RunR:=runsGo l l.length
structure RunsInv (l:List ExprR) (k:Nat) (rs:List RunR):Prop where
 len:rs.length≤k
 all:∀ r∈rs,1≤r.len∧0≤r.film∧r.film+r.len≤(k:Int)
 last : 0<k→srcB (l.getD (k - 1) default)=true → ∃ i r,rs=i ++ [r]∧r.film+r.len=(k:Int)∧r.media.toList=(mediaE (l.getD (k - 1) default)).toList
 gap : 0<k→srcB (l.getD (k - 1) default)=false → ∀ r∈rs,r.film+r.len<(k:Int)
theorem followsB_src {b e:ExprR} (h:followsB b e=true):srcB b=true:=by
 unfold followsB at h
 simp only [Bool.and_eq_true] at h
 exact h.1.1
theorem runs_inv (l:List ExprR):∀ k:Nat,RunsInv l k (runsGo l k)
 | 0=>⟨by simp [runsGo],by simp [runsGo],fun h=>absurd h (by decide),fun h=>absurd h (by decide)⟩
 | k+1=>by
  obtain ⟨h1,h2,h3,h4⟩:=runs_inv l k
  unfold runsGo
  have e1:k+1 - 1=k:=rfl
  split
  ·rename_i hs
   split
   ·rename_i hj
    unfold joinB at hj
    simp only [Bool.and_eq_true,decide_eq_true_eq] at hj
    obtain ⟨i,r,e,f1,f2⟩:=h3 hj.1 (followsB_src hj.2)
    have hr:=h2 r (by rw [e];simp)
    have hm:=hj.2
    unfold followsB at hm
    simp only [Bool.and_eq_true,beq_iff_eq] at hm
    rw [e,bump_snoc]
    rw [e] at h1 h2
    refine ⟨by simp at h1 ⊢; omega,fun x hx=>?_,fun _ _=>⟨i,_,rfl,by simp only;omega,?_⟩,fun _ hn=>absurd (hs.symm.trans hn) (by decide)⟩
    ·rcases List.mem_append.1 hx with hx | hx
     ·have:=h2 x (by simp [hx]);omega
     ·simp only [List.mem_cons,List.not_mem_nil,or_false] at hx
      subst hx;simp only;omega
    ·rw [e1]
     exact f2.trans hm.1.2
   ·refine ⟨by simp;omega,fun x hx=>?_,fun _ _=>⟨_,_,rfl,by simp only;omega,rfl⟩,fun _ hn=>absurd (hs.symm.trans hn) (by decide)⟩
    rcases List.mem_append.1 hx with hx | hx
    ·have:=h2 x hx;omega
    ·simp only [List.mem_cons,List.not_mem_nil,or_false] at hx
     subst hx;simp only;omega
  ·rename_i hs
   refine ⟨by omega,fun x hx=>by have:=h2 x hx;omega,fun _ hn=>absurd hn hs,fun _ _ x hx=>by have:=(h2 x hx).2.2;omega⟩
theorem fit_frame {e:ExprR} (h:e.fit):I64 (frameE e):=by
 obtain ⟨op,media,frame,num,den,param,text,args⟩:=e
 simp only [ExprR.fit] at h
 exact h.2.1
theorem cFollows (a b:ExprR) (ha:a.fit) (hb:b.fit):CPure Tryz.prog 181 [vexpr a,vexpr b] (vbool (followsB a b)):=by
 have f1:=fit_frame ha
 have f2:=fit_frame hb
 obtain ⟨o1,m1,fr1,nu1,de1,pa1,te1,ar1⟩:=a
 obtain ⟨o2,m2,fr2,nu2,de2,pa2,te2,ar2⟩:=b
 simp only [frameE] at f1 f2
 obtain ⟨q1,q2⟩:=f1
 obtain ⟨q3,q4⟩:=f2
 refine cpure_of Tryz.xen181 Tryz.func181 rfl Tryz.ntmps181 (by rw [Tryz.results181]) (aw_ok _ ?_)
 simp only [go_sem,↓reduceIte,Nat.reduceAdd,Nat.reduceSub,reduceCtorEq]
 have:(o1==1&&(m1.toList==m2.toList)&&decide (fr2 > fr1)&&(IntKind.i64.wrap (fr2 - 1)==fr1))=followsB (.mk o1 m1 fr1 nu1 de1 pa1 te1 ar1) (.mk o2 m2 fr2 nu2 de2 pa2 te2 ar2):=by
  unfold followsB opE mediaE frameE
  simp only
  by_cases h:fr2 > fr1
  ·rw [wrap64 (by omega) (by omega),decide_eq_true h,Bool.and_true]
  ·have h2:(fr2 - 1==fr1)=false:=by rw [beq_eq_false_iff_ne];omega
   rw [decide_eq_false h,h2]
   simp
 rw [this]
abbrev RowR (l:List RunR):Blk := .row 189 4 (RunR.c default) (tRows (l.map RunR.c))
theorem getD_snocR (i:List RunR) (c d:RunR):(i ++ [c]).getD i.length d=c:=by simp [List.getD_eq_getElem?_getD]
theorem cRuns (l:List ExprR) (hfit:∀ e∈l,e.fit) (hl:l.length≤1500000000000):CPure Tryz.prog 104 [.t (texprs l)] (.t (truns (runsE l))):=by
 refine cpure_of Tryz.xen104 Tryz.func104 rfl Tryz.ntmps104 (by rw [Tryz.results104]) (aw_ok _ ?_)
 simp only [go_sem,↓reduceIte,Nat.reduceSub]
 refine awp_loop_f (fun (k:Nat) σ => { fr:=(σ.fr.set 3 (.own 0)).set 8 (vint k),h:=[(0,RowR (runsGo l k))],nx:=1 }) (fun k=>k≤l.length) (fun k=>l.length - k) 0 (weak_of [(0,none)] ?_) (Nat.zero_le _) ?_
 ·simp only [go_sem,Nat.reduceLT,↓reduceIte,Nat.reduceLeDiff]
  exact ⟨rfl,rfl⟩
 ·intro k hk
  obtain ⟨f1,f2,f3,f4⟩:=runs_inv l k
  refine aw_ok _ ?_
  simp only [go_sem,↓reduceIte]
  refine ⟨fun hlt=>?_,fun hge=>?_⟩
  ·simp only [decide_eq_true_eq] at hlt
   have hkl:k<l.length:=by omega
   have hn:=nth_expr zE hkl
   have hft:=hfit _ (mem_getDE hkl)
   have hgo:runsGo l (k+1)=(if srcB (l.getD k default)=true then (if joinB l k=true then bump (runsGo l k) else runsGo l k ++ [⟨mediaE (l.getD k default),k,frameE (l.getD k default),1⟩]) else runsGo l k):=rfl
   have hjn:joinB l k=(decide (0<k)&&followsB (l.getD (k - 1) default) (l.getD k default)):=rfl
   have cF:=fun (hk0 : 0<k)=>cFollows (l.getD (k - 1) default) (l.getD k default) (hfit _ (mem_getDE (show k - 1<l.length by omega))) hft
   have hn0:=nth_expr zE (show k - 1<l.length by omega)
   have w1:IntKind.i64.wrap ((k:Int) - 1)=(k:Int) - 1:=wrap64 (by omega) (by omega)
   have w2:((k:Int) - 1).toNat=k - 1:=by omega
   rcases hx:l.getD k default with ⟨o1,m1,fr1,nu1,de1,pa1,te1,ar1⟩
   rw [hx] at hn hft hgo hjn cF
   rcases hy:l.getD (k - 1) default with ⟨o0,m0,fr0,nu0,de0,pa0,te0,ar0⟩
   rw [hy] at hn0 hjn cF
   unfold awS
   simp only [go_sem,↓reduceIte,Nat.reduceAdd,Nat.reduceLeDiff,hn,ExprR.c,cs_eq]
   refine ⟨⟨by omega,by omega⟩,fun h1=>?_,fun h1=>?_⟩
   ·have hs : ¬ srcB (.mk o1 m1 fr1 nu1 de1 pa1 te1 ar1)=true:=by unfold srcB opE;simpa using h1
    rw [if_neg hs] at hgo
    unfold awS
    simp only [go_sem,↓reduceIte,wrap1 (show k<9223372036854775807 by omega)]
    refine ⟨k+1,weak_of [(0,some 0)] ?_,by omega,by omega⟩
    simp only [go_sem,Nat.reduceLT,↓reduceIte,Nat.reduceLeDiff,reduceCtorEq]
    rw [hgo]
    exact ⟨⟨by simp,rfl⟩,rfl⟩
   ·have hs:srcB (.mk o1 m1 fr1 nu1 de1 pa1 te1 ar1)=true:=by unfold srcB opE;simpa using h1
    rw [if_pos hs] at hgo
    unfold awS
    simp only [go_sem]
    refine drawR_of [0,1,2,3,4,5,6,7,8,9,10] .done rfl (by kernel_rfl) (by kernel_rfl) (by decide) ?_
    simp only [go_sem,↓reduceIte,Nat.reduceAdd,Nat.reduceLeDiff,w1,w2,hn0,ExprR.c,cs_eq]
    refine ⟨fun h=>?_,_,fun h=>cF ?_,?_⟩
    ·simp only [decide_eq_true_eq] at h
     omega
    ·simp only [decide_eq_true_eq] at h
     omega
    simp only [go_sem,↓reduceIte]
    refine brW (b:=joinB l k) ?_ ⟨fun hb=>?_,fun hb=>?_⟩
    ·rw [hjn]
     have:decide ((k:Int) > 0)=decide (0<k):=by rw [Bool.eq_iff_iff];simp only [decide_eq_true_eq];omega
     rw [this]
    ·rw [if_pos hb] at hgo
     have hk0 : 0<k:=by rw [hjn] at hb;simp only [Bool.and_eq_true,decide_eq_true_eq] at hb;exact hb.1
     have hsrc:srcB (l.getD (k - 1) default)=true:=by rw [hy];rw [hjn,Bool.and_eq_true] at hb;exact followsB_src hb.2
     obtain ⟨i,r,e,g1,g2⟩:=f3 hk0 hsrc
     have hr:=f2 r (by rw [e];simp)
     rw [e] at f1
     have hil:i.length+1≤k:=by simpa using f1
     unfold awS
     rw [e]
     have hL:(i ++ [r]).length=i.length+1:=by simp
     have w3:IntKind.i64.wrap (((i.length+1:Nat):Int) - 1)=(i.length:Int):=by rw [wrap64 (by omega) (by omega)];omega
     have w4:IntKind.i64.wrap (r.len+1)=r.len+1:=wrap64 (by omega) (by omega)
     simp only [go_sem,↓reduceIte,Nat.reduceAdd,Nat.reduceLeDiff,reduceCtorEq,hL,w3,w4,getD_snocR,wrap1 (show k<9223372036854775807 by omega)]
     refine ⟨⟨by omega,by omega⟩,by omega,⟨by omega,by omega⟩,by omega,k+1,weak_of [(0,some 0)] ?_,by omega,by omega⟩
     simp only [go_sem,Nat.reduceLT,↓reduceIte,Nat.reduceLeDiff,reduceCtorEq]
     rw [hgo,e,bump_snoc]
     refine ⟨⟨by simp,?_⟩,rfl⟩
     first | rfl | (simp [List.set_append_right,RunR.c];done) | trace_state
    ·rw [if_neg (by rw [hb];exact Bool.false_ne_true)] at hgo
     unfold awS
     simp only [go_sem,Nat.reduceGT,Nat.reducePow,Nat.reduceLT,↓reduceIte,Nat.reduceAdd,Nat.reduceMul,Nat.reduceLeDiff,reduceCtorEq,wrap1 (show k<9223372036854775807 by omega)]
     refine ⟨⟨by unfold maxLen;omega,by omega⟩,k+1,weak_of [(0,some 3)] ?_,by omega,by omega⟩
     simp only [go_sem,Nat.reduceLT,↓reduceIte,Nat.reduceLeDiff,reduceCtorEq]
     refine ⟨⟨by simp,?_⟩,rfl⟩
     rw [hgo,List.map_append]
     rfl
  ·simp only [decide_eq_false_iff_not] at hge
   have:k=l.length:=by omega
   subst this
   unfold awS
   simp only [go_sem,↓reduceIte]<;>rfl
open Go.RowKit
set_option maxRecDepth 4000
def seq0:SequenceR:=⟨⟨#[97]⟩,⟨25,1⟩,16,16,[],[],[],0⟩
def proj0:ProjR:=⟨[],[seq0]⟩
abbrev zLay:List T:=[.lit (.slice none 0 0), .lit (.slice none 0 0), .lit (.slice none 0 0)]
abbrev ix0:V := .agg [.t (.map []), .t (.map [(.string ⟨#[97]⟩,false,[.list 3 zLay []])])]
theorem cIndex0:CPure Tryz.prog 110 [vproj proj0] ix0:=by
 refine cpure_of Tryz.xen110 Tryz.func110 rfl Tryz.ntmps110 (by rw [Tryz.results110]) (aw_ok _ ?_)
 simp only [go_sem,simprocAttr,decide_true,decide_false,proj0,seq0,List.map_nil,List.map_cons,List.length_nil,List.length_cons]
 refine awp_loopL ?_
 refine awpL_step (aw_ok _ ?_)
 simp only [go_sem,simprocAttr,decide_true,decide_false,proj0,seq0,List.map_nil,List.map_cons,List.length_nil,List.length_cons,cst0,cst1]
 refine awp_loopL ?_
 refine awpL_step (aw_ok _ ?_)
 simp only [go_sem,simprocAttr,decide_true,decide_false,proj0,seq0,List.map_nil,List.map_cons,List.length_nil,List.length_cons,cst0,cst1,nth_1a,SequenceR.c]
 refine ⟨by decide,?_⟩
 refine awp_loopL ?_
 refine awpL_step (aw_ok _ ?_)
 simp only [go_sem,simprocAttr,decide_true,decide_false,proj0,seq0,List.map_nil,List.map_cons,List.length_nil,List.length_cons,cst0,cst1,nth_1a,SequenceR.c,cw1]
 refine awpL_step (aw_ok _ ?_)
 simp only [go_sem,simprocAttr,decide_true,decide_false,proj0,seq0,List.map_nil,List.map_cons,List.length_nil,List.length_cons,cst0,cst1,nth_1a,SequenceR.c]
theorem cFrame0:CPure Tryz.prog 111 [ix0,vstr ⟨#[97]⟩,vint 0] (vexpr zeroE):=by
 have w1:IntKind.i64.wrap (-1) = -1:=by decide
 refine cpure_ofW Tryz.xen111 Tryz.func111 rfl Tryz.ntmps111 (by rw [Tryz.results111]) (aw_ok _ ?_)
 simp only [go_sem,simprocAttr,decide_true,decide_false,cst0,w1]
 refine awp_loopL ?_
 refine awpL_step (aw_ok _ ?_)
 simp only [go_sem,simprocAttr,decide_true,decide_false,cst0,w1]
 exact pureW_zeroE
theorem nopFrame:NopD Tryz.prog 109:=by
 refine ⟨Tryz.xen109,fun cap w=>callsDIn_of_wpSIn Tryz.func109 rfl trivial fun c₀ cs hu=>?_⟩
 have k1 : 2<cap.size+(5 - cap.size):=by omega
 have k2 : 3<cap.size+(5 - cap.size):=by omega
 have k3 : 2<max 5 cap.size:=by omega
 have k4 : 3<max 5 cap.size:=by omega
 apply wpSIn_seq
 apply wpSIn_region
 simp [wpOpsSIn,Fence.wide,go_sem,recoverD,hu,Tryz.ntmps109,Exit.thenS,k1,k2,k3,k4]
 refine wpSIn_cond (t:=false) (by simp [Act.eval,k2,k4]) ?_
 refine wpSIn_of_wpIn rfl (wpIn_skip ?_)
 refine ⟨rfl, .returning,by rw [← hu], .tuple #[],?_,⟨_,rfl⟩,rfl,rfl⟩
 simp [results,Tryz.results109,go_sem]
theorem proj0_fit:proj0.fit:=by
 refine ⟨by simp [proj0],fun s hs=>?_⟩
 simp only [proj0,List.mem_cons,List.not_mem_nil,or_false] at hs
 subst hs
 exact ⟨⟨⟨by decide,by decide⟩,⟨by decide,by decide⟩⟩,⟨by decide,by decide⟩,⟨by decide,by decide⟩,by simp [seq0],by simp [seq0],by simp [seq0],⟨by decide,by decide⟩⟩
theorem find0:findR proj0 ⟨#[97]⟩=(seq0,0):=by
 have hv:validP proj0=0:=of_decide_eq_true (by kernel_rfl)
 have h:findS proj0.seqs ⟨#[97]⟩=some seq0:=findS_hit (k:=0) (by decide) (fun i h=>absurd h (by omega)) (by simp [proj0,seq0])
 unfold findR
 rw [hv,h]
 rfl
theorem cDFrame0:CPure Tryz.prog 45 [vproj proj0,vstr ⟨#[97]⟩,vint 0] (.tup [vexpr zeroE,vint 0]):=by
 have hf:=cFindS proj0 ⟨#[97]⟩ proj0_fit
 rw [find0] at hf
 refine cpure_of Tryz.xen45 Tryz.func45 rfl Tryz.ntmps45 (by rw [Tryz.results45]) (aw_ok _ ?_)
 simp only [go_sem,simprocAttr,decide_true,decide_false,zeroE]
 refine ⟨_,hf,?_⟩
 simp only [go_sem,simprocAttr,decide_true,decide_false,zeroE]
 refine icall_pure cIndex0 rfl ?_
 simp only [go_sem,simprocAttr,decide_true,decide_false,zeroE]
 refine ⟨_,cFrame0,?_⟩
 simp only [go_sem,simprocAttr,decide_true,decide_false,zeroE]
 exact nopFrame
open Go.RowKit
set_option maxRecDepth 4000
def still25 (n:Int):ExprR:=if (decide (n<0)||decide (n ≥ 30))=true then zeroE else .mk 1 ⟨#[97]⟩ n 0 0 0 ⟨#[]⟩ []
theorem pureW_vexN (op:Int) (media:ByteArray) (frame num den param:Int) (text:ByteArray) {h:Heap}:pureW (vex op media frame num den param text []) (.agg [vint op,vstr media,vint frame,vint num,vint den,vint param,vstr text, .t (.lit (.slice none 0 0))]) h :=
 pureW_as (r' := .agg [vint op,vstr media,vint frame,vint num,vint den,vint param,vstr text, .t (.lit (.slice none 0 0))]) rfl rfl (as_impAgg (by exact ⟨as_refl,as_refl,as_refl,as_refl,as_refl,as_refl,as_refl,as_nilL,trivial⟩))
theorem cStill (n:Int):CPure Tryz.prog 105 [vint n] (vexpr (still25 n)):=by
 refine cpure_ofW Tryz.xen105 Tryz.func105 rfl Tryz.ntmps105 (by rw [Tryz.results105]) (aw_ok _ ?_)
 simp only [go_sem,simprocAttr,decide_true,decide_false]
 refine ⟨fun h=>?_,fun h=>?_⟩
 ·unfold awS
  simp only [go_sem,simprocAttr,decide_true,decide_false]
  unfold still25
  rw [if_pos h]
  exact pureW_zeroE
 ·unfold awS
  simp only [go_sem,simprocAttr,decide_true,decide_false]
  unfold still25
  rw [if_neg (by rw [h];exact Bool.false_ne_true)]
  exact pureW_vexN ..
theorem four_cells {w:World} {E:Env} {a b c d:V} {vs:Array Value} (h:RdVs w E [a,b,c,d] vs.toList):∃ x1 x2 x3 x4,vs = #[x1,x2,x3,x4]∧RdV w E a x1∧RdV w E b x2∧RdV w E c x3∧RdV w E d x4:=by
 obtain ⟨l⟩:=vs
 rcases l with _ | ⟨x1,_ | ⟨x2,_ | ⟨x3,_ | ⟨x4,_ | ⟨x5,l⟩⟩⟩⟩⟩<;>simp only [RdVs,and_false,and_true] at h
 exact ⟨x1,x2,x3,x4,rfl,h⟩
def RunR.eqb (s t:RunR):Bool:=(s.media.toList==t.media.toList)&&s.film==t.film&&s.start==t.start&&s.len==t.len
theorem eqRun (s t:RunR):EqV Tryz.prog 189 [vstr s.media,vint s.film,vint s.start,vint s.len] [vstr t.media,vint t.film,vint t.start,vint t.len] (s.eqb t):=by
 intro w E vs us h1 h2
 obtain ⟨x1,x2,x3,x4,rfl,h1,h2',h3,h4⟩:=four_cells h1
 obtain ⟨y1,y2,y3,y4,rfl,k1,k2,k3,k4⟩:=four_cells h2
 rw [(rdV_lit_inv h1).1,(rdV_lit_inv h2').1,(rdV_lit_inv h3).1,(rdV_lit_inv h4).1,(rdV_lit_inv k1).1,(rdV_lit_inv k2).1,(rdV_lit_inv k3).1,(rdV_lit_inv k4).1]
 constructor
 ·unfold Op.equal
  simp [go_sem,Op.maxDepth]
  unfold RunR.eqb
  repeat' split
  all_goals simp_all
 ·intro p q
  unfold eqGuard
  simp [Tryz.eqGuardType189]
def exB:ExprR := .mk 2 ⟨#[]⟩ 0 1 2 0 ⟨#[]⟩ [zeroE,zeroE]
theorem exB_fit:exB.fit:=by
 simp only [exB,zeroE,ExprR.fit,ExprR.fits,I64,and_true,true_and]
 omega
theorem exB_sim:simpE exB=zeroE:=by
 have hv:validE exB=true:=by
  refine validE_mk ?_ (by simp [validE_zero])
  have:shareB 1 2=true:=of_decide_eq_true (by kernel_rfl)
  simp [fieldsOk,noB,this]
 unfold simpE
 rw [if_pos hv]
 unfold exB
 rw [simE_two,redE_two,if_pos (by rw [eqE_iff]),simE_zero]
def stE (n:Int):ExprR := .mk 1 ⟨#[97]⟩ n 0 0 0 ⟨#[]⟩ []
theorem stE_fit {n:Int} (h:I64 n):(stE n).fit:=by
 simp only [stE,ExprR.fit,ExprR.fits,I64,and_true,true_and] at h ⊢
 omega
theorem runs3:runsE [stE 4,stE 5,stE 7] = [⟨⟨#[97]⟩,0,4,2⟩,⟨⟨#[97]⟩,2,7,1⟩]:=by
 simp [runsE,runsGo,joinB,followsB,srcB,opE,mediaE,frameE,bump,stE]
theorem cAwake25:CPure Tryz.prog 41 [] (vbool true):=by
 have s4:=cStill 4
 have s5:=cStill 5
 have s7:=cStill 7
 rw [show still25 4=stE 4 from rfl] at s4
 rw [show still25 5=stE 5 from rfl] at s5
 rw [show still25 7=stE 7 from rfl] at s7
 have hR:=cRuns [stE 4,stE 5,stE 7] (by
  intro e he
  simp only [List.mem_cons,List.not_mem_nil,or_false] at he
  rcases he with rfl | rfl | rfl<;>exact stE_fit ⟨by decide,by decide⟩) (by decide)
 rw [runs3] at hR
 have hB:=cSimple exB exB_fit
 rw [exB_sim] at hB
 refine cpure_of Tryz.xen41 Tryz.func41 rfl Tryz.ntmps41 (by rw [Tryz.results41]) (aw_ok _ ?_)
 simp only [go_sem,simprocAttr,decide_true,decide_false]
 refine lcall_give ?_
 simp only [go_sem,simprocAttr,decide_true,decide_false]
 refine ⟨_,cpure_as (.cons (as_impAgg (by exact ⟨as_refl,as_refl,as_refl,as_refl,as_refl,as_refl,as_refl,as_imp (imp_list (by exact ⟨⟨imp_refl,imp_refl,imp_refl,imp_refl,imp_refl,imp_refl,imp_refl,imp_nil,trivial⟩,⟨imp_refl,imp_refl,imp_refl,imp_refl,imp_refl,imp_refl,imp_refl,imp_nil,trivial⟩,trivial⟩)),trivial⟩)) .nil) hB,?_⟩
 simp only [go_sem,simprocAttr,decide_true,decide_false,zeroE]
 refine ⟨_,s4,?_⟩
 simp only [go_sem,simprocAttr,decide_true,decide_false,stE]
 refine ⟨_,s5,?_⟩
 simp only [go_sem,simprocAttr,decide_true,decide_false,stE]
 refine ⟨_,s7,?_⟩
 simp only [go_sem,simprocAttr,decide_true,decide_false,stE]
 refine lcall_give ?_
 simp only [go_sem,simprocAttr,decide_true,decide_false]
 refine ⟨_,hR,?_⟩
 simp only [go_sem,simprocAttr,decide_true,decide_false]
 refine lcall_give ?_
 simp only [go_sem,simprocAttr,decide_true,decide_false]
 refine ⟨_,cpure_as (.cons (as_impAgg (by exact ⟨as_nilL,as_imp (imp_list (by exact ⟨⟨imp_refl,imp_refl,imp_refl,imp_refl,imp_refl,imp_nil,imp_nil,imp_nil,imp_refl,trivial⟩,trivial⟩)),trivial⟩)) (.cons as_refl (.cons as_refl .nil))) cDFrame0,?_⟩
 simp only [go_sem,simprocAttr,decide_true,decide_false,zeroE]
 have hz:=cSameE zeroE zeroE
 rw [eqE_iff.2 (rfl:zeroE=zeroE)] at hz
 refine ⟨_,cpure_as (.cons as_refl (.cons (as_impAgg (by exact ⟨as_refl,as_refl,as_refl,as_refl,as_refl,as_refl,as_refl,as_nilL,trivial⟩)) .nil)) hz,?_⟩
 simp only [go_sem,simprocAttr,decide_true,decide_false,List.map_cons,List.map_nil,List.length_cons,List.length_nil,nth2a,nth2b,cst2,RunR.c]
 exact ⟨_,eqRun ⟨⟨#[97]⟩,0,4,2⟩ ⟨⟨#[97]⟩,0,4,2⟩,_,fun _=>eqRun ⟨⟨#[97]⟩,2,7,1⟩ ⟨⟨#[97]⟩,2,7,1⟩,by simp [RunR.eqb]⟩
end Go.Proofs.YtinobebofhbnnaaGreat
