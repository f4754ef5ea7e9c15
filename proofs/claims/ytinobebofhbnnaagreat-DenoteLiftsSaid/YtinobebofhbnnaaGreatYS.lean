/- Proved here: Projects to which a sequence is added: what their frames are, in plain Lean, for use in the proofs of the given statements; conditions stand in each theorem. -/
import Derived.Test.YtinobebofhbnnaaGreatYJ
import Derived.Test.YtinobebofhbnnaaGreatYG
import Derived.Test.YtinobebofhbnnaaGreatYO
import Derived.Test.YtinobebofhbnnaaGreatYR
import Derived.Test.YtinobebofhbnnaaGreatZN
set_option linter.unusedSimpArgs false
set_option linter.unusedVariables false
set_option linter.unusedSectionVars false
set_option linter.unnecessarySimpa false
namespace Go.Proofs.YtinobebofhbnnaaGreat
open Go.RowKit
set_option maxRecDepth 4000
def addP (p:ProjR) (s:SequenceR):ProjR:=⟨p.media,p.seqs ++ [s]⟩
theorem seqOf_add (l:List SequenceR) (s:SequenceR) (n:ByteArray):seqOf (l ++ [s]) n=if n=s.name then some s else seqOf l n:=lastOf_snoc _ _ _ _
theorem vids_new (p:ProjR) (s:SequenceR):vidsOf (addP p s) s.name=s.video:=by
 unfold vidsOf addP
 simp only
 rw [seqOf_add,if_pos rfl]
 rfl
theorem vids_old {p:ProjR} {s:SequenceR} {n:ByteArray} (h:n≠s.name):vidsOf (addP p s) n=vidsOf p n:=by
 unfold vidsOf addP
 simp only
 rw [seqOf_add,if_neg h]
theorem leaf_add {p:ProjR} {s:SequenceR} {G H:ByteArray→Int→ExprR} {x:SourceR} (hx:srcThere p x=true) (hn:∀ q∈p.seqs,q.name≠s.name) (ih:∀ n i,n≠s.name→G n i=H n i) (j:Int):leafE (addP p s) G x j=leafE p H x j:=by
 unfold leafE
 by_cases k2:x.kind=2
 ·rw [if_pos k2,if_pos k2]
  refine ih _ _ fun e=>?_
  unfold srcThere at hx
  rw [k2] at hx
  cases e2:seqOf p.seqs x.name with
  | none=>rw [e2] at hx;cases hx
  | some q =>
   obtain ⟨m1,m2⟩:=lastOf_mem e2
   exact hn q m1 (m2.trans e)
 ·rw [if_neg k2,if_neg k2]
  rfl
theorem film_add {R:ExprR→ExprR} {p:ProjR} {s:SequenceR} (h:FilmOk p) (hn:∀ q∈p.seqs,q.name≠s.name):∀ (d:Nat) (n:ByteArray) (i:Int),n≠s.name→filmE R (addP p s) d n i=filmE R p d n i
 | 0,_,_,_=>rfl
 | d+1,n,i,hne=>by
  unfold filmE
  rw [vids_old hne]
  refine show_congr fun c k ho x hx hk j=>?_
  obtain ⟨⟨t,ht,hct⟩,_⟩:=topT_inv (fun t ht c hc=>(vClip_len ((vids_ok h n t (List.mem_reverse.1 ht)).2 c hc)).1) ho
  have ht:=List.mem_reverse.1 ht
  unfold vidsOf at ht
  cases e:seqOf p.seqs n with
  | none=>rw [e] at ht;cases ht
  | some q =>
   rw [e] at ht
   have hcl:=List.all_eq_true.1 (h.compl q (lastOf_mem e).1) c (clip_in e ht hct)
   unfold clipThere at hcl
   rw [Bool.and_eq_true] at hcl
   exact leaf_add (by rcases hx with rfl | rfl;exact hcl.1;exact hcl.2) hn (fun m y hm=>film_add h hn d m y hm) j
def trkE (p:ProjR) (ts:List (List ClipR)) (i:Int):ExprR:=showE redX (leafE p (filmE redX p 4)) (topT i ts.reverse)
theorem film_new {p:ProjR} {s:SequenceR} (h:FilmOk p) (hn:∀ q∈p.seqs,q.name≠s.name) (hs:∀ t∈s.video, ∀ c∈t,1≤c.len∧clipThere p c=true) (i:Int):filmE redX (addP p s) 5 s.name i=trkE p s.video i:=by
 unfold filmE trkE
 rw [vids_new]
 refine show_congr fun c k ho x hx hk j=>?_
 obtain ⟨⟨t,ht,hct⟩,_⟩:=topT_inv (fun t ht c hc=>(hs t (List.mem_reverse.1 ht) c hc).1) ho
 have hcl:=(hs t (List.mem_reverse.1 ht) c hct).2
 unfold clipThere at hcl
 rw [Bool.and_eq_true] at hcl
 exact leaf_add (by rcases hx with rfl | rfl;exact hcl.1;exact hcl.2) hn (fun m y hm=>film_add h hn 4 m y hm) j
open Go.RowKit
set_option maxRecDepth 4000
theorem iR_app {a b:List T} (h:ImpL a b):∀ l:List (List T),ImpR (l ++ [a]) (l ++ [b])
 | []=>⟨h,trivial⟩
 | x::l=>⟨iL_refl x,iR_app h l⟩
theorem cWith (p:ProjR) (ts:List (List ClipR)) (hp:p.seqs.length≤100):CPure Tryz.prog 40 [vproj p, .t (ttracks ts)] (vproj (addP p (tSeq ⟨#[116]⟩ ts))):=by
 refine cpure_ofW Tryz.xen40 Tryz.func40 rfl Tryz.ntmps40 (by rw [Tryz.results40]) (aw_ok _ ?_)
 simp only [go_sem,simprocAttr]
 refine ⟨⟨by unfold maxLen;omega,by omega⟩,⟨by unfold maxLen;omega,by omega⟩,?_⟩
 refine pureW_as (r' := .agg [.t (tmedia p.media), .t (.list 9 (zSeqV.map fun v=>match v with | .t t=>t | _=>default) (p.seqs.map SequenceR.c ++ [[tstr ⟨#[116]⟩,ti 25,ti 1,ti 16,ti 16, .list 1 (trackC []) (ts.map trackC), .lit (.slice none 0 0), .lit (.slice none 0 0),ti 0]]))]) ?_ rfl ?_
 ·simp only [go_sem,simprocAttr]<;>rfl
 ·refine as_impAgg ⟨as_refl,as_imp ?_,trivial⟩
  have e:(addP p (tSeq ⟨#[116]⟩ ts)).seqs.map SequenceR.c=p.seqs.map SequenceR.c ++ [SequenceR.c (tSeq ⟨#[116]⟩ ts)]:=by
   unfold addP
   rw [List.map_append]
   rfl
  unfold tseqs
  rw [e]
  refine imp_list (iR_app (by exact ⟨imp_refl,imp_refl,imp_refl,imp_refl,imp_refl,imp_refl,imp_nil,imp_nil,imp_refl,trivial⟩) _)
theorem cFilm25 (p:ProjR) (n:Int) (h:p.fit):CPure Tryz.prog 39 [vproj p,vint n] (.t (texprs (filmR p ⟨#[116]⟩ 0 n).1)):=by
 refine cpure_of Tryz.xen39 Tryz.func39 rfl Tryz.ntmps39 (by rw [Tryz.results39]) (aw_ok _ ?_)
 simp only [go_sem,simprocAttr]
 refine ⟨_,cDFilm p h ⟨#[116]⟩ 0 n ⟨by decide,by decide⟩,?_⟩
 simp only [go_sem,simprocAttr]
open Go.RowKit
set_option maxRecDepth 4000
def medMade (L:List Int) (i k:Nat):MediumR:=⟨nameB ⟨#[109]⟩ i,0,⟨0,0,⟨25,1⟩,false,0,0,fun _=>0⟩,5+tapeN L k 40,0,0,[]⟩
def madeV (L:List Int) (i k:Nat):List (List ClipR)×Nat:=([(trkAt L k 3 i 4).1,(trkAt L (trkAt L k 3 i 4).2 3 i 2).1],(trkAt L (trkAt L k 3 i 4).2 3 i 2).2)
def madeP (L:List Int):ProjR:=⟨[medMade L 0 0,medMade L 1 1,medMade L 2 2],[tSeq (nameB ⟨#[115]⟩ 0) (madeV L 0 3).1,tSeq (nameB ⟨#[115]⟩ 1) (madeV L 1 (madeV L 0 3).2).1]⟩
def madeK (L:List Int):Nat:=(madeV L 1 (madeV L 0 3).2).2
def madeT (L:List Int):List ClipR:=normT (trkAt L (madeK L) 3 2 5).1
def madeAt (L:List Int):Nat:=(trkAt L (madeK L) 3 2 5).2
theorem trkAt_step (L:List Int) (k:Nat) (m s most:Int) (hm:m≤9) (hs:s≤9) (h0 : 0≤most) (h9:most≤9):(trkAt L k m s most).2≤k+200:=by
 have t:=tapeN_lt (L:=L) (k:=k) (n:=most+1) (by omega)
 have h:=trkGo_le L m s hm hs (tapeN L k (most+1)).toNat (k+1)
 unfold trkAt
 omega
abbrev rawM (L:List Int):T := .list 141 (Tryz.z82.map T.lit) [mHead (medMade L 0 0) ++ [.lit (.slice none 0 0)],mHead (medMade L 1 1) ++ [.lit (.slice none 0 0)],mHead (medMade L 2 2) ++ [.lit (.slice none 0 0)]]
def rawQ (n:ByteArray) (a b:List ClipR):List T:=[tstr n,ti 25,ti 1,ti 16,ti 16, .list 1 [.lit (.slice none 0 0)] [[tclips a],[tclips b]], .lit (.slice none 0 0), .lit (.slice none 0 0),ti 0]
abbrev rawS (L:List Int):T := .list 9 [tstr ⟨#[]⟩,ti 0,ti 0,ti 0,ti 0, .lit (.slice none 0 0), .lit (.slice none 0 0), .lit (.slice none 0 0),ti 0] [rawQ (nameB ⟨#[115]⟩ 0) (trkAt L 3 3 0 4).1 (trkAt L (trkAt L 3 3 0 4).2 3 0 2).1,rawQ (nameB ⟨#[115]⟩ 1) (trkAt L (madeV L 0 3).2 3 1 4).1 (trkAt L (trkAt L (madeV L 0 3).2 3 1 4).2 3 1 2).1]
theorem e48:IntKind.i32.wrap (IntKind.i64.wrap 48)=48:=by decide
theorem e49:IntKind.i32.wrap (IntKind.i64.wrap 49)=49:=by decide
theorem cw3x:IntKind.i64.wrap 3=3:=by decide
theorem wr11:IntKind.i64.wrap (0+1)=1:=by decide
theorem wr12:IntKind.i64.wrap (1+1)=2:=by decide
theorem e50:IntKind.i32.wrap (IntKind.i64.wrap 50)=50:=by decide
set_option maxHeartbeats 4000000 in
theorem cMade0 (L:List Int):CIO Tryz.prog 35 0 [] [.t (tints L)] (.tup [.agg [.t (rawM L), .t (rawS L)], .t (tclips (madeT L)), .own 0]) [(0, .box [.t (tints L),vint (madeAt L)])] 1:=by
 refine cio_of Tryz.xen35 Tryz.func35 rfl Tryz.ntmps35 (by rw [Tryz.results35]) (aw_ok _ ?_)
 simp only [go_sem,simprocAttr,decide_true,decide_false]
 refine awp_loopL ?_
 refine awpL_step (aw_ok _ ?_)
 simp only [go_sem,simprocAttr,decide_true,decide_false,e48,e49,e50,cw1,cw2,cw3x,wr12,wr11]
 refine drawC_of 17 .done rfl (by kernel_rfl) (by kernel_rfl) (by decide) ?_
 simp only [go_sem,simprocAttr,decide_true,decide_false,e48,e49,e50,cw1,cw2,cw3x,wr12,wr11,↓fillA]
 refine ⟨of_decide_eq_true (by kernel_rfl),?_⟩
 refine bcall (cNext L 0 40 (by omega) (by omega) (by omega)) rfl rfl rfl ?_
 have c0:=tapeN_lt (L:=L) (k:=0) (n:=40) (by omega)
 simp only [go_sem,simprocAttr,decide_true,decide_false,wrap64 (x:=5+tapeN L 0 40) (by omega) (by omega),↓fillB]
 refine ⟨by decide,by kernel_rfl,?_⟩
 refine awpL_step (aw_ok _ ?_)
 simp only [go_sem,simprocAttr,decide_true,decide_false,e48,e49,e50,cw1,cw2,cw3x,wr12,wr11]
 refine drawC_of 17 .done rfl (by kernel_rfl) (by kernel_rfl) (by decide) ?_
 simp only [go_sem,simprocAttr,decide_true,decide_false,e48,e49,e50,cw1,cw2,cw3x,wr12,wr11,↓fillA]
 refine ⟨of_decide_eq_true (by kernel_rfl),?_⟩
 refine bcall (cNext L 1 40 (by omega) (by omega) (by omega)) rfl rfl rfl ?_
 have c1:=tapeN_lt (L:=L) (k:=1) (n:=40) (by omega)
 simp only [go_sem,simprocAttr,decide_true,decide_false,wrap64 (x:=5+tapeN L 1 40) (by omega) (by omega),↓fillB]
 refine ⟨by decide,by kernel_rfl,?_⟩
 refine awpL_step (aw_ok _ ?_)
 simp only [go_sem,simprocAttr,decide_true,decide_false,e48,e49,e50,cw1,cw2,cw3x,wr12,wr11]
 refine drawC_of 17 .done rfl (by kernel_rfl) (by kernel_rfl) (by decide) ?_
 simp only [go_sem,simprocAttr,decide_true,decide_false,e48,e49,e50,cw1,cw2,cw3x,wr12,wr11,↓fillA]
 refine ⟨of_decide_eq_true (by kernel_rfl),?_⟩
 refine bcall (cNext L 2 40 (by omega) (by omega) (by omega)) rfl rfl rfl ?_
 have c2:=tapeN_lt (L:=L) (k:=2) (n:=40) (by omega)
 simp only [go_sem,simprocAttr,decide_true,decide_false,wrap64 (x:=5+tapeN L 2 40) (by omega) (by omega),↓fillB]
 refine ⟨by decide,by kernel_rfl,?_⟩
 have d1:=trkAt_step L 3 3 0 4 (by omega) (by omega) (by omega) (by omega)
 have d2:=trkAt_step L (trkAt L 3 3 0 4).2 3 0 2 (by omega) (by omega) (by omega) (by omega)
 refine awpL_step (aw_ok _ ?_)
 simp only [go_sem,simprocAttr,decide_true,decide_false,e48,e49,e50,cw1,cw2,cw3x,wr12,wr11]
 refine awp_loopL ?_
 refine awpL_step (aw_ok _ ?_)
 simp only [go_sem,simprocAttr,decide_true,decide_false,e48,e49,e50,cw1,cw2,cw3x,wr12,wr11]
 refine drawC_of 20 .done rfl (by kernel_rfl) (by kernel_rfl) (by decide) ?_
 simp only [go_sem,simprocAttr,decide_true,decide_false,e48,e49,e50,cw1,cw2,cw3x,wr12,wr11]
 refine ⟨of_decide_eq_true (by kernel_rfl),?_⟩
 have g0:=trkAt_step L 3 3 0 4 (by omega) (by omega) (by omega) (by omega)
 have h0:=trkAt_step L (trkAt L 3 3 0 4).2 3 0 2 (by omega) (by omega) (by omega) (by omega)
 refine bcall (cTrackB L 3 3 0 4 (by omega) (by omega) (by omega) (by omega) (by omega)) rfl rfl rfl ?_
 simp only [go_sem,simprocAttr,decide_true,decide_false,e48,e49,e50,cw1,cw2,cw3x,wr12,wr11]
 refine bcall (cTrackB L (trkAt L 3 3 0 4).2 3 0 2 (by omega) (by omega) (by omega) (by omega) (by omega)) rfl rfl rfl ?_
 simp only [go_sem,simprocAttr,decide_true,decide_false,e48,e49,e50,cw1,cw2,cw3x,wr12,wr11]
 refine ⟨by decide,by kernel_rfl,?_⟩
 refine awpL_step (aw_ok _ ?_)
 simp only [go_sem,simprocAttr,decide_true,decide_false,e48,e49,e50,cw1,cw2,cw3x,wr12,wr11]
 refine drawC_of 20 .done rfl (by kernel_rfl) (by kernel_rfl) (by decide) ?_
 simp only [go_sem,simprocAttr,decide_true,decide_false,e48,e49,e50,cw1,cw2,cw3x,wr12,wr11]
 refine ⟨of_decide_eq_true (by kernel_rfl),?_⟩
 have g1:=trkAt_step L (trkAt L (trkAt L 3 3 0 4).2 3 0 2).2 3 1 4 (by omega) (by omega) (by omega) (by omega)
 have h1:=trkAt_step L (trkAt L (trkAt L (trkAt L 3 3 0 4).2 3 0 2).2 3 1 4).2 3 1 2 (by omega) (by omega) (by omega) (by omega)
 refine bcall (cTrackB L (trkAt L (trkAt L 3 3 0 4).2 3 0 2).2 3 1 4 (by omega) (by omega) (by omega) (by omega) (by omega)) rfl rfl rfl ?_
 simp only [go_sem,simprocAttr,decide_true,decide_false,e48,e49,e50,cw1,cw2,cw3x,wr12,wr11]
 refine bcall (cTrackB L (trkAt L (trkAt L (trkAt L 3 3 0 4).2 3 0 2).2 3 1 4).2 3 1 2 (by omega) (by omega) (by omega) (by omega) (by omega)) rfl rfl rfl ?_
 simp only [go_sem,simprocAttr,decide_true,decide_false,e48,e49,e50,cw1,cw2,cw3x,wr12,wr11]
 refine ⟨by decide,by kernel_rfl,?_⟩
 refine awpL_step (aw_ok _ ?_)
 simp only [go_sem,simprocAttr,decide_true,decide_false,e48,e49,e50,cw1,cw2,cw3x,wr12,wr11]
 have hK:(trkAt L (trkAt L (trkAt L (trkAt L 3 3 0 4).2 3 0 2).2 3 1 4).2 3 1 2).2=madeK L:=rfl
 refine drawC_of 8 .done rfl (by kernel_rfl) (by kernel_rfl) (by decide) ?_
 simp only [go_sem,simprocAttr,decide_true,decide_false]
 refine bcall (cTrackB L (trkAt L (trkAt L (trkAt L (trkAt L 3 3 0 4).2 3 0 2).2 3 1 4).2 3 1 2).2 3 2 5 (by omega) (by omega) (by omega) (by omega) (by omega)) rfl rfl rfl ?_
 simp only [go_sem,simprocAttr,decide_true,decide_false]
 have hn:=(trkAt_facts L (trkAt L (trkAt L (trkAt L (trkAt L 3 3 0 4).2 3 0 2).2 3 1 4).2 3 1 2).2 3 2 5 (by omega) (by omega) (by omega) (by omega)).1
 refine ⟨_,cNormal _ (fun c hc=>(hn c hc).fit),?_⟩
 simp only [go_sem,simprocAttr,decide_true,decide_false]
 refine ⟨by kernel_rfl,?_⟩
 refine weak_of [(0,some 1)] ?_
 simp only [go_sem,simprocAttr,decide_true,decide_false]
 exact ⟨⟨by simp,rfl⟩,⟨⟨rfl,by simp⟩,rfl,by simp,by simp,by simp⟩,rfl⟩
theorem cio_as {P:Program} {f:FuncId} {m n':Nat} {h h':Heap} {args:List V} {r r':V} (hc:CIO P f m h args r' h' n') (ha:∀ (w:World) (E:Env) v,RdV w E r' v→RdV w E r v):CIO P f m h args r h' n' :=
 ⟨hc.1,fun E w vs h1 h2 h3=>(hc.2 E w vs h1 h2 h3).mono fun e w' q=>by
  obtain ⟨v,E',q1,q2,q3,q4,q5⟩:=q
  exact ⟨v,E',q1,q2,q3,q4,ha _ _ _ q5⟩⟩
theorem rawQ_imp (n:ByteArray) (a b:List ClipR):ImpL (rawQ n a b) (SequenceR.c (tSeq n [a,b])) :=
 ⟨imp_refl,imp_refl,imp_refl,imp_refl,imp_refl,imp_list (by exact ⟨⟨imp_refl,trivial⟩,⟨imp_refl,trivial⟩,trivial⟩),imp_nil,imp_nil,imp_refl,trivial⟩
theorem iL_last {a b:T}:∀ l:List T,Imp a b→ImpL (l ++ [a]) (l ++ [b])
 | [],h=>⟨h,trivial⟩
 | x::l,h=>⟨imp_refl,iL_last l h⟩
theorem cMade (L:List Int):CIO Tryz.prog 35 0 [] [.t (tints L)] (.tup [vproj (madeP L), .t (tclips (madeT L)), .own 0]) [(0, .box [.t (tints L),vint (madeAt L)])] 1:=by
 refine cio_as (cMade0 L) (as_impTup ⟨as_impAgg ⟨as_imp (imp_list ⟨iL_last _ imp_nil,iL_last _ imp_nil,iL_last _ imp_nil,trivial⟩),as_imp (imp_list ⟨rawQ_imp _ _ _,rawQ_imp _ _ _,trivial⟩),trivial⟩,as_refl,as_refl,trivial⟩)
end Go.Proofs.YtinobebofhbnnaaGreat
