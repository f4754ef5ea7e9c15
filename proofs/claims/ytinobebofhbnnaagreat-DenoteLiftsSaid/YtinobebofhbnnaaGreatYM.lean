/- Proved here: Frames of films, the program: clips and frames, for use in the proofs of the given statements; conditions stand in each theorem. -/
import Derived.Test.YtinobebofhbnnaaGreatYL
set_option linter.unusedSimpArgs false
set_option linter.unusedVariables false
set_option linter.unusedSectionVars false
set_option linter.unnecessarySimpa false
namespace Go.Proofs.YtinobebofhbnnaaGreat
open Go.RowKit
set_option maxRecDepth 4000
abbrev vpair (c:ClipR):V := .agg [vint c.a.kind,vstr c.a.name,vint c.a.pos.num,vint c.a.pos.den,vint c.a.speed.num,vint c.a.speed.den,vbool c.a.smooth,vint (baseS c.a),vint (atS c.a),vint (stepS c.a),
 vint c.b.kind,vstr c.b.name,vint c.b.pos.num,vint c.b.pos.den,vint c.b.speed.num,vint c.b.speed.den,vbool c.b.smooth,vint (baseS c.b),vint (atS c.b),vint (stepS c.b)]
theorem cClipF (p:ProjR) (F:SourceR→Int→ExprR) (c:ClipR) (k:Int) (hv:vClip c=true) (h0:c.kind≠0) (hk : 0≤k∧k<c.len)
  (hA:CPure Tryz.prog 233 [vix p,vplace c.a,vint k] (vexpr (picE redX F c.a k))) (hB:CPure Tryz.prog 233 [vix p,vplace c.b,vint k] (vexpr (picE redX F c.b k))) :
  CPure Tryz.prog 186 [vix p,vclip c,vpair c,vint k] (vexpr (clipE redX F c k)):=by
 unfold vClip kindOk at hv
 rw [Bool.and_eq_true,if_neg h0] at hv
 obtain ⟨hb,hv⟩:=hv
 unfold baseOk at hb
 simp only [Bool.and_eq_true,decide_eq_true_eq] at hb
 refine cpure_ofW Tryz.xen186 Tryz.func186 rfl Tryz.ntmps186 (by rw [Tryz.results186]) (aw_ok _ ?_)
 simp only [go_sem,Nat.reduceGT,↓reduceIte,Nat.reduceAdd,Nat.reduceSub,Nat.reduceLeDiff,Nat.reduceEqDiff,reduceCtorEq]
 refine ⟨fun h1=>?_,fun h1=>?_⟩
 ·simp only [beq_iff_eq] at h1
  have e:clipE redX F c k=picE redX F c.a k:=by unfold clipE;rw [if_pos h1]
  rw [e]
  unfold awS
  simp only [go_sem,↓reduceIte,Nat.reduceAdd,Nat.reduceMul,Nat.reduceLeDiff,Nat.reduceEqDiff,reduceCtorEq,Int.reduceLE,Int.reduceToNat,Bool.and_true]
  refine ⟨by decide,_,hA,?_⟩
  generalize picE redX F c.a k=x
  rcases x with ⟨op,media,frame,num,den,param,text,args⟩
  simp only [go_sem,↓reduceIte,Nat.reduceAdd,Nat.reduceLeDiff,Nat.reduceEqDiff]
  exact pureW_self rfl rfl
 ·simp only [ne_eq,beq_eq_false_iff_ne] at h1
  rw [if_neg h1] at hv
  unfold awS
  simp only [go_sem,↓reduceIte]
  refine ⟨fun h5=>?_,fun h5=>?_⟩
  ·simp only [beq_iff_eq] at h5
   have e:clipE redX F c k = .mk 5 ⟨#[]⟩ 0 0 0 0 c.text [picE redX F c.a k]:=by unfold clipE;rw [if_neg h1,if_pos h5]
   rw [e]
   unfold awS
   simp only [go_sem]
   refine drawC_of 10 .done rfl (by kernel_rfl) (by kernel_rfl) (by decide) ?_
   simp only [go_sem,↓reduceIte,Nat.reduceAdd,Nat.reduceMul,Nat.reduceLeDiff,Nat.reduceEqDiff,reduceCtorEq,Int.reduceLE,Int.reduceToNat,Bool.and_true]
   refine ⟨by decide,_,hA,?_⟩
   generalize picE redX F c.a k=x
   rcases x with ⟨op,media,frame,num,den,param,text,args⟩
   simp only [go_sem,Nat.reduceGT,Nat.reducePow,Nat.reduceLT,↓reduceIte,Nat.reduceAdd,Nat.reduceMul,Nat.reduceLeDiff,Nat.reduceEqDiff,reduceCtorEq,Bool.and_true]
   refine ⟨by kernel_rfl,pureW_self ?_ rfl⟩
   simp only [go_sem,↓reduceIte]
   simp only [vex,texprs,List.map_cons,List.map_nil,ExprR.c,cs_eq]
   rfl
  ·simp only [ne_eq,beq_eq_false_iff_ne] at h5
   rw [show (if c.kind=5 then (c.b.isZ&&noShare c&&c.param==0&&vLine c.text) else false)=false from if_neg h5] at hv
   unfold awS
   simp only [go_sem,↓reduceIte]
   refine ⟨fun h4=>?_,fun h4=>?_⟩
   ·simp only [beq_iff_eq] at h4
    unfold awS
    simp only [go_sem,↓reduceIte,Nat.reduceAdd,Nat.reduceLeDiff,Nat.reduceEqDiff,Bool.and_true]
    refine ⟨fun hn=>?_,fun hn=>?_⟩
    ·simp only [bne_iff_ne,ne_eq] at hn
     omega
    ·unfold awS
     have e:clipE redX F c k=redE 4 ⟨#[]⟩ 0 0 0 c.param ⟨#[]⟩ [picE redX F c.a k,picE redX F c.b k]:=by
      unfold clipE
      rw [if_neg h1,if_neg h5,if_pos h4]
      rfl
     rw [e]
     have hred:=cReduced2 4 ⟨#[]⟩ 0 0 0 c.param ⟨#[]⟩ (picE redX F c.a k) (picE redX F c.b k)
     simp only [go_sem]
     refine drawC_of 13 .done rfl (by kernel_rfl) (by kernel_rfl) (by decide) ?_
     simp only [go_sem,↓reduceIte,Nat.reduceAdd,Nat.reduceMul,Nat.reduceLeDiff,Nat.reduceEqDiff,reduceCtorEq,Int.reduceLE,Int.reduceToNat,Bool.and_true]
     refine ⟨by decide,_,hA,?_⟩
     generalize picE redX F c.a k=x at hred ⊢
     rcases x with ⟨op,media,frame,num,den,param,text,args⟩
     simp only [go_sem,↓reduceIte,Nat.reduceAdd,Nat.reduceMul,Nat.reduceLeDiff,Nat.reduceEqDiff,reduceCtorEq,Int.reduceLE,Int.reduceToNat,Bool.and_true]
     refine ⟨by decide,_,hB,?_⟩
     generalize picE redX F c.b k=y at hred ⊢
     rcases y with ⟨op',media',frame',num',den',param',text',args'⟩
     simp only [go_sem,Nat.reducePow,Nat.reduceLT,↓reduceIte,Nat.reduceAdd,Nat.reduceMul,Nat.reduceLeDiff,Nat.reduceEqDiff,Bool.and_true,Bool.and_false]
     refine ⟨by kernel_rfl,?_⟩
     simp only [vex,texprs,List.map_cons,List.map_nil,ExprR.c,cs_eq] at hred
     refine lcall_give ?_
     simp only [go_sem,↓reduceIte,Nat.reduceAdd,Nat.reduceEqDiff,Bool.and_true]
     refine ⟨_,hred,?_⟩
     generalize redE _ _ _ _ _ _ _ _=z
     rcases z with ⟨op3,media3,frame3,num3,den3,param3,text3,args3⟩
     simp only [go_sem,↓reduceIte,Nat.reduceAdd,Nat.reduceLeDiff,Bool.and_true]
     exact pureW_self rfl rfl
   ·simp only [ne_eq,beq_eq_false_iff_ne] at h4
    unfold awS
    simp only [go_sem,↓reduceIte]
    refine ⟨fun h2=>?_,fun h2=>?_⟩
    ·simp only [beq_iff_eq] at h2
     unfold awS
     simp only [go_sem,↓reduceIte,Nat.reduceAdd,Nat.reduceLeDiff,Nat.reduceEqDiff,Bool.and_true]
     refine ⟨fun hn=>?_,fun hn=>?_⟩
     ·unfold awS
      have hs:=hv
      rw [if_pos h2] at hs
      unfold shareOk at hs
      simp only [Bool.and_eq_true,decide_eq_true_eq,beq_iff_eq] at hs
      obtain ⟨nn,hnn⟩:∃ nn:Nat,c.off+k+1=nn:=⟨(c.off+k+1).toNat,by omega⟩
      obtain ⟨dd,hdd⟩:∃ dd:Nat,c.total+1=dd:=⟨(c.total+1).toNat,by omega⟩
      have e:clipE redX F c k=redE 2 ⟨#[]⟩ 0 ((nn / Nat.gcd nn dd:Nat):Int) ((dd / Nat.gcd nn dd:Nat):Int) c.param ⟨#[]⟩ [picE redX F c.a k,picE redX F c.b k]:=by
       unfold clipE shareE gcdQ
       rw [if_neg h1,if_neg h5,if_neg h4,hnn,hdd,Int.natAbs_natCast,Int.natAbs_natCast,h2]
       rfl
      rw [e]
      have hred:=cReduced2 2 ⟨#[]⟩ 0 ((nn / Nat.gcd nn dd:Nat):Int) ((dd / Nat.gcd nn dd:Nat):Int) c.param ⟨#[]⟩ (picE redX F c.a k) (picE redX F c.b k)
      simp only [go_sem,↓reduceIte,Nat.reduceEqDiff,Bool.and_true,wrap64 (x:=c.off+k) (by omega) (by omega),hnn,hdd,wrapN (n:=nn) (by omega),wrapN (n:=dd) (by omega)]
      refine ⟨_,cOf nn dd (by omega) (by omega) (by omega),?_⟩
      simp only [go_sem,↓reduceIte,Nat.reduceAdd,Nat.reduceLeDiff,Bool.and_true]
      refine drawC_of 8 .done rfl (by kernel_rfl) (by kernel_rfl) (by decide) ?_
      simp only [go_sem,↓reduceIte,Nat.reduceAdd,Nat.reduceLeDiff,Nat.reduceEqDiff,Bool.and_true]
      refine ⟨by kernel_rfl,?_⟩
      refine drawC_of 13 .done rfl (by kernel_rfl) (by kernel_rfl) (by decide) ?_
      simp only [go_sem,↓reduceIte,Nat.reduceAdd,Nat.reduceMul,Nat.reduceLeDiff,Nat.reduceEqDiff,reduceCtorEq,Int.reduceLE,Int.reduceToNat,Bool.and_true]
      refine ⟨by decide,_,hA,?_⟩
      generalize picE redX F c.a k=x at hred ⊢
      rcases x with ⟨op,media,frame,num,den,param,text,args⟩
      simp only [go_sem,↓reduceIte,Nat.reduceAdd,Nat.reduceMul,Nat.reduceLeDiff,Nat.reduceEqDiff,reduceCtorEq,Int.reduceLE,Int.reduceToNat,Bool.and_true]
      refine ⟨by decide,_,hB,?_⟩
      generalize picE redX F c.b k=y at hred ⊢
      rcases y with ⟨op',media',frame',num',den',param',text',args'⟩
      simp only [go_sem,Nat.reducePow,Nat.reduceLT,↓reduceIte,Nat.reduceAdd,Nat.reduceMul,Nat.reduceLeDiff,Nat.reduceEqDiff,Bool.and_true,Bool.and_false]
      refine ⟨by kernel_rfl,?_⟩
      simp only [vex,texprs,List.map_cons,List.map_nil,ExprR.c,cs_eq] at hred
      refine lcall_give ?_
      simp only [go_sem,↓reduceIte,Nat.reduceAdd,Nat.reduceEqDiff,Bool.and_true]
      refine ⟨_,hred,?_⟩
      generalize redE _ _ _ _ _ _ _ _=z
      rcases z with ⟨op3,media3,frame3,num3,den3,param3,text3,args3⟩
      simp only [go_sem,↓reduceIte,Nat.reduceAdd,Nat.reduceLeDiff,Bool.and_true]
      exact pureW_self rfl rfl
     ·simp at hn
      omega
    ·simp only [ne_eq,beq_eq_false_iff_ne] at h2
     unfold awS
     simp only [go_sem,↓reduceIte]
     refine ⟨fun h3=>?_,fun h3=>?_⟩
     ·simp only [beq_iff_eq] at h3
      unfold awS
      simp only [go_sem,↓reduceIte,Nat.reduceAdd,Nat.reduceLeDiff,Nat.reduceEqDiff,Bool.and_true]
      refine ⟨fun hn=>?_,fun hn=>?_⟩
      ·unfold awS
       have hs:=hv
       rw [if_neg h2] at hs
       rw [if_pos h3] at hs
       unfold shareOk at hs
       simp only [Bool.and_eq_true,decide_eq_true_eq] at hs
       obtain ⟨nn,hnn⟩:∃ nn:Nat,c.off+k+1=nn:=⟨(c.off+k+1).toNat,by omega⟩
       obtain ⟨dd,hdd⟩:∃ dd:Nat,c.total+1=dd:=⟨(c.total+1).toNat,by omega⟩
       have e:clipE redX F c k=redE 3 ⟨#[]⟩ 0 ((nn / Nat.gcd nn dd:Nat):Int) ((dd / Nat.gcd nn dd:Nat):Int) c.param ⟨#[]⟩ [picE redX F c.a k,picE redX F c.b k]:=by
        unfold clipE shareE gcdQ
        rw [if_neg h1,if_neg h5,if_neg h4,hnn,hdd,Int.natAbs_natCast,Int.natAbs_natCast,h3]
        rfl
       rw [e]
       have hred:=cReduced2 3 ⟨#[]⟩ 0 ((nn / Nat.gcd nn dd:Nat):Int) ((dd / Nat.gcd nn dd:Nat):Int) c.param ⟨#[]⟩ (picE redX F c.a k) (picE redX F c.b k)
       simp only [go_sem,↓reduceIte,Nat.reduceEqDiff,Bool.and_true,wrap64 (x:=c.off+k) (by omega) (by omega),hnn,hdd,wrapN (n:=nn) (by omega),wrapN (n:=dd) (by omega)]
       refine ⟨_,cOf nn dd (by omega) (by omega) (by omega),?_⟩
       simp only [go_sem,↓reduceIte,Nat.reduceAdd,Nat.reduceLeDiff,Bool.and_true]
       refine drawC_of 8 .done rfl (by kernel_rfl) (by kernel_rfl) (by decide) ?_
       simp only [go_sem,↓reduceIte,Nat.reduceAdd,Nat.reduceLeDiff,Nat.reduceEqDiff,Bool.and_true]
       refine ⟨by kernel_rfl,?_⟩
       refine drawC_of 13 .done rfl (by kernel_rfl) (by kernel_rfl) (by decide) ?_
       simp only [go_sem,↓reduceIte,Nat.reduceAdd,Nat.reduceMul,Nat.reduceLeDiff,Nat.reduceEqDiff,reduceCtorEq,Int.reduceLE,Int.reduceToNat,Bool.and_true]
       refine ⟨by decide,_,hA,?_⟩
       generalize picE redX F c.a k=x at hred ⊢
       rcases x with ⟨op,media,frame,num,den,param,text,args⟩
       simp only [go_sem,↓reduceIte,Nat.reduceAdd,Nat.reduceMul,Nat.reduceLeDiff,Nat.reduceEqDiff,reduceCtorEq,Int.reduceLE,Int.reduceToNat,Bool.and_true]
       refine ⟨by decide,_,hB,?_⟩
       generalize picE redX F c.b k=y at hred ⊢
       rcases y with ⟨op',media',frame',num',den',param',text',args'⟩
       simp only [go_sem,Nat.reducePow,Nat.reduceLT,↓reduceIte,Nat.reduceAdd,Nat.reduceMul,Nat.reduceLeDiff,Nat.reduceEqDiff,Bool.and_true,Bool.and_false]
       refine ⟨by kernel_rfl,?_⟩
       simp only [vex,texprs,List.map_cons,List.map_nil,ExprR.c,cs_eq] at hred
       refine lcall_give ?_
       simp only [go_sem,↓reduceIte,Nat.reduceAdd,Nat.reduceEqDiff,Bool.and_true]
       refine ⟨_,hred,?_⟩
       generalize redE _ _ _ _ _ _ _ _=z
       rcases z with ⟨op3,media3,frame3,num3,den3,param3,text3,args3⟩
       simp only [go_sem,↓reduceIte,Nat.reduceAdd,Nat.reduceLeDiff,Bool.and_true]
       exact pureW_self rfl rfl
      ·simp at hn
       omega
     ·simp only [ne_eq,beq_eq_false_iff_ne] at h3
      rw [if_neg h2,if_neg h3,if_neg h4] at hv
      cases hv
theorem lay_nth {v:List (List ClipR)} {k:Nat} (h:k<v.length) (d:List T):nth d (v.map layC) k=layC (v.getD k []):=by
 unfold nth
 rw [List.getElem?_map,List.getElem?_eq_getElem h,List.getD_eq_getElem?_getD,List.getElem?_eq_getElem h]
 rfl
theorem pair_nth {t:List ClipR} {k:Nat} (h:k<t.length) (d:List T):nth d (t.map pairC) k=pairC (t.getD k default):=by
 unfold nth
 rw [List.getElem?_map,List.getElem?_eq_getElem h,getD_of_lt h]
 rfl
theorem srch_spec:∀ (t:List ClipR) (n:Int),(∀ c∈t,1≤c.len∧c.len≤2147483647)→0≤n → ∃ r,r≤t.length∧(∀ x,x<r→totL (t.take (x+1))≤n)∧(∀ x,r≤x→x<t.length→n<totL (t.take (x+1))) ∧
  ∀ i,findL t i n=if r<t.length then (((i+r:Nat):Int),n - totL (t.take r),true) else (0,0,false)
 | [],n,_,_=>⟨0,Nat.le_refl _,fun x h=>absurd h (Nat.not_lt_zero _),fun x _ h=>absurd h (Nat.not_lt_zero _),fun i=>rfl⟩
 | c::t,n,hp,hn=>by
  have hc:=hp c (by simp)
  by_cases h:n<c.len
  ·refine ⟨0,Nat.zero_le _,fun x h=>absurd h (Nat.not_lt_zero _),fun x _ hx=>?_,fun i=>?_⟩
   ·have:=totL_bound (t.take x) fun d hd=>hp d (List.mem_cons_of_mem _ (List.mem_of_mem_take hd))
    rw [List.take_succ_cons,totL_cons]
    omega
   ·rw [findL_cons,if_pos h,if_pos (by simp)]
    simp [totL_nil]
  ·obtain ⟨r,h1,h2,h3,h4⟩:=srch_spec t (n - c.len) (fun d hd=>hp d (by simp [hd])) (by omega)
   refine ⟨r+1,by simpa using h1,fun x hx=>?_,fun x hx hx2=>?_,fun i=>?_⟩
   ·rw [List.take_succ_cons,totL_cons]
    rcases x with _ | x
    ·simp [totL_nil];omega
    ·have:=h2 x (by omega);omega
   ·rw [List.take_succ_cons,totL_cons]
    rcases x with _ | x
    ·omega
    ·have:=h3 x (by omega) (by simpa using hx2);omega
   ·rw [findL_cons,if_neg h,h4 (i+1)]
    by_cases hr:r<t.length
    ·rw [if_pos hr,if_pos (by simpa using hr),List.take_succ_cons,totL_cons]
     refine Prod.ext ?_ (Prod.ext ?_ rfl)
     ·simp only;omega
     ·simp only;omega
    ·rw [if_neg hr,if_neg (by simpa using hr)]
theorem hitT_srch {t:List ClipR} {n:Int} {r:Nat} (h:∀ i,findL t i n=if r<t.length then (((i+r:Nat):Int),n - totL (t.take r),true) else (0,0,false)) (hn : 0≤n) :
  hitT t n=if r<t.length∧(t.getD r default).kind≠0 then some (t.getD r default,n - totL (t.take r)) else none:=by
 unfold hitT
 rw [h 0]
 by_cases hr:r<t.length
 ·rw [if_pos hr]
  simp only [Nat.zero_add,Int.toNat_natCast,hn,hr,true_and]
 ·rw [if_neg hr,if_neg (by simp),if_neg (fun h=>hr h.1)]
open Go.RowKit
set_option maxRecDepth 4000
@[go_sem] theorem pairC_l (c:ClipR):(pairC c).length=20:=rfl
@[go_sem] theorem pairC_t (c:ClipR):(pairC c).map V.t = [vint c.a.kind,vstr c.a.name,vint c.a.pos.num,vint c.a.pos.den,vint c.a.speed.num,vint c.a.speed.den,vbool c.a.smooth,vint (baseS c.a),vint (atS c.a),vint (stepS c.a),
 vint c.b.kind,vstr c.b.name,vint c.b.pos.num,vint c.b.pos.den,vint c.b.speed.num,vint c.b.speed.den,vbool c.b.smooth,vint (baseS c.b),vint (atS c.b),vint (stepS c.b)]:=rfl
theorem topT_neg {n:Int} (hn:n<0):∀ l:List (List ClipR),topT n l=none
 | []=>rfl
 | t::l=>by
  unfold topT hitT
  rw [if_neg (by omega)]
  exact topT_neg hn l
theorem topT_take {v:List (List ClipR)} {m:Nat} (h:m<v.length) (n:Int):topT n (v.take (m+1)).reverse=match hitT (v.getD m []) n with | some r=>some r | none=>topT n (v.take m).reverse:=by
 have e:v.take (m+1)=v.take m ++ [v.getD m []]:=by
  rw [List.take_add_one,List.getElem?_eq_getElem h,List.getD_eq_getElem?_getD,List.getElem?_eq_getElem h]
  rfl
 rw [e,List.reverse_append]
 rfl
theorem cFrameS (p:ProjR) (h:FilmOk p) (G:ByteArray→Int→ExprR) (name:ByteArray) (n:Int) (s:SequenceR) (hs:seqOf p.seqs name=some s) (hn:I64 n)
  (hG:∀ m∈inner p name,(seqOf p.seqs m).isSome=true → ∀ i,I64 i→CPure Tryz.prog 111 [vix p,vstr m,vint i] (vexpr (G m i))) :
  CPure Tryz.prog 111 [vix p,vstr name,vint n] (vexpr (showE redX (leafE p G) (topT n s.video.reverse))):=by
 have hsm:s∈p.seqs:=(seqOf_mem hs).1
 have hvt:∀ t∈s.video,vTrack t=true ∧ ∀ c∈t,vClip c=true:=fun t ht=>vids_ok h name t (by unfold vidsOf;rw [hs];exact ht)
 obtain ⟨n1,n2⟩:=hn
 have hvl:s.video.length≤8:=by
  have:=h.small
  unfold smallB at this
  simp only [Bool.and_eq_true,decide_eq_true_eq] at this
  have:=List.all_eq_true.1 this.2 s hsm
  unfold seqSmall at this
  simp only [Bool.and_eq_true,decide_eq_true_eq] at this
  omega
 refine cpure_ofW Tryz.xen111 Tryz.func111 rfl Tryz.ntmps111 (by rw [Tryz.results111]) (aw_ok _ ?_)
 simp only [go_sem,simprocAttr]
 refine ⟨fun hneg=>?_,fun hpos=>?_⟩
 ·simp only [bxx] at hneg
  rw [topT_neg hneg]
  unfold showE awS
  simp only [go_sem,simprocAttr]
  exact pureW_zeroE
 ·simp only [bxx] at hpos
  unfold awS
  simp only [go_sem,simprocAttr,look_ly,hs,Option.map_some]
  have hfin:∀ o,topT n s.video.reverse=o→topT n s.video.reverse=o:=fun _ h=>h
  refine awp_loop_f (fun (m:Nat) σ => setS 8 (vint ((m:Int) - 1)) (deadS [9,10,21,22,23,24,25,26,27,28,29,30,31,32,33,34,35,36,37,38,39,40,41,42,43,44,45,46,47,48,49,50,51,52,53,54,55,56,57,58,59,60,61,62,63,64,65,66,67,68,69,70,71,72,73,74] (cleanS σ))) (fun m=>m≤s.video.length∧topT n (s.video.take m).reverse=topT n s.video.reverse) (fun m=>m) s.video.length (weak_self ?_) ⟨Nat.le_refl _,by rw [List.take_length]⟩ ?_
  ·simp only [go_sem,simprocAttr,wrap64 (x:=(s.video.length:Int) - 1) (by omega) (by omega)]<;>simp
  ·rintro m ⟨hm,ht⟩
   refine aw_ok _ ?_
   simp only [go_sem,simprocAttr]
   refine ⟨fun hlt=>?_,fun hge=>?_⟩
   ·simp only [bxx] at hlt
    obtain ⟨k,rfl⟩:∃ k,m=k+1:=⟨m - 1,by omega⟩
    have hkl:k<s.video.length:=by omega
    rw [topT_take hkl] at ht
    have ek:((k+1:Nat):Int) - 1=(k:Int):=by omega
    have hmem:s.video.getD k []∈s.video:=by rw [List.getD_eq_getElem?_getD,List.getElem?_eq_getElem hkl];exact List.getElem_mem hkl
    obtain ⟨t,htt⟩:∃ t,t=s.video.getD k []:=⟨_,rfl⟩
    have hln:∀ d,nth d (s.video.map layC) k = [tclips t,tints (endsT t),tpairs (t.map pairC)]:=fun d=>by rw [lay_nth hkl, ← htt];rfl
    rw [← htt] at ht hmem
    obtain ⟨hvT,hvC⟩:=hvt t hmem
    have h64:=trk_len hvT
    have hpl:∀ c∈t,1≤c.len∧c.len≤2147483647:=fun c hc=>vClip_len (hvC c hc)
    obtain ⟨r,r1,r2,r3,r4⟩:=srch_spec t n hpl (by omega)
    rw [hitT_srch r4 (by omega)] at ht
    have hsr:=cSearch t n r h64 r1 r2 r3
    unfold awS
    simp only [go_sem,simprocAttr,ek,hln]
    refine ⟨⟨by omega,by omega⟩,lcall_lend ?_⟩
    simp only [go_sem,simprocAttr,ends_len]
    refine ⟨_,hsr,rfl,?_⟩
    simp only [go_sem,simprocAttr,ends_len]
    refine ⟨fun h=>by have h2:=of_decide_eq_true h;omega,?_⟩
    refine brW (b:=decide (r<t.length∧(t.getD r default).kind≠0)) ?_ ⟨fun hh=>?_,fun hh=>?_⟩
    ·rw [Bool.eq_iff_iff,Bool.and_eq_true,decide_eq_true_eq,decide_eq_true_eq,bne_iff_ne]
     omega
    ·have hh':=of_decide_eq_true hh
     rw [if_pos hh'] at ht
     have ht2:topT n s.video.reverse=some (t.getD r default,n - totL (t.take r)):=ht.symm
     rw [ht2]
     obtain ⟨hrl,hk0⟩:=hh'
     have hct:t.getD r default∈t:=mem_getD hrl
     have hvc:=hvC _ hct
     have hen:=ends_nth hrl
     have hpn:=pair_nth hrl
     have htt1:=totL_take t r hrl
     have hb1:=totL_bound (t.take r) fun c hc=>hpl c (List.mem_of_mem_take hc)
     have hb2:=totL_bound (t.take (r+1)) fun c hc=>hpl c (List.mem_of_mem_take hc)
     have hl1:(t.take r).length≤64:=by rw [List.length_take];omega
     have hl2:(t.take (r+1)).length≤64:=by rw [List.length_take];omega
     have hn0:totL (t.take r)≤n:=by
      rcases r with _ | r
      ·simp [totL_nil];omega
      ·exact r2 r (by omega)
     have hn1:=r3 r (Nat.le_refl _) hrl
     have hlen:=vClip_len hvc
     have w1:IntKind.i64.wrap (totL (t.take (r+1)) - (t.getD r default).len)=totL (t.take r):=by rw [wrap64 (by omega) (by omega)];omega
     have w2:IntKind.i64.wrap (n - totL (t.take r))=n - totL (t.take r):=wrap64 (by omega) (by omega)
     obtain ⟨va,vb⟩:=clip_srcs hvc
     have hleaf:∀ x:SourceR,(x=(t.getD r default).a∨x=(t.getD r default).b)→x.kind≠0 → ∀ i,I64 i→CPure Tryz.prog 262 [vix p,vsource x,vint i] (vexpr (leafE p G x i)):=fun x hx _ i hi =>
      cLeafF p G x i fun h2=>by
       obtain ⟨q1,q2⟩:=inner_of h hs hmem hct hx h2
       exact hG _ q1 q2 i hi
     have cc:=cClipF p (leafE p G) (t.getD r default) (n - totL (t.take r)) hvc hk0 ⟨by omega,by omega⟩ (cPicF p _ _ _ va ⟨by omega,by omega⟩ (hleaf _ (.inl rfl))) (cPicF p _ _ _ vb ⟨by omega,by omega⟩ (hleaf _ (.inr rfl)))
     unfold showE awS
     simp only [go_sem,simprocAttr]
     refine drawC_of 27 .done rfl (by kernel_rfl) (by kernel_rfl) (by decide) ?_
     simp only [go_sem,simprocAttr,hen,hpn,w1,w2,ends_len]
     refine ⟨⟨by omega,by omega⟩,⟨by omega,by omega⟩,⟨by omega,by omega⟩,⟨by omega,by omega⟩,_,cc,?_⟩
     generalize clipE redX (leafE p G) (t.getD r default) (n - totL (t.take r))=x
     rcases x with ⟨op,media,frame,num,den,param,text,args⟩
     simp only [go_sem,simprocAttr]
     exact ⟨by kernel_rfl,pureW_self rfl rfl⟩
    ·have hh':=of_decide_eq_false hh
     rw [if_neg hh'] at ht
     unfold awS
     simp only [go_sem,simprocAttr]
     refine ⟨k,weak_self ?_,⟨by omega,ht⟩,by omega⟩
     simp only [go_sem,simprocAttr]
     rw [wrap64 (x:=(k:Int) - 1) (by omega) (by omega)]
     simp
   ·simp only [bxx] at hge
    have:m=0:=by omega
    subst this
    simp only [List.take_zero,List.reverse_nil] at ht
    rw [← ht]
    unfold topT showE awS
    simp only [go_sem,simprocAttr]
    exact pureW_zeroE
theorem cFrameF (p:ProjR) (h:FilmOk p):∀ (d:Nat) (name:ByteArray) (n:Int), ¬ Wk p d name→(seqOf p.seqs name).isSome=true→I64 n→CPure Tryz.prog 111 [vix p,vstr name,vint n] (vexpr (filmE redX p d name n))
 | 0,name,n,hw,_,_=>absurd trivial hw
 | d+1,name,n,hw,hs,hn=>by
  cases e:seqOf p.seqs name with
  | none=>rw [e] at hs;cases hs
  | some s =>
   have:=cFrameS p h (filmE redX p d) name n s e hn fun m hm hms i hi=>cFrameF p h d m i (wk_inner hw hm) hms hi
   have e2:filmE redX p (d+1) name n=showE redX (leafE p (filmE redX p d)) (topT n s.video.reverse):=by
    conv=>lhs;unfold filmE
    unfold vidsOf
    rw [e]
    rfl
   rw [e2]
   exact this
open Go.RowKit
set_option maxRecDepth 4000
theorem findS_last {n:ByteArray}:∀ {l:List SequenceR},(l.map SequenceR.name).Nodup→findS l n=seqOf l n
 | [],_=>rfl
 | s::l,hnd=>by
  rw [List.map_cons,List.nodup_cons] at hnd
  have ih:=findS_last (n:=n) hnd.2
  have e1:seqOf (s::l) n=match seqOf l n with | some y=>some y | none=>if n=s.name then some s else none:=by
   unfold seqOf
   conv=>lhs;unfold lastOf
   cases lastOf SequenceR.name n l<;>rfl
  rw [e1, ← ih]
  by_cases hsn:s.name=n
  ·have hno:seqOf l n=none:=lastOf_none.2 fun x hx he=>hnd.1 (by rw [hsn, ← he];exact List.mem_map_of_mem hx)
   rw [ih,hno]
   unfold findS
   rw [List.find?_cons,if_pos hsn.symm,(bq _ _).2 hsn]
  ·have e2:findS (s::l) n=findS l n:=by
    unfold findS
    rw [List.find?_cons,(bqf _ _).2 hsn]
   rw [e2]
   cases findS l n with
   | none=>rw [if_neg (fun h=>hsn h.symm)]
   | some y=>rfl
def frameR (p:ProjR) (name:ByteArray) (n:Int):ExprR×Int :=
 if validP p≠0 then (zeroE,validP p) else
 match seqOf p.seqs name with
 | none=>(zeroE,7)
 | some _=>(filmE redX p 5 name n,0)
theorem findR_eq (p:ProjR) (h:p.fit) (name:ByteArray):findR p name=if validP p≠0 then (zSeq,validP p) else match seqOf p.seqs name with | some s=>(s,0) | none=>(zSeq,7):=by
 unfold findR
 by_cases hv:validP p=0
 ·rw [hv]
  simp only [bne_self_eq_false,Bool.false_eq_true,if_false,ne_eq,not_true_eq_false]
  rw [findS_last (filmOk_of h hv).uniq.2]
  cases seqOf p.seqs name<;>rfl
 ·rw [if_pos hv,if_pos (by simpa using hv)]
end Go.Proofs.YtinobebofhbnnaaGreat
