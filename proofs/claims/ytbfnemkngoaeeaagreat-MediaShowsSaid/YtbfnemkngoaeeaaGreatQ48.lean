/- Proved here: Frames of films, the program: clips and frames; conditions stand in each theorem. -/
import Derived.Test.YtbfnemkngoaeeaaGreatQ47
set_option linter.unusedSimpArgs false
set_option linter.unusedVariables false
set_option linter.unusedSectionVars false
set_option linter.unnecessarySimpa false
namespace Go.Proofs.YtbfnemkngoaeeaaGreat
open Go.RowKit
set_option maxRecDepth 4000
abbrev vpair (c:ClipR):V := .agg [aC c.a.kind,bM c.a.name,aC c.a.pos.num,aC c.a.pos.den,aC c.a.speed.num,aC c.a.speed.den,aS c.a.smooth,aC (aR c.a),aC (atS c.a),aC (mZ c.a),
 aC c.b.kind,bM c.b.name,aC c.b.pos.num,aC c.b.pos.den,aC c.b.speed.num,aC c.b.speed.den,aS c.b.smooth,aC (aR c.b),aC (atS c.b),aC (mZ c.b)]
theorem cClipF (p:ProjR) (F:SourceR→Int→ExprR) (c:ClipR) (k:Int) (hv:bB c=true) (h0:c.kind≠0) (hk : 0≤k∧k<c.len)
  (hA:aM Tryz.prog 220 [vix p,Hx c.a,aC k] (cY (eQ dM F c.a k))) (hB:aM Tryz.prog 220 [vix p,Hx c.b,aC k] (cY (eQ dM F c.b k))) :
  aM Tryz.prog 171 [vix p,qG c,vpair c,aC k] (cY (kJ dM F c k)):=by
 unfold bB cD at hv;rw [Bool.and_eq_true,if_neg h0] at hv;obtain ⟨hb,hv⟩:=hv;unfold nN at hb;simp only [Bool.and_eq_true,decide_eq_true_eq] at hb;refine cR Tryz.X171 Tryz.func171 rfl Tryz.ntmps171 (by rw [Tryz.results171]) (aD _ ?_);simp only [go_sem,Nat.reduceGT,↓reduceIte,Nat.reduceAdd,Nat.reduceSub,Nat.reduceLeDiff,Nat.reduceEqDiff,reduceCtorEq];refine ⟨fun h1=>?_,fun h1=>?_⟩
 ·simp only [beq_iff_eq] at h1;have e:kJ dM F c k=eQ dM F c.a k:=by unfold kJ;rw [if_pos h1]
  rw [e];unfold awS;simp only [go_sem,↓reduceIte,Nat.reduceAdd,Nat.reduceMul,Nat.reduceLeDiff,Nat.reduceEqDiff,reduceCtorEq,Int.reduceLE,Int.reduceToNat,Bool.and_true];refine ⟨by decide,_,hA,?_⟩;generalize eQ dM F c.a k=x;rcases x with ⟨op,media,frame,num,den,param,text,args⟩;simp only [go_sem,↓reduceIte,Nat.reduceAdd,Nat.reduceLeDiff,Nat.reduceEqDiff];exact aU rfl rfl
 ·simp only [ne_eq,beq_eq_false_iff_ne] at h1;rw [if_neg h1] at hv;unfold awS;simp only [go_sem,↓reduceIte];refine ⟨fun h5=>?_,fun h5=>?_⟩
  ·simp only [beq_iff_eq] at h5;have e:kJ dM F c k = .mk 5 ⟨#[]⟩ 0 0 0 0 c.text [eQ dM F c.a k]:=by unfold kJ;rw [if_neg h1,if_pos h5]
   rw [e];unfold awS;simp only [go_sem];refine aK 10 .done rfl (by kernel_rfl) (by kernel_rfl) (by decide) ?_;simp only [go_sem,↓reduceIte,Nat.reduceAdd,Nat.reduceMul,Nat.reduceLeDiff,Nat.reduceEqDiff,reduceCtorEq,Int.reduceLE,Int.reduceToNat,Bool.and_true];refine ⟨by decide,_,hA,?_⟩;generalize eQ dM F c.a k=x;rcases x with ⟨op,media,frame,num,den,param,text,args⟩;simp only [go_sem,Nat.reduceGT,Nat.reducePow,Nat.reduceLT,↓reduceIte,Nat.reduceAdd,Nat.reduceMul,Nat.reduceLeDiff,Nat.reduceEqDiff,reduceCtorEq,Bool.and_true];refine ⟨by kernel_rfl,aU ?_ rfl⟩;simp only [go_sem,↓reduceIte];simp only [vex,pF,List.map_cons,List.map_nil,ExprR.c,jV];rfl
  ·simp only [ne_eq,beq_eq_false_iff_ne] at h5;rw [show (if c.kind=5 then (c.b.isZ&&dX c&&c.param==0&&kL c.text) else false)=false from if_neg h5] at hv;unfold awS;simp only [go_sem,↓reduceIte];refine ⟨fun h4=>?_,fun h4=>?_⟩
   ·simp only [beq_iff_eq] at h4;unfold awS;simp only [go_sem,↓reduceIte,Nat.reduceAdd,Nat.reduceLeDiff,Nat.reduceEqDiff,Bool.and_true];refine ⟨fun hn=>?_,fun hn=>?_⟩
    ·simp only [bne_iff_ne,ne_eq] at hn;omega
    ·unfold awS;have e:kJ dM F c k=uG 4 ⟨#[]⟩ 0 0 0 c.param ⟨#[]⟩ [eQ dM F c.a k,eQ dM F c.b k]:=by
      unfold kJ;rw [if_neg h1,if_neg h5,if_pos h4];rfl
     rw [e];have hred:=tD 4 ⟨#[]⟩ 0 0 0 c.param ⟨#[]⟩ (eQ dM F c.a k) (eQ dM F c.b k);simp only [go_sem];refine aK 13 .done rfl (by kernel_rfl) (by kernel_rfl) (by decide) ?_;simp only [go_sem,↓reduceIte,Nat.reduceAdd,Nat.reduceMul,Nat.reduceLeDiff,Nat.reduceEqDiff,reduceCtorEq,Int.reduceLE,Int.reduceToNat,Bool.and_true];refine ⟨by decide,_,hA,?_⟩;generalize eQ dM F c.a k=x at hred ⊢;rcases x with ⟨op,media,frame,num,den,param,text,args⟩;simp only [go_sem,↓reduceIte,Nat.reduceAdd,Nat.reduceMul,Nat.reduceLeDiff,Nat.reduceEqDiff,reduceCtorEq,Int.reduceLE,Int.reduceToNat,Bool.and_true];refine ⟨by decide,_,hB,?_⟩;generalize eQ dM F c.b k=y at hred ⊢;rcases y with ⟨op',media',frame',num',den',param',text',args'⟩;simp only [go_sem,Nat.reducePow,Nat.reduceLT,↓reduceIte,Nat.reduceAdd,Nat.reduceMul,Nat.reduceLeDiff,Nat.reduceEqDiff,Bool.and_true,Bool.and_false];refine ⟨by kernel_rfl,?_⟩;simp only [vex,pF,List.map_cons,List.map_nil,ExprR.c,jV] at hred;refine jK ?_;simp only [go_sem,↓reduceIte,Nat.reduceAdd,Nat.reduceEqDiff,Bool.and_true];refine ⟨_,hred,?_⟩;generalize uG _ _ _ _ _ _ _ _=z;rcases z with ⟨op3,media3,frame3,aJv,den3,param3,text3,args3⟩;simp only [go_sem,↓reduceIte,Nat.reduceAdd,Nat.reduceLeDiff,Bool.and_true];exact aU rfl rfl
   ·simp only [ne_eq,beq_eq_false_iff_ne] at h4;unfold awS;simp only [go_sem,↓reduceIte];refine ⟨fun h2=>?_,fun h2=>?_⟩
    ·simp only [beq_iff_eq] at h2;unfold awS;simp only [go_sem,↓reduceIte,Nat.reduceAdd,Nat.reduceLeDiff,Nat.reduceEqDiff,Bool.and_true];refine ⟨fun hn=>?_,fun hn=>?_⟩
     ·unfold awS;have hs:=hv;rw [if_pos h2] at hs;unfold dW at hs;simp only [Bool.and_eq_true,decide_eq_true_eq,beq_iff_eq] at hs;obtain ⟨nn,hnn⟩:∃ nn:Nat,c.off+k+1=nn:=⟨(c.off+k+1).toNat,by omega⟩
      obtain ⟨dd,hdd⟩:∃ dd:Nat,c.total+1=dd:=⟨(c.total+1).toNat,by omega⟩
      have e:kJ dM F c k=uG 2 ⟨#[]⟩ 0 ((nn / Nat.gcd nn dd:Nat):Int) ((dd / Nat.gcd nn dd:Nat):Int) c.param ⟨#[]⟩ [eQ dM F c.a k,eQ dM F c.b k]:=by
       unfold kJ jB Vm;rw [if_neg h1,if_neg h5,if_neg h4,hnn,hdd,Int.natAbs_natCast,Int.natAbs_natCast,h2];rfl
      rw [e];have hred:=tD 2 ⟨#[]⟩ 0 ((nn / Nat.gcd nn dd:Nat):Int) ((dd / Nat.gcd nn dd:Nat):Int) c.param ⟨#[]⟩ (eQ dM F c.a k) (eQ dM F c.b k);simp only [go_sem,↓reduceIte,Nat.reduceEqDiff,Bool.and_true,wrap64 (x:=c.off+k) (by omega) (by omega),hnn,hdd,fG (n:=nn) (by omega),fG (n:=dd) (by omega)];refine ⟨_,cOf nn dd (by omega) (by omega) (by omega),?_⟩;simp only [go_sem,↓reduceIte,Nat.reduceAdd,Nat.reduceLeDiff,Bool.and_true];refine aK 8 .done rfl (by kernel_rfl) (by kernel_rfl) (by decide) ?_;simp only [go_sem,↓reduceIte,Nat.reduceAdd,Nat.reduceLeDiff,Nat.reduceEqDiff,Bool.and_true];refine ⟨by kernel_rfl,?_⟩;refine aK 13 .done rfl (by kernel_rfl) (by kernel_rfl) (by decide) ?_;simp only [go_sem,↓reduceIte,Nat.reduceAdd,Nat.reduceMul,Nat.reduceLeDiff,Nat.reduceEqDiff,reduceCtorEq,Int.reduceLE,Int.reduceToNat,Bool.and_true];refine ⟨by decide,_,hA,?_⟩;generalize eQ dM F c.a k=x at hred ⊢;rcases x with ⟨op,media,frame,num,den,param,text,args⟩;simp only [go_sem,↓reduceIte,Nat.reduceAdd,Nat.reduceMul,Nat.reduceLeDiff,Nat.reduceEqDiff,reduceCtorEq,Int.reduceLE,Int.reduceToNat,Bool.and_true];refine ⟨by decide,_,hB,?_⟩;generalize eQ dM F c.b k=y at hred ⊢;rcases y with ⟨op',media',frame',num',den',param',text',args'⟩;simp only [go_sem,Nat.reducePow,Nat.reduceLT,↓reduceIte,Nat.reduceAdd,Nat.reduceMul,Nat.reduceLeDiff,Nat.reduceEqDiff,Bool.and_true,Bool.and_false];refine ⟨by kernel_rfl,?_⟩;simp only [vex,pF,List.map_cons,List.map_nil,ExprR.c,jV] at hred;refine jK ?_;simp only [go_sem,↓reduceIte,Nat.reduceAdd,Nat.reduceEqDiff,Bool.and_true];refine ⟨_,hred,?_⟩;generalize uG _ _ _ _ _ _ _ _=z;rcases z with ⟨op3,media3,frame3,aJv,den3,param3,text3,args3⟩;simp only [go_sem,↓reduceIte,Nat.reduceAdd,Nat.reduceLeDiff,Bool.and_true];exact aU rfl rfl
     ·simp at hn;omega
    ·simp only [ne_eq,beq_eq_false_iff_ne] at h2;unfold awS;simp only [go_sem,↓reduceIte];refine ⟨fun h3=>?_,fun h3=>?_⟩
     ·simp only [beq_iff_eq] at h3;unfold awS;simp only [go_sem,↓reduceIte,Nat.reduceAdd,Nat.reduceLeDiff,Nat.reduceEqDiff,Bool.and_true];refine ⟨fun hn=>?_,fun hn=>?_⟩
      ·unfold awS;have hs:=hv;rw [if_neg h2] at hs;rw [if_pos h3] at hs;unfold dW at hs;simp only [Bool.and_eq_true,decide_eq_true_eq] at hs;obtain ⟨nn,hnn⟩:∃ nn:Nat,c.off+k+1=nn:=⟨(c.off+k+1).toNat,by omega⟩
       obtain ⟨dd,hdd⟩:∃ dd:Nat,c.total+1=dd:=⟨(c.total+1).toNat,by omega⟩
       have e:kJ dM F c k=uG 3 ⟨#[]⟩ 0 ((nn / Nat.gcd nn dd:Nat):Int) ((dd / Nat.gcd nn dd:Nat):Int) c.param ⟨#[]⟩ [eQ dM F c.a k,eQ dM F c.b k]:=by
        unfold kJ jB Vm;rw [if_neg h1,if_neg h5,if_neg h4,hnn,hdd,Int.natAbs_natCast,Int.natAbs_natCast,h3];rfl
       rw [e];have hred:=tD 3 ⟨#[]⟩ 0 ((nn / Nat.gcd nn dd:Nat):Int) ((dd / Nat.gcd nn dd:Nat):Int) c.param ⟨#[]⟩ (eQ dM F c.a k) (eQ dM F c.b k);simp only [go_sem,↓reduceIte,Nat.reduceEqDiff,Bool.and_true,wrap64 (x:=c.off+k) (by omega) (by omega),hnn,hdd,fG (n:=nn) (by omega),fG (n:=dd) (by omega)];refine ⟨_,cOf nn dd (by omega) (by omega) (by omega),?_⟩;simp only [go_sem,↓reduceIte,Nat.reduceAdd,Nat.reduceLeDiff,Bool.and_true];refine aK 8 .done rfl (by kernel_rfl) (by kernel_rfl) (by decide) ?_;simp only [go_sem,↓reduceIte,Nat.reduceAdd,Nat.reduceLeDiff,Nat.reduceEqDiff,Bool.and_true];refine ⟨by kernel_rfl,?_⟩;refine aK 13 .done rfl (by kernel_rfl) (by kernel_rfl) (by decide) ?_;simp only [go_sem,↓reduceIte,Nat.reduceAdd,Nat.reduceMul,Nat.reduceLeDiff,Nat.reduceEqDiff,reduceCtorEq,Int.reduceLE,Int.reduceToNat,Bool.and_true];refine ⟨by decide,_,hA,?_⟩;generalize eQ dM F c.a k=x at hred ⊢;rcases x with ⟨op,media,frame,num,den,param,text,args⟩;simp only [go_sem,↓reduceIte,Nat.reduceAdd,Nat.reduceMul,Nat.reduceLeDiff,Nat.reduceEqDiff,reduceCtorEq,Int.reduceLE,Int.reduceToNat,Bool.and_true];refine ⟨by decide,_,hB,?_⟩;generalize eQ dM F c.b k=y at hred ⊢;rcases y with ⟨op',media',frame',num',den',param',text',args'⟩;simp only [go_sem,Nat.reducePow,Nat.reduceLT,↓reduceIte,Nat.reduceAdd,Nat.reduceMul,Nat.reduceLeDiff,Nat.reduceEqDiff,Bool.and_true,Bool.and_false];refine ⟨by kernel_rfl,?_⟩;simp only [vex,pF,List.map_cons,List.map_nil,ExprR.c,jV] at hred;refine jK ?_;simp only [go_sem,↓reduceIte,Nat.reduceAdd,Nat.reduceEqDiff,Bool.and_true];refine ⟨_,hred,?_⟩;generalize uG _ _ _ _ _ _ _ _=z;rcases z with ⟨op3,media3,frame3,aJv,den3,param3,text3,args3⟩;simp only [go_sem,↓reduceIte,Nat.reduceAdd,Nat.reduceLeDiff,Bool.and_true];exact aU rfl rfl
      ·simp at hn;omega
     ·simp only [ne_eq,beq_eq_false_iff_ne] at h3;rw [if_neg h2,if_neg h3,if_neg h4] at hv;cases hv
theorem lay_nth {v:List (List ClipR)} {k:Nat} (h:k<v.length) (d:List T):nth d (v.map Ep) k=Ep (v.getD k []):=by
 unfold nth;rw [List.getElem?_map,List.getElem?_eq_getElem h,List.getD_eq_getElem?_getD,List.getElem?_eq_getElem h];rfl
theorem aTk {t:List ClipR} {k:Nat} (h:k<t.length) (d:List T):nth d (t.map zQ) k=zQ (t.getD k default):=by
 unfold nth;rw [List.getElem?_map,List.getElem?_eq_getElem h,aJ h];rfl
theorem Wn:∀ (t:List ClipR) (n:Int),(∀ c∈t,1≤c.len∧c.len≤2147483647)→0≤n → ∃ r,r≤t.length∧(∀ x,x<r→bU (t.take (x+1))≤n)∧(∀ x,r≤x→x<t.length→n<bU (t.take (x+1))) ∧
  ∀ i,gY t i n=if r<t.length then (((i+r:Nat):Int),n - bU (t.take r),true) else (0,0,false)
 | [],n,_,_=>⟨0,Nat.le_refl _,fun x h=>absurd h (Nat.not_lt_zero _),fun x _ h=>absurd h (Nat.not_lt_zero _),fun i=>rfl⟩
 | c::t,n,hp,hn=>by
  have hc:=hp c (by simp)
  by_cases h:n<c.len
  ·refine ⟨0,Nat.zero_le _,fun x h=>absurd h (Nat.not_lt_zero _),fun x _ hx=>?_,fun i=>?_⟩
   ·have:=nH (t.take x) fun d hd=>hp d (List.mem_cons_of_mem _ (List.mem_of_mem_take hd))
    rw [List.take_succ_cons,Bd];omega
   ·rw [rE,if_pos h,if_pos (by simp)];simp [Fg]
  ·obtain ⟨r,h1,h2,h3,h4⟩:=Wn t (n - c.len) (fun d hd=>hp d (by simp [hd])) (by omega);refine ⟨r+1,by simpa using h1,fun x hx=>?_,fun x hx hx2=>?_,fun i=>?_⟩
   ·rw [List.take_succ_cons,Bd];rcases x with _ | x
    ·simp [Fg];omega
    ·have:=h2 x (by omega);omega
   ·rw [List.take_succ_cons,Bd];rcases x with _ | x
    ·omega
    ·have:=h3 x (by omega) (by simpa using hx2);omega
   ·rw [rE,if_neg h,h4 (i+1)]
    by_cases hr:r<t.length
    ·rw [if_pos hr,if_pos (by simpa using hr),List.take_succ_cons,Bd];refine Prod.ext ?_ (Prod.ext ?_ rfl)
     ·simp only;omega
     ·simp only;omega
    ·rw [if_neg hr,if_neg (by simpa using hr)]
theorem aQy {t:List ClipR} {n:Int} {r:Nat} (h:∀ i,gY t i n=if r<t.length then (((i+r:Nat):Int),n - bU (t.take r),true) else (0,0,false)) (hn : 0≤n) :
  Sk t n=if r<t.length∧(t.getD r default).kind≠0 then some (t.getD r default,n - bU (t.take r)) else none:=by
 unfold Sk;rw [h 0]
 by_cases hr:r<t.length
 ·rw [if_pos hr];simp only [Nat.zero_add,Int.toNat_natCast,hn,hr,true_and]
 ·rw [if_neg hr,if_neg (by simp),if_neg (fun h=>hr h.1)]
open Go.RowKit
set_option maxRecDepth 4000
@[go_sem] theorem pairC_l (c:ClipR):(zQ c).length=20:=rfl
@[go_sem] theorem pairC_t (c:ClipR):(zQ c).map V.t = [aC c.a.kind,bM c.a.name,aC c.a.pos.num,aC c.a.pos.den,aC c.a.speed.num,aC c.a.speed.den,aS c.a.smooth,aC (aR c.a),aC (atS c.a),aC (mZ c.a),
 aC c.b.kind,bM c.b.name,aC c.b.pos.num,aC c.b.pos.den,aC c.b.speed.num,aC c.b.speed.den,aS c.b.smooth,aC (aR c.b),aC (atS c.b),aC (mZ c.b)]:=rfl
theorem aCz {n:Int} (hn:n<0):∀ l:List (List ClipR),sP n l=none
 | []=>rfl
 | t::l=>by
  unfold sP Sk;rw [if_neg (by omega)];exact aCz hn l
theorem aPa {v:List (List ClipR)} {m:Nat} (h:m<v.length) (n:Int):sP n (v.take (m+1)).reverse=match Sk (v.getD m []) n with | some r=>some r | none=>sP n (v.take m).reverse:=by
 have e:v.take (m+1)=v.take m ++ [v.getD m []]:=by
  rw [List.take_add_one,List.getElem?_eq_getElem h,List.getD_eq_getElem?_getD,List.getElem?_eq_getElem h];rfl
 rw [e,List.reverse_append];rfl
theorem cFrameS (p:ProjR) (h:FilmOk p) (G:ByteArray→Int→ExprR) (name:ByteArray) (n:Int) (s:SequenceR) (hs:bL p.seqs name=some s) (hn:I64 n)
  (hG:∀ m∈eH p name,(bL p.seqs m).isSome=true → ∀ i,I64 i→aM Tryz.prog 95 [vix p,bM m,aC i] (cY (G m i))) :
  aM Tryz.prog 95 [vix p,bM name,aC n] (cY (zA dM (kH p G) (sP n s.video.reverse))):=by
 have hsm:s∈p.seqs:=(jY hs).1;have hvt:∀ t∈s.video,bC t=true ∧ ∀ c∈t,bB c=true:=fun t ht=>wN h name t (by unfold pC;rw [hs];exact ht)
 obtain ⟨n1,n2⟩:=hn;have hvl:s.video.length≤8:=by
  have:=h.small;unfold dC at this;simp only [Bool.and_eq_true,decide_eq_true_eq] at this;have:=List.all_eq_true.1 this.2 s hsm;unfold dQ at this;simp only [Bool.and_eq_true,decide_eq_true_eq] at this;omega
 refine cR Tryz.X95 Tryz.func95 rfl Tryz.ntmps95 (by rw [Tryz.results95]) (aD _ ?_);simp only [go_sem,simprocAttr];refine ⟨fun hneg=>?_,fun hpos=>?_⟩
 ·simp only [bxx] at hneg;rw [aCz hneg];unfold zA awS;simp only [go_sem,simprocAttr];exact kT
 ·simp only [bxx] at hpos;unfold awS;simp only [go_sem,simprocAttr,look_ly,hs,Option.map_some];have hfin:∀ o,sP n s.video.reverse=o→sP n s.video.reverse=o:=fun _ h=>h
  refine aF (fun (m:Nat) σ => cJ 8 (aC ((m:Int) - 1)) (bN [9,10,21,22,23,24,25,26,27,28,29,30,31,32,33,34,35,36,37,38,39,40,41,42,43,44,45,46,47,48,49,50,51,52,53,54,55,56,57,58,59,60,61,62,63,64,65,66,67,68,69,70,71,72,73,74] (bK σ))) (fun m=>m≤s.video.length∧sP n (s.video.take m).reverse=sP n s.video.reverse) (fun m=>m) s.video.length (aB ?_) ⟨Nat.le_refl _,by rw [List.take_length]⟩ ?_
  ·simp only [go_sem,simprocAttr,wrap64 (x:=(s.video.length:Int) - 1) (by omega) (by omega)]<;>simp
  ·rintro m ⟨hm,ht⟩;refine aD _ ?_;simp only [go_sem,simprocAttr];refine ⟨fun hlt=>?_,fun hge=>?_⟩
   ·simp only [bxx] at hlt;obtain ⟨k,rfl⟩:∃ k,m=k+1:=⟨m - 1,by omega⟩
    have hkl:k<s.video.length:=by omega
    rw [aPa hkl] at ht;have ek:((k+1:Nat):Int) - 1=(k:Int):=by omega
    have hmem:s.video.getD k []∈s.video:=by rw [List.getD_eq_getElem?_getD,List.getElem?_eq_getElem hkl];exact List.getElem_mem hkl
    obtain ⟨t,htt⟩:∃ t,t=s.video.getD k []:=⟨_,rfl⟩
    have hln:∀ d,nth d (s.video.map Ep) k = [eD t,bY (vA t),aJ1 (t.map zQ)]:=fun d=>by rw [lay_nth hkl, ← htt];rfl
    rw [← htt] at ht hmem;obtain ⟨hvT,hvC⟩:=hvt t hmem;have h64:=Nb hvT;have hpl:∀ c∈t,1≤c.len∧c.len≤2147483647:=fun c hc=>bZ (hvC c hc)
    obtain ⟨r,r1,r2,r3,r4⟩:=Wn t n hpl (by omega);rw [aQy r4 (by omega)] at ht;have hsr:=cSearch t n r h64 r1 r2 r3;unfold awS;simp only [go_sem,simprocAttr,ek,hln];refine ⟨⟨by omega,by omega⟩,rC ?_⟩;simp only [go_sem,simprocAttr,Hk];refine ⟨_,hsr,rfl,?_⟩;simp only [go_sem,simprocAttr,Hk];refine ⟨fun h=>by have h2:=of_decide_eq_true h;omega,?_⟩;refine brW (b:=decide (r<t.length∧(t.getD r default).kind≠0)) ?_ ⟨fun hh=>?_,fun hh=>?_⟩
    ·rw [Bool.eq_iff_iff,Bool.and_eq_true,decide_eq_true_eq,decide_eq_true_eq,bne_iff_ne];omega
    ·have hh':=of_decide_eq_true hh;rw [if_pos hh'] at ht;have ht2:sP n s.video.reverse=some (t.getD r default,n - bU (t.take r)):=ht.symm;rw [ht2];obtain ⟨hrl,hk0⟩:=hh';have hct:t.getD r default∈t:=aW hrl;have hvc:=hvC _ hct;have hen:=aGa hrl;have hpn:=aTk hrl;have htt1:=qR t r hrl;have hb1:=nH (t.take r) fun c hc=>hpl c (List.mem_of_mem_take hc)
     have hb2:=nH (t.take (r+1)) fun c hc=>hpl c (List.mem_of_mem_take hc)
     have hl1:(t.take r).length≤64:=by rw [List.length_take];omega
     have hl2:(t.take (r+1)).length≤64:=by rw [List.length_take];omega
     have hn0:bU (t.take r)≤n:=by
      rcases r with _ | r
      ·simp [Fg];omega
      ·exact r2 r (by omega)
     have hn1:=r3 r (Nat.le_refl _) hrl;have hlen:=bZ hvc;have w1:IntKind.i64.wrap (bU (t.take (r+1)) - (t.getD r default).len)=bU (t.take r):=by rw [wrap64 (by omega) (by omega)];omega
     have w2:IntKind.i64.wrap (n - bU (t.take r))=n - bU (t.take r):=wrap64 (by omega) (by omega);obtain ⟨va,vb⟩:=rF hvc;have hleaf:∀ x:SourceR,(x=(t.getD r default).a∨x=(t.getD r default).b)→x.kind≠0 → ∀ i,I64 i→aM Tryz.prog 249 [vix p,uL x,aC i] (cY (kH p G x i)):=fun x hx _ i hi =>
      cLeafF p G x i fun h2=>by
       obtain ⟨q1,q2⟩:=aUy h hs hmem hct hx h2;exact hG _ q1 q2 i hi
     have cc:=cClipF p (kH p G) (t.getD r default) (n - bU (t.take r)) hvc hk0 ⟨by omega,by omega⟩ (cPicF p _ _ _ va ⟨by omega,by omega⟩ (hleaf _ (.inl rfl))) (cPicF p _ _ _ vb ⟨by omega,by omega⟩ (hleaf _ (.inr rfl)));unfold zA awS;simp only [go_sem,simprocAttr];refine aK 27 .done rfl (by kernel_rfl) (by kernel_rfl) (by decide) ?_;simp only [go_sem,simprocAttr,hen,hpn,w1,w2,Hk];refine ⟨⟨by omega,by omega⟩,⟨by omega,by omega⟩,⟨by omega,by omega⟩,⟨by omega,by omega⟩,_,cc,?_⟩;generalize kJ dM (kH p G) (t.getD r default) (n - bU (t.take r))=x;rcases x with ⟨op,media,frame,num,den,param,text,args⟩;simp only [go_sem,simprocAttr];exact ⟨by kernel_rfl,aU rfl rfl⟩
    ·have hh':=of_decide_eq_false hh;rw [if_neg hh'] at ht;unfold awS;simp only [go_sem,simprocAttr];refine ⟨k,aB ?_,⟨by omega,ht⟩,by omega⟩;simp only [go_sem,simprocAttr];rw [wrap64 (x:=(k:Int) - 1) (by omega) (by omega)];simp
   ·simp only [bxx] at hge;have:m=0:=by omega
    subst this;simp only [List.take_zero,List.reverse_nil] at ht;rw [← ht];unfold sP zA awS;simp only [go_sem,simprocAttr];exact kT
theorem aNj (p:ProjR) (h:FilmOk p):∀ (d:Nat) (name:ByteArray) (n:Int), ¬ Wk p d name→(bL p.seqs name).isSome=true→I64 n→aM Tryz.prog 95 [vix p,bM name,aC n] (cY (fJ dM p d name n))
 | 0,name,n,hw,_,_=>absurd trivial hw
 | d+1,name,n,hw,hs,hn=>by
  cases e:bL p.seqs name with
  | none=>rw [e] at hs;cases hs
  | some s =>
   have:=cFrameS p h (fJ dM p d) name n s e hn fun m hm hms i hi=>aNj p h d m i (Nu hw hm) hms hi
   have e2:fJ dM p (d+1) name n=zA dM (kH p (fJ dM p d)) (sP n s.video.reverse):=by
    conv=>lhs;unfold fJ
    unfold pC;rw [e];rfl
   rw [e2];exact this
open Go.RowKit
set_option maxRecDepth 4000
theorem Sv {n:ByteArray}:∀ {l:List SequenceR},(l.map SequenceR.name).Nodup→yL l n=bL l n
 | [],_=>rfl
 | s::l,hnd=>by
  rw [List.map_cons,List.nodup_cons] at hnd;have ih:=Sv (n:=n) hnd.2;have e1:bL (s::l) n=match bL l n with | some y=>some y | none=>if n=s.name then some s else none:=by
   unfold bL
   conv=>lhs;unfold eU
   cases eU SequenceR.name n l<;>rfl
  rw [e1, ← ih]
  by_cases hsn:s.name=n
  ·have hno:bL l n=none:=gW.2 fun x hx he=>hnd.1 (by rw [hsn, ← he];exact List.mem_map_of_mem hx)
   rw [ih,hno];unfold yL;rw [List.find?_cons,if_pos hsn.symm,(bq _ _).2 hsn]
  ·have e2:yL (s::l) n=yL l n:=by
    unfold yL;rw [List.find?_cons,(bqf _ _).2 hsn]
   rw [e2];cases yL l n with
   | none=>rw [if_neg (fun h=>hsn h.symm)]
   | some y=>rfl
def gQ (p:ProjR) (name:ByteArray) (n:Int):ExprR×Int :=
 if bT p≠0 then (zeroE,bT p) else
 match bL p.seqs name with
 | none=>(zeroE,7)
 | some _=>(fJ dM p 5 name n,0)
theorem aFx (p:ProjR) (h:p.fit) (name:ByteArray):Yu p name=if bT p≠0 then (aNy,bT p) else match bL p.seqs name with | some s=>(s,0) | none=>(aNy,7):=by
 unfold Yu
 by_cases hv:bT p=0
 ·rw [hv];simp only [bne_self_eq_false,Bool.false_eq_true,if_false,ne_eq,not_true_eq_false];rw [Sv (nY h hv).uniq.2];cases bL p.seqs name<;>rfl
 ·rw [if_pos hv,if_pos (by simpa using hv)]
theorem Xg (k:Int) {h:Heap}:vW (.tup [cY zeroE,aC k]) (.tup [.agg [aC 0,bM ⟨#[]⟩,aC 0,aC 0,aC 0,aC 0,bM ⟨#[]⟩, .t (.lit (.slice none 0 0))],aC k]) h :=
 rR (r' := .tup [.agg [aC 0,bM ⟨#[]⟩,aC 0,aC 0,aC 0,aC 0,bM ⟨#[]⟩, .t (.lit (.slice none 0 0))],aC k]) rfl rfl (tF (by exact ⟨jZ (by exact ⟨cC,cC,cC,cC,cC,cC,cC,eN,trivial⟩),cC,trivial⟩))
theorem aNk (p:ProjR) (h:p.fit) (name:ByteArray) (n:Int) (hn:I64 n):aM Tryz.prog 33 [rN p,bM name,aC n] (.tup [cY (gQ p name n).1,aC (gQ p name n).2]):=by
 have hf:=aWm p name h;rw [aFx p h name] at hf;refine cR Tryz.X33 Tryz.func33 rfl Tryz.ntmps33 (by rw [Tryz.results33]) (aD _ ?_);simp only [go_sem,simprocAttr,dtf];refine ⟨_,hf,?_⟩
 by_cases hv:bT p=0
 ·have hok:=nY h hv;cases hs:bL p.seqs name with
  | none =>
   have e:gQ p name n=(zeroE,7):=by unfold gQ;rw [hv,hs];rfl
   rw [if_neg (by rw [hv];decide)];simp only [hs];simp only [go_sem,simprocAttr,dtf];rw [e];exact ⟨Ra,Xg 7⟩
  | some s =>
   have e:gQ p name n=(fJ dM p 5 name n,0):=by unfold gQ;rw [hv,hs];rfl
   have hw:=hok.wk s (jY hs).1;rw [(jY hs).2] at hw;have hfr:=aNj p hok 5 name n hw (by rw [hs];rfl) hn;rw [if_neg (by rw [hv];decide)];simp only [hs];simp only [go_sem,simprocAttr,dtf];refine kU (aRh p hok) rfl ?_;simp only [go_sem,simprocAttr,dtf];refine ⟨_,hfr,?_⟩;rw [e];generalize fJ dM p 5 name n=x;rcases x with ⟨op,media,frame,num,den,param,text,args⟩;simp only [go_sem,simprocAttr,dtf];exact ⟨Ra,aU rfl rfl⟩
 ·have e:gQ p name n=(zeroE,bT p):=by unfold gQ;rw [if_pos hv]
  rw [if_pos hv];simp only [go_sem,simprocAttr,dtf];refine ⟨fun h1=>?_,fun h1=>?_⟩
  ·unfold awS;simp only [go_sem,simprocAttr,dtf];rw [e];exact ⟨Ra,Xg _⟩
  ·exact absurd h1 (by simpa using hv)
end Go.Proofs.YtbfnemkngoaeeaaGreat
