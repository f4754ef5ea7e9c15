/- Proved here: Expressions in which media have other names, in plain Lean; conditions stand in each theorem. -/
import Derived.Test.YtbfnemkngoaeeaaGreatQ19
import Derived.Test.YtbfnemkngoaeeaaGreatQ15
import Derived.Test.YtbfnemkngoaeeaaGreatQ43
set_option linter.unusedSimpArgs false
set_option linter.unusedVariables false
set_option linter.unusedSectionVars false
set_option linter.unnecessarySimpa false
namespace Go.Proofs.YtbfnemkngoaeeaaGreat
open Go.RowKit
set_option maxRecDepth 4000
mutual
def renE (t:ByteArray→ByteArray):ExprR→ExprR
 | .mk op media frame num den param text args => .mk op (if op=1 then t media else media) frame num den param text (Xb t args)
def Xb (t:ByteArray→ByteArray):List ExprR→List ExprR
 | []=>[]
 | e::es=>renE t e::Xb t es
end
mutual
def NmE (P:ByteArray→Prop):ExprR→Prop
 | .mk op media _ _ _ _ _ args=>(op=1→P media)∧aX9 P args
def aX9 (P:ByteArray→Prop):List ExprR→Prop
 | []=>True
 | e::es=>NmE P e∧aX9 P es
end
theorem fU (t:ByteArray→ByteArray) (op:Int) (media:ByteArray) (frame num den param:Int) (text:ByteArray) (args:List ExprR):renE t (.mk op media frame num den param text args) = .mk op (if op=1 then t media else media) frame num den param text (Xb t args):=by
 conv=>lhs;unfold renE
theorem dR (t:ByteArray→ByteArray):∀ l:List ExprR,Xb t l=l.map (renE t)
 | []=>by simp only [Xb,List.map_nil]
 | e::es=>by simp only [Xb,List.map_cons,dR t es]
theorem aHq {P:ByteArray→Prop}:∀ {l:List ExprR},aX9 P l ↔ ∀ e∈l,NmE P e
 | []=>by simp only [aX9,List.not_mem_nil,false_implies,implies_true]
 | e::es=>by simp only [aX9,List.mem_cons,forall_eq_or_imp,aHq (l:=es)]
theorem sK {P:ByteArray→Prop} {op:Int} {media:ByteArray} {frame num den param:Int} {text:ByteArray} {args:List ExprR}:NmE P (.mk op media frame num den param text args) ↔ ((op=1→P media) ∧ ∀ e∈args,NmE P e):=by
 rw [← aHq]
 conv=>lhs;unfold NmE
theorem aN1 {Q:ExprR→Prop} (h:∀ op media frame num den param text args,(∀ e∈args,Q e)→Q (.mk op media frame num den param text args)):∀ (m:Nat) (e:ExprR),SizeOf.sizeOf e<m→Q e
 | 0,e,hm=>absurd hm (Nat.not_lt_zero _)
 | m+1, .mk op media frame num den param text args,hm=>h op media frame num den param text args fun e he=>aN1 h m e (by have:=Ew he op media frame num den param text;omega)
theorem Md {Q:ExprR→Prop} (h:∀ op media frame num den param text args,(∀ e∈args,Q e)→Q (.mk op media frame num den param text args)) (e:ExprR):Q e:=aN1 h _ e (Nat.lt_succ_self _)
theorem aQ1 {P:ByteArray→Prop} {t u:ByteArray→ByteArray} (h:∀ n,P n→t n=u n) (e:ExprR):NmE P e→renE t e=renE u e:=by
 refine Md (Q:=fun e=>NmE P e→renE t e=renE u e) ?_ e;intro op media frame num den param text args ih hn;obtain ⟨h1,h2⟩:=sK.1 hn;rw [fU,fU,dR,dR,List.map_congr_left fun e he=>ih e he (h2 e he)];congr 1;split
 ·rename_i ho;exact h _ (h1 ho)
 ·rfl
theorem aMd {P Q:ByteArray→Prop} (h:∀ n,P n→Q n) (e:ExprR):NmE P e→NmE Q e:=by
 refine Md (Q:=fun e=>NmE P e→NmE Q e) ?_ e;intro op media frame num den param text args ih hn;obtain ⟨h1,h2⟩:=sK.1 hn;exact sK.2 ⟨fun ho=>h _ (h1 ho),fun e he=>ih e he (h2 e he)⟩
theorem ren_id {P:ByteArray→Prop} {t:ByteArray→ByteArray} (h:∀ n,t n=n) (e:ExprR):renE t e=e:=by
 refine Md (Q:=fun e=>renE t e=e) ?_ e;intro op media frame num den param text args ih;rw [fU,dR,show args.map (renE t)=args from by
  conv=>rhs;rw [← List.map_id args]
  exact List.map_congr_left fun e he=>ih e he]
 congr 1;split
 ·exact h _
 ·rfl
theorem aTa (t u:ByteArray→ByteArray) (e:ExprR):renE t (renE u e)=renE (fun n=>t (u n)) e:=by
 refine Md (Q:=fun e=>renE t (renE u e)=renE (fun n=>t (u n)) e) ?_ e;intro op media frame num den param text args ih;rw [fU,fU,fU,dR,dR,dR,List.map_map,show args.map (renE t ∘ renE u)=args.map (renE fun n=>t (u n)) from List.map_congr_left fun e he=>ih e he];congr 1
 by_cases ho:op=1
 ·rw [if_pos ho,if_pos ho,if_pos ho]
 ·rw [if_neg ho,if_neg ho,if_neg ho]
theorem Nc (op:Int) (media:ByteArray) (frame num den param:Int) (text:ByteArray) (args:List ExprR):cQ (.mk op media frame num den param text args)=uG op media frame num den param text (args.map cQ):=by
 have e:∀ l:List ExprR,uP l=l.map cQ:=by
  intro l
  induction l with
  | nil=>simp only [uP,List.map_nil]
  | cons a l ih=>simp only [uP,List.map_cons,ih]
 conv=>lhs;unfold cQ
 rw [e]
theorem Gh {P:ByteArray→Prop}:NmE P zeroE:=sK.2 ⟨fun h=>absurd h (by decide),fun e he=>by cases he⟩
theorem nm_red {P:ByteArray→Prop} {op:Int} {media:ByteArray} {frame num den param:Int} {text:ByteArray} {args:List ExprR} (h1:op=1→P media) (h2:∀ e∈args,NmE P e):NmE P (uG op media frame num den param text args):=by
 unfold uG;split
 ·rename_i x y;split
  ·exact h2 x (by simp)
  ·split
   ·split
    ·exact h2 y (by simp)
    ·exact Gh
   ·exact sK.2 ⟨h1,h2⟩
 ·exact sK.2 ⟨h1,h2⟩
theorem nm_sim {P:ByteArray→Prop} (e:ExprR):NmE P e→NmE P (cQ e):=by
 refine Md (Q:=fun e=>NmE P e→NmE P (cQ e)) ?_ e;intro op media frame num den param text args ih hn;obtain ⟨h1,h2⟩:=sK.1 hn;rw [Nc];refine nm_red h1 fun e he=>?_
 obtain ⟨x,hx,rfl⟩:=List.mem_map.1 he;exact ih x hx (h2 x hx)
theorem aVk {b:ByteArray} (h:noB b=true):b=⟨#[]⟩:=toList_eq.1 h
theorem aHv {op:Int} {media:ByteArray} {frame num den param:Int} {text:ByteArray} {args:List ExprR} (h:bR (.mk op media frame num den param text args)=true) (ho:op=0):ExprR.mk op media frame num den param text args=zeroE:=by
 unfold bR at h;rw [Bool.and_eq_true] at h;have h1:=h.1;unfold cS at h1;rw [if_pos (by rw [ho];rfl)] at h1;simp only [Bool.and_eq_true,beq_iff_eq] at h1;obtain ⟨⟨⟨⟨⟨a1,a2⟩,a3,a4⟩,a5⟩,a6⟩,a7⟩:=h1;have hl:args = []:=List.eq_nil_of_length_eq_zero (by omega);rw [ho,aVk a1,a2,a3,a4,a5,aVk a6,hl];rfl
theorem zero_of {e:ExprR} (h:bR e=true) (h0:opE e=0):e=zeroE:=by
 obtain ⟨op,media,frame,num,den,param,text,args⟩:=e;exact aHv h h0
theorem rQ (t:ByteArray→ByteArray):renE t zeroE=zeroE:=by
 unfold zeroE;rw [fU,dR];rfl
theorem ren_sim (t:ByteArray→ByteArray) (e:ExprR):bR e=true→cQ (renE t (cQ e))=cQ (renE t e):=by
 refine Md (Q:=fun e=>bR e=true→cQ (renE t (cQ e))=cQ (renE t e)) ?_ e;intro op media frame num den param text args ih hv;have hva:∀ x∈args,bR x=true:=by
  unfold bR at hv;rw [Bool.and_eq_true,jA,List.all_eq_true] at hv;exact hv.2
 have hR:cQ (renE t (.mk op media frame num den param text args))=uG op (if op=1 then t media else media) frame num den param text (args.map fun x=>cQ (renE t (cQ x))):=by
  rw [fU,Nc,dR,List.map_map];congr 1;exact List.map_congr_left fun x hx=>(ih x hx (hva x hx)).symm
 have hG:cQ (renE t (.mk op media frame num den param text (args.map cQ)))=uG op (if op=1 then t media else media) frame num den param text (args.map fun x=>cQ (renE t (cQ x))):=by
  rw [fU,Nc,dR,List.map_map,List.map_map];rfl
 rw [hR,Nc];have hlen:∀ l:List ExprR,(∀ x y,l ≠ [x,y])→uG op media frame num den param text l = .mk op media frame num den param text l:=by
  intro l hl;unfold uG;split
  ·rename_i x y;exact absurd rfl (hl x y)
  ·rfl
 match args,hva,hG with
 | [],_,hG=>rw [hlen _ (by simp)];exact hG
 | [a],_,hG=>rw [hlen _ (by simp)];exact hG
 | a::b::c::l,_,hG=>rw [hlen _ (by simp)];exact hG
 | [a,b],hva,hG =>
  simp only [List.map_cons,List.map_nil] at hG ⊢;rw [tN]
  by_cases h1:eqE (cQ a) (cQ b)=true
  ·rw [if_pos h1,tN,if_pos (xY.2 (by rw [xY.1 h1]))]
  ·rw [if_neg h1]
   by_cases h2:(op==4&&opE (cQ a)==0)=true
   ·rw [if_pos h2];simp only [Bool.and_eq_true,beq_iff_eq] at h2;have hz:cQ a=zeroE:=zero_of (Pp (hva a (by simp))) h2.2;have hz2:cQ (renE t (cQ a))=zeroE:=by rw [hz,rQ];exact nQ
    rw [tN,hz2]
    by_cases h3:eqE zeroE (cQ (renE t (cQ b)))=true
    ·rw [if_pos h3];split
     ·exact (xY.1 h3).symm
     ·rw [rQ];exact nQ
    ·rw [if_neg h3,if_pos (show (op==4&&opE zeroE==0)=true from by rw [h2.1];rfl)];split
     ·rfl
     ·rw [rQ];exact nQ
   ·rw [if_neg h2];exact hG
open Go.RowKit
set_option maxRecDepth 4000
def xR (s:StateR) (left:List ByteArray) (n:ByteArray):ByteArray :=
 if status s n=1 then n else if Vs n left=true then n else match fE s.links n with
  | none=>n
  | some l=>l.proxy
@[go_sem] abbrev RowX (l:List ExprR):Blk := .row 92 8 zE (aL (l.map ExprR.c))
theorem Zs (s:StateR) (left:List ByteArray) (hf:s.files.length≤maxLen) (hl:s.links.length≤maxLen) (hll:left.length≤maxLen):∀ (m:Nat) (e:ExprR),SizeOf.sizeOf e<m→bR e=true →
  aM Tryz.prog 36 [cY e,fW s, .t (yV left)] (cY (renE (xR s left) e))
 | 0,e,h,_=>absurd h (Nat.not_lt_zero _)
 | m+1, .mk op media frame num den param text args,hm,hv=>by
  unfold bR at hv;rw [Bool.and_eq_true,jA,List.all_eq_true] at hv;have hal:args.length≤2:=xW hv.1;have ih:∀ e∈args,aM Tryz.prog 36 [cY e,fW s, .t (yV left)] (cY (renE (xR s left) e)):=fun e he=>Zs s left hf hl hll m e (by have:=Ew he op media frame num den param text;omega) (hv.2 e he)
  rw [jQ,fU,dR,jQ];refine cR Tryz.X36 Tryz.func36 rfl Tryz.ntmps36 (by rw [Tryz.results36]) (aD _ ?_);simp only [go_sem,simprocAttr,dtf];obtain ⟨ρ,hρ⟩:∃ ρ, ρ = renE (xR s left):=⟨_,rfl⟩
  rw [← hρ] at ih ⊢;refine aF (fun (k:Nat) σ => (fun τ : St => { τ with h:=(3,RowX ((args.take k).map ρ)) :: τ.h,nx:=4 }) (cJ 7 (.own 3) (cJ 16 (aC k) (bN [8,17,18,19,20,21,22,23,24,25,26,27,28,29,30] (bK σ))))) (fun k=>k≤args.length) (fun k=>args.length - k) 0 (aN [(3,none),(2,some 2),(1,some 1),(0,some 0)] ?_) (Nat.zero_le _) ?_
  ·simp only [go_sem,simprocAttr,dtf];simp
  ·intro k hk;refine aD _ ?_;simp only [go_sem,simprocAttr,dtf];refine ⟨fun hlt=>?_,fun hge=>?_⟩
   ·simp only [bxx] at hlt;have hkl:k<args.length:=by omega
    unfold awS;simp only [go_sem,simprocAttr,dtf];refine aK 12 .done rfl (by kernel_rfl) (by kernel_rfl) (by decide) ?_;simp only [go_sem,simprocAttr,dtf];have hb:=ih _ (aW (d:=default) hkl);obtain ⟨b,hbe⟩:∃ b,b=args.getD k default:=⟨_,rfl⟩
    rw [← hbe] at hb;have hnE:nth zE (args.map ExprR.c) k=ExprR.c b:=by rw [hbe];exact Qy hkl zE
    have htk:(args.take (k+1)).map ρ = (args.take k).map ρ ++ [ρ b]:=by rw [cA hkl,List.map_append,hbe];rfl
    obtain ⟨c,hc⟩:∃ c,c = ρ b:=⟨_,rfl⟩
    rw [← hc] at hb htk;clear hbe hc;obtain ⟨o1,m1,fr1,nu1,de1,pa1,te1,ar1⟩:=b;obtain ⟨o2,m2,fr2,nu2,de2,pa2,te2,ar2⟩:=c;rw [jQ,jQ] at hb;simp only [go_sem,simprocAttr,dtf,hnE,ExprR.c,jV];refine ⟨⟨by omega,by omega⟩,_,hb,?_⟩;simp only [go_sem,simprocAttr,dtf,ExprR.c,jV];refine ⟨⟨by rw [List.length_take];unfold maxLen;omega,by rw [List.length_take];omega⟩,by kernel_rfl,k+1,aN [(3,some 14),(2,some 2),(1,some 1),(0,some 0)] ?_,by omega,by omega⟩;simp only [go_sem,simprocAttr,dtf];rw [htk,List.map_append,bX (show k<9223372036854775807 by omega)];simp;simp only [ExprR.c,jV]
   ·simp only [bxx] at hge;have:k=args.length:=by omega
    subst this;rw [List.take_length];unfold awS;simp only [go_sem,simprocAttr,dtf];refine ⟨_,fun _=>yD s media hf hl,?_⟩;simp only [go_sem,simprocAttr,dtf];refine ⟨fun h1=>?_,fun h1=>?_⟩
    ·have e1:(if op=1 then xR s left media else media)=media:=by
      rw [Bool.or_eq_true,bne_iff_ne] at h1;split
      ·rename_i ho;rcases h1 with h1 | h1
       ·exact absurd ho h1
       ·rw [beq_iff_eq] at h1;unfold xR;rw [if_pos h1]
      ·rfl
     rw [e1];unfold awS;simp only [go_sem,simprocAttr,dtf];refine aU ?_ rfl;simp only [go_sem,simprocAttr,dtf]
    ·rw [Bool.or_eq_false_iff] at h1;have ho:op=1:=by simpa using h1.1
     have hs1:status s media≠1:=by simpa using h1.2
     rw [if_pos ho];unfold awS;simp only [go_sem,simprocAttr,dtf];refine aF (fun (j:Nat) σ => cJ 46 (aC j) (bN [10,47,48,49,50,51,52,53,54,55] (bK σ))) (fun j=>j≤left.length∧Vs media (left.take j)=false) (fun j=>left.length - j) 0 (aB ?_) ⟨Nat.zero_le _,rfl⟩ ?_
     ·simp only [go_sem,simprocAttr,dtf];simp
     ·rintro j ⟨hj,hja⟩;refine aD _ ?_;simp only [go_sem,simprocAttr,dtf];refine ⟨fun hlt=>?_,fun hge=>?_⟩
      ·simp only [bxx] at hlt;have hjl:j<left.length:=by omega
       have hsn:=aRq media hjl;rw [hja,Bool.false_or] at hsn;unfold awS;simp only [go_sem,simprocAttr,dtf];refine ⟨⟨by omega,by omega⟩,fun h3=>?_,fun h3=>?_⟩
       ·have hin:xR s left media=media:=by
         have hm:Vs media left=true:=by
          unfold Vs;rw [List.any_eq_true];exact ⟨_,aW (d:=default) hjl,h3⟩
         unfold xR;rw [if_neg hs1,if_pos hm]
        rw [hin];unfold awS;simp only [go_sem,simprocAttr,dtf];refine aU ?_ rfl;simp only [go_sem,simprocAttr,dtf]
       ·unfold awS;simp only [go_sem,simprocAttr,dtf];refine ⟨j+1,aB ?_,⟨by omega,by rw [hsn];exact h3⟩,by omega⟩;simp only [go_sem,simprocAttr,dtf];rw [bX (show j<9223372036854775807 by unfold maxLen at hll;omega)];simp
      ·simp only [bxx] at hge;have:j=left.length:=by omega
       subst this;rw [List.take_length] at hja;have hin:xR s left media=match fE s.links media with | none=>media | some l=>l.proxy:=by
        unfold xR;rw [if_neg hs1,if_neg (by rw [hja];decide)]
       rw [hin];unfold awS;simp only [go_sem,simprocAttr,dtf];refine aF (fun (j:Nat) σ => cJ 59 (aC j) (bN [12,60,61,62,63,64,65,66,67,68,69,70,71,72] (bK σ))) (fun j=>j≤s.links.length∧fE (s.links.drop j) media=fE s.links media) (fun j=>s.links.length - j) 0 (aB ?_) ⟨Nat.zero_le _,rfl⟩ ?_
       ·simp only [go_sem,simprocAttr,dtf];simp
       ·rintro i ⟨hi,hil⟩;refine aD _ ?_;simp only [go_sem,simprocAttr,dtf];refine ⟨fun hlt2=>?_,fun hge2=>?_⟩
        ·simp only [bxx] at hlt2;have hil2:i<s.links.length:=by omega
         have hdr:s.links.drop i=s.links.getD i default::s.links.drop (i+1):=by rw [List.drop_eq_getElem_cons hil2,aJ hil2]
         rw [hdr] at hil;unfold fE at hil;rw [nJ] at hil;unfold awS;simp only [go_sem,simprocAttr,dtf];refine ⟨⟨by omega,by omega⟩,fun h4=>?_,fun h4=>?_⟩
         ·rw [if_pos (toList_eq.1 h4)] at hil;unfold fE;rw [← hil];unfold awS;simp only [go_sem,simprocAttr,dtf];refine aU ?_ rfl;simp only [go_sem,simprocAttr,dtf]
         ·have h5 : ¬ (s.links.getD i default).media=media:=fun e=>by rw [e] at h4;simp at h4
          rw [if_neg h5] at hil;unfold awS;simp only [go_sem,simprocAttr,dtf];refine ⟨i+1,aB ?_,⟨by omega,hil⟩,by omega⟩;simp only [go_sem,simprocAttr,dtf];rw [bX (show i<9223372036854775807 by unfold maxLen at hl;omega)];simp
        ·simp only [bxx] at hge2;have:i=s.links.length:=by omega
         subst this;have hno:fE s.links media=none:=by rw [← hil,List.drop_length];rfl
         rw [hno];unfold awS;simp only [go_sem,simprocAttr,dtf];refine aU ?_ rfl;simp only [go_sem,simprocAttr,dtf]
theorem aWk (s:StateR) (left:List ByteArray) (hf:s.files.length≤maxLen) (hl:s.links.length≤maxLen) (hll:left.length≤maxLen) (e:ExprR) (hv:bR e=true) :
  aM Tryz.prog 36 [cY e,fW s, .t (yV left)] (cY (renE (xR s left) e)):=Zs s left hf hl hll _ e (Nat.lt_succ_self _) hv
end Go.Proofs.YtbfnemkngoaeeaaGreat
