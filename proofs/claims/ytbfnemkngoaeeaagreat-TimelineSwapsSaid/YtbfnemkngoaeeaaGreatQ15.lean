/- Proved here: The deferred function that recovers does nothing where there is no panic; conditions stand in each theorem. -/
import Derived.Test.YtbfnemkngoaeeaaGreatQ06
import Derived.Test.YtbfnemkngoaeeaaGreatQ07
import Derived.RecoverIn
import Derived.Test.YtbfnemkngoaeeaaGreatQ14
import Derived.Test.YtbfnemkngoaeeaaGreatQ11
import Derived.Test.YtbfnemkngoaeeaaGreatQ10
set_option linter.unusedSimpArgs false
set_option linter.unusedVariables false
set_option linter.unusedSectionVars false
set_option linter.unnecessarySimpa false
namespace Go.Proofs.YtbfnemkngoaeeaaGreat
open Go.RowKit
set_option maxRecDepth 4000
theorem pT:NopD Tryz.prog 138:=by
 refine ⟨Tryz.X138,fun cap w=>callsDIn_of_wpSIn Tryz.func138 rfl trivial fun c₀ cs hu=>?_⟩;have k1 : 1<cap.size+(3 - cap.size):=by omega
 have k2 : 2<cap.size+(3 - cap.size):=by omega
 have k3 : 1<max 3 cap.size:=by omega
 have k4 : 2<max 3 cap.size:=by omega
 apply wpSIn_seq;apply wpSIn_region;simp [wpOpsSIn,Fence.wide,go_sem,recoverD,hu,Tryz.ntmps138,Exit.thenS,k1,k2,k3,k4];refine wpSIn_cond (t:=false) (by simp [Act.eval,k2,k4]) ?_;refine wpSIn_of_wpIn rfl (wpIn_skip ?_);refine ⟨rfl, .returning,by rw [← hu], .tuple #[],?_,⟨_,rfl⟩,rfl,rfl⟩;simp [results,Tryz.results138,go_sem]
open Go.RowKit
set_option maxRecDepth 4000
def cQ (p:ProjR) (x:SourceR):Bool := !(x.kind==1&&(jY p.media x.name).isNone||x.kind==2&&(eR p.seqs x.name).isNone)
def dJ (p:ProjR) (c:ClipR):Bool:=cQ p c.a&&cQ p c.b
def fR (p:ProjR) (s:SequenceR):Bool:=(cP s).all (dJ p)
theorem Tr (d a:List T):nth d [a] 0=a:=rfl
theorem wr1:IntKind.i64.wrap 1=1:=by decide
theorem wr2:IntKind.i64.wrap 2=2:=by decide
theorem kG:((2:Nat):Int)=2:=rfl
theorem rN (n:ByteArray) (l:List MediumR):pW (.string n) (Nj l)=(jY l n).map fun m => .agg (dA m):=Eh _ _ n l
theorem zD (n:ByteArray) (l:List SequenceR):pW (.string n) (Mb l)=(eR l n).map fun m=>fN m:=Eh _ _ n l
theorem Jt {p:ProjR} {s:SequenceR} {tr:List (List ClipR)} {i k:Nat} {c:ClipR} (htr:tr=s.video++s.sound) (hi:i<tr.length) (hk:k<(tr.getD i []).length) (hc:c=(tr.getD i []).getD k default) (hn:dJ p c=false):fR p s=false:=by
 unfold fR cP;rw [← htr,List.all_eq_false];refine ⟨c,?_,by rw [hn];exact Bool.false_ne_true⟩;rw [List.mem_flatten];refine ⟨tr.getD i [],?_,?_⟩
 ·rw [List.getD_eq_getElem?_getD,List.getElem?_eq_getElem hi];exact List.getElem_mem hi
 ·rw [hc,aU hk];exact List.getElem_mem hk
set_option maxHeartbeats 20000000 in
theorem cCompl (p:ProjR) (s:SequenceR) (hv:s.video.length≤8) (hs:s.sound.length≤8) (hm:∀ t∈s.video++s.sound,t.length≤maxLen):aN Tryz.prog 144 [vcat p,fN s] (aP (fR p s)):=by
 refine aH Tryz.X144 Tryz.func144 rfl Tryz.ntmps144 (by rw [Tryz.results144]) (aD _ ?_);simp only [go_sem,simprocAttr];refine qE (aNe s) rfl ?_;simp only [go_sem,simprocAttr];refine ⟨Tryz.X243,?_⟩;unfold Te;refine ⟨rfl,vV Tryz.X243 Tryz.func243 rfl Tryz.ntmps243 (by rw [Tryz.results243]) (aD _ ?_)⟩;simp only [go_sem,simprocAttr,Tr,SequenceR.c];refine qA ?_;simp only [go_sem,simprocAttr];refine ⟨_,Rr _ s.video s.sound hv hs,?_⟩;simp only [go_sem,simprocAttr];obtain ⟨tr,htr⟩:∃ tr,tr=s.video++s.sound:=⟨_,rfl⟩
 rw [← htr];have hlen:tr.length≤16:=by rw [htr,List.length_append];omega
 refine aF (fun (i:Nat) σ => bL 14 (aC i) (aX [4,6,15,16,17,18,19,20,21,22,23,24,25,26,27,28,29] (bF σ))) (fun i=>i≤tr.length∧(tr.take i).flatten.all (dJ p)=true) (fun i=>tr.length - i) 0 (aA ?_) ⟨Nat.zero_le _,rfl⟩ ?_
 ·simp only [go_sem,simprocAttr]<;>simp
 ·rintro i ⟨hi,hall⟩;refine aD _ ?_;simp only [go_sem,simprocAttr];refine ⟨fun hlt=>?_,fun hge=>?_⟩
  ·simp only [bxx] at hlt;have hi':i<tr.length:=by omega
   unfold awS;simp only [go_sem,simprocAttr,hi',List.length_map];refine ⟨⟨by omega,by omega⟩,?_⟩;refine aF (fun (k:Nat) σ => bL 20 (aC k) (aX [6,21,22,23,24,25,26,27,28] (bF σ))) (fun k=>k≤(tr.getD i []).length∧((tr.getD i []).take k).all (dJ p)=true) (fun k=>(tr.getD i []).length - k) 0 (aA ?_) ⟨Nat.zero_le _,rfl⟩ ?_
   ·simp only [go_sem,simprocAttr]<;>simp
   ·rintro k ⟨hk,hallk⟩;refine aD _ ?_;simp only [go_sem,simprocAttr];refine ⟨fun hlt=>?_,fun hge=>?_⟩
    ·simp only [bxx] at hlt;have hk':k<(tr.getD i []).length:=by omega
     have hmt:(tr.getD i []).length≤maxLen:=hm _ (by rw [← htr,List.getD_eq_getElem?_getD,List.getElem?_eq_getElem hi'];exact List.getElem_mem hi');have hk9:k<9223372036854775807:=by unfold maxLen at hmt;omega
     unfold awS;simp only [go_sem,simprocAttr,hk',List.length_map];refine ⟨⟨by omega,by omega⟩,aD _ ?_⟩;simp only [go_sem,simprocAttr];refine aD _ ?_;simp only [go_sem,simprocAttr];refine eC ?_;refine aZ (aD _ ?_);simp only [go_sem,simprocAttr,dtf,wr1,wr2,kG];obtain ⟨c,hc⟩:∃ c,c=(tr.getD i []).getD k default:=⟨_,rfl⟩
     rw [← hc];rcases h1:jY p.media c.a.name with _ | m1<;>rcases h2:eR p.seqs c.a.name with _ | q1
     rotate_left 3
     ·simp only [go_sem,simprocAttr,dtf,wr1,wr2,kG,rN,zD,h1,h2,Option.map_some,Option.map_none];have hb:(!cQ p c.a)=false:=by unfold cQ;rw [h1,h2];cases (c.a.kind==1)<;>cases (c.a.kind==2)<;>rfl
      refine aZ (aD _ ?_);simp only [go_sem,simprocAttr,dtf,wr1,wr2,kG];rcases h3:jY p.media c.b.name with _ | m2<;>rcases h4:eR p.seqs c.b.name with _ | q2
      rotate_left 3
      ·simp only [go_sem,simprocAttr,dtf,wr1,wr2,kG,rN,zD,h3,h4,Option.map_some,Option.map_none];have hb':(!cQ p c.b)=false:=by unfold cQ;rw [h3,h4];cases (c.b.kind==1)<;>cases (c.b.kind==2)<;>rfl
       refine aZ (aD _ ?_);simp only [go_sem,simprocAttr,dtf,wr1,wr2,kG];refine ⟨fun h=>absurd h (by decide),fun _=>?_⟩;unfold awS;simp only [go_sem,simprocAttr,dtf];refine ⟨k+1,aA ?_,⟨by omega,?_⟩,by omega⟩
       ·simp only [go_sem,simprocAttr]<;>simp [bJ hk9]
       ·simp only [Bool.not_eq_false'] at hb hb';rw [bY hk',List.all_append,hallk, ← hc];simp [dJ,hb,hb']
      all_goals
       simp only [go_sem,simprocAttr,dtf,wr1,wr2,kG,rN,zD,h3,h4,Option.map_some,Option.map_none];refine brW (b := !cQ p c.b) (by unfold cQ;rw [h3,h4];cases (c.b.kind==1)<;>cases (c.b.kind==2)<;>rfl) ⟨fun hb'=>?_,fun hb'=>?_⟩
       ·unfold awS;simp only [go_sem,simprocAttr,dtf];refine ⟨fun _=>?_,fun h=>absurd h (by decide)⟩;unfold awS;simp only [go_sem,simprocAttr,dtf];simp only [Bool.not_eq_true'] at hb';rw [Jt htr hi' hk' hc (by unfold dJ;rw [hb',Bool.and_false])]
       ·unfold awS;simp only [go_sem,simprocAttr,dtf,wr1,wr2,kG];refine aZ (aD _ ?_);simp only [go_sem,simprocAttr,dtf,wr1,wr2,kG];refine ⟨fun h=>absurd h (by decide),fun _=>?_⟩;unfold awS;simp only [go_sem,simprocAttr,dtf];refine ⟨k+1,aA ?_,⟨by omega,?_⟩,by omega⟩
        ·simp only [go_sem,simprocAttr]<;>simp [bJ hk9]
        ·simp only [Bool.not_eq_false'] at hb hb';rw [bY hk',List.all_append,hallk, ← hc];simp [dJ,hb,hb']
     all_goals
      simp only [go_sem,simprocAttr,dtf,wr1,wr2,kG,rN,zD,h1,h2,Option.map_some,Option.map_none];refine brW (b := !cQ p c.a) (by unfold cQ;rw [h1,h2];cases (c.a.kind==1)<;>cases (c.a.kind==2)<;>rfl) ⟨fun hb=>?_,fun hb=>?_⟩
      ·unfold awS;simp only [go_sem,simprocAttr,dtf];refine ⟨fun _=>?_,fun h=>absurd h (by decide)⟩;unfold awS;simp only [go_sem,simprocAttr,dtf];simp only [Bool.not_eq_true'] at hb;rw [Jt htr hi' hk' hc (by unfold dJ;rw [hb];rfl)]
      ·unfold awS;simp only [go_sem,simprocAttr,dtf,wr1,wr2,kG];refine aZ (aD _ ?_);simp only [go_sem,simprocAttr,dtf,wr1,wr2,kG];rcases h3:jY p.media c.b.name with _ | m2<;>rcases h4:eR p.seqs c.b.name with _ | q2
       rotate_left 3
       ·simp only [go_sem,simprocAttr,dtf,wr1,wr2,kG,rN,zD,h3,h4,Option.map_some,Option.map_none];have hb':(!cQ p c.b)=false:=by unfold cQ;rw [h3,h4];cases (c.b.kind==1)<;>cases (c.b.kind==2)<;>rfl
        refine aZ (aD _ ?_);simp only [go_sem,simprocAttr,dtf,wr1,wr2,kG];refine ⟨fun h=>absurd h (by decide),fun _=>?_⟩;unfold awS;simp only [go_sem,simprocAttr,dtf];refine ⟨k+1,aA ?_,⟨by omega,?_⟩,by omega⟩
        ·simp only [go_sem,simprocAttr]<;>simp [bJ hk9]
        ·simp only [Bool.not_eq_false'] at hb hb';rw [bY hk',List.all_append,hallk, ← hc];simp [dJ,hb,hb']
       all_goals
        simp only [go_sem,simprocAttr,dtf,wr1,wr2,kG,rN,zD,h3,h4,Option.map_some,Option.map_none];refine brW (b := !cQ p c.b) (by unfold cQ;rw [h3,h4];cases (c.b.kind==1)<;>cases (c.b.kind==2)<;>rfl) ⟨fun hb'=>?_,fun hb'=>?_⟩
        ·unfold awS;simp only [go_sem,simprocAttr,dtf];refine ⟨fun _=>?_,fun h=>absurd h (by decide)⟩;unfold awS;simp only [go_sem,simprocAttr,dtf];simp only [Bool.not_eq_true'] at hb';rw [Jt htr hi' hk' hc (by unfold dJ;rw [hb',Bool.and_false])]
        ·unfold awS;simp only [go_sem,simprocAttr,dtf,wr1,wr2,kG];refine aZ (aD _ ?_);simp only [go_sem,simprocAttr,dtf,wr1,wr2,kG];refine ⟨fun h=>absurd h (by decide),fun _=>?_⟩;unfold awS;simp only [go_sem,simprocAttr,dtf];refine ⟨k+1,aA ?_,⟨by omega,?_⟩,by omega⟩
         ·simp only [go_sem,simprocAttr]<;>simp [bJ hk9]
         ·simp only [Bool.not_eq_false'] at hb hb';rw [bY hk',List.all_append,hallk, ← hc];simp [dJ,hb,hb']
    ·simp only [bxx] at hge;unfold awS;simp only [go_sem,simprocAttr];refine ⟨i+1,aA ?_,⟨by omega,?_⟩,by omega⟩
     ·simp only [go_sem,simprocAttr]<;>simp [bJ (show i<9223372036854775807 by omega)]
     ·rw [List.take_of_length_le (show (tr.getD i []).length≤k by omega)] at hallk;rw [bY hi',List.flatten_append,List.all_append,hall,show (default:List ClipR) = [] from rfl];simpa using hallk
  ·simp only [bxx] at hge;unfold awS;simp only [go_sem,simprocAttr];rw [List.take_of_length_le (show tr.length≤i by omega)] at hall;unfold fR cP;rw [← htr,hall]
open Go.RowKit
set_option maxRecDepth 4000
def cX (kind:Int) (l:List ClipR):List ByteArray:=((l.flatMap fun c=>[c.a,c.b]).filter fun x=>x.kind==kind).map fun x=>x.name
theorem yL (kind:Int) (l r:List ClipR):cX kind (l++r)=cX kind l++cX kind r:=by
 unfold cX;rw [List.flatMap_append,List.filter_append,List.map_append]
def addK (kind:Int) (x:SourceR) (l:List ByteArray):List ByteArray:=if x.kind==kind then l ++ [x.name] else l
theorem Xz (kind:Int) (l:List ClipR) (c:ClipR):cX kind (l ++ [c])=addK kind c.b (addK kind c.a (cX kind l)):=by
 rw [yL];unfold addK;simp only [cX,List.flatMap_cons,List.flatMap_nil,List.append_nil,List.filter_cons,List.filter_nil];cases h1:(c.a.kind==kind)<;>cases h2:(c.b.kind==kind)<;>simp
def yesC:Bool×List T:=(false,[.lit (.bool true)])
def Cg (l:List ByteArray):List Ent:=gR (fun n:ByteArray=>n) (fun _=>yesC) l
theorem aFu (l:List ByteArray) (n:ByteArray):Cg (l ++ [n])=qQ (.string n) yesC (Cg l):=tP _ _ l n
theorem aDf (n:ByteArray) (l:List ByteArray):yZ (.string n) (aP true) (tEs (Cg l))=tEs (Cg (l ++ [n])):=by
 rw [aFu];exact Am (.string n) yesC (Cg l)
theorem kinds_N (l:List ByteArray):mF .string (Cg l)=true:=qB (jG _ _ _)
attribute [go_sem] kinds_N
theorem aGr (l:List ByteArray):(tEs (Cg l)).map (·.1)=(pS l).map Value.string:=by
 have h1:(Cg l).map (fun e=>Ab e.1)=pS l:=by
  have:=Kp (fun n:ByteArray=>n) (fun _=>yesC) l;rw [List.map_id'] at this;exact this
 have h2:yF (Cg l):=jG _ _ _;unfold tEs;rw [List.map_map, ← h1,List.map_map];refine List.map_congr_left fun e he=>?_
 obtain ⟨s,hs⟩:=h2 e he;simp only [Function.comp_apply,hs,Ab]
theorem Sz (g:Nat→Nat):∀ es:List Ent,V.renE g (tEs es)=tEs es∧Au (tEs es) = []
 | []=>⟨rfl,rfl⟩
 | e::es=>by
  have h:=Sz g es;have h1:=Jj g (mkV e.2) (Yc e.2);unfold tEs at h ⊢;simp only [List.map_cons,V.renE,Au,h1.1,h1.2,h.1,h.2,List.nil_append,and_self]
def tM (s:SequenceR) (kind:Int):List ByteArray:=mW (pS (cX kind (cP s)))
abbrev tnames (l:List ByteArray):T:=uU l
@[go_sem] def Fd (i:Nat) (b:Blk) (σ : St):St := { σ with h := σ.h.set i b }
set_option maxHeartbeats 20000000 in
theorem aN6 (p:ProjR) (n:ByteArray) (kind:Int) (s:SequenceR) (hs:eR p.seqs n=some s) (hv:s.video.length≤8) (hs':s.sound.length≤8) (hm:∀ t∈s.video++s.sound,t.length≤maxLen)
  (hz:∀ x∈cX kind (cP s),x.size≤maxLen) (hn:(cX kind (cP s)).length≤1000000) :
  aN Tryz.prog 146 [vcat p,bP n,aC kind] (.t (tnames (tM s kind))):=by
 refine aH Tryz.X146 Tryz.func146 rfl Tryz.ntmps146 (by rw [Tryz.results146]) (aD _ ?_);simp only [go_sem,simprocAttr,zD,hs,Option.map_some];refine qE (aNe s) rfl ?_;simp only [go_sem,simprocAttr];refine ⟨Tryz.X243,?_⟩;unfold Te;refine ⟨rfl,vV Tryz.X243 Tryz.func243 rfl Tryz.ntmps243 (by rw [Tryz.results243]) (aD _ ?_)⟩;simp only [go_sem,simprocAttr,Tr,SequenceR.c];refine qA ?_;simp only [go_sem,simprocAttr];refine ⟨_,Rr _ s.video s.sound hv hs',?_⟩;simp only [go_sem,simprocAttr];obtain ⟨tr,htr⟩:∃ tr,tr=s.video++s.sound:=⟨_,rfl⟩
 rw [← htr];have hlen:tr.length≤16:=by rw [htr,List.length_append];omega
 refine aF (fun (i:Nat) σ => Fd 2 (.map (tEs (Cg (cX kind (tr.take i).flatten)))) (bL 14 (aC i) (aX [4,6,15,16,17,18,19,20,21,22,23,24,25,26,27,28,29] (bF σ)))) (fun i=>i≤tr.length) (fun i=>tr.length - i) 0 (aA ?_) (Nat.zero_le _) ?_
 ·simp only [go_sem,simprocAttr]<;>simp [Cg,cX,gR,tEs]
 ·intro i hi;refine aD _ ?_;simp only [go_sem,simprocAttr];refine ⟨fun hlt=>?_,fun hge=>?_⟩
  ·simp only [bxx] at hlt;have hi':i<tr.length:=by omega
   have hmt:(tr.getD i []).length≤maxLen:=hm _ (by rw [← htr,List.getD_eq_getElem?_getD,List.getElem?_eq_getElem hi'];exact List.getElem_mem hi');unfold awS;simp only [go_sem,simprocAttr,hi',List.length_map];refine ⟨⟨by omega,by omega⟩,?_⟩;refine aF (fun (k:Nat) σ => Fd 2 (.map (tEs (Cg (cX kind ((tr.take i).flatten++(tr.getD i []).take k))))) (bL 20 (aC k) (aX [6,21,22,23,24,25,26,27,28] (bF σ)))) (fun k=>k≤(tr.getD i []).length) (fun k=>(tr.getD i []).length - k) 0 (aA ?_) (Nat.zero_le _) ?_
   ·simp only [go_sem,simprocAttr]<;>simp
   ·intro k hk;refine aD _ ?_;simp only [go_sem,simprocAttr];refine ⟨fun hlt=>?_,fun hge=>?_⟩
    ·simp only [bxx] at hlt;have hk':k<(tr.getD i []).length:=by omega
     have hk9:k<9223372036854775807:=by unfold maxLen at hmt;omega
     unfold awS;simp only [go_sem,simprocAttr,hk',List.length_map];refine ⟨⟨by omega,by omega⟩,aD _ ?_⟩;simp only [go_sem,simprocAttr];refine aD _ ?_;simp only [go_sem,simprocAttr];obtain ⟨c,hc⟩:∃ c,c=(tr.getD i []).getD k default:=⟨_,rfl⟩
     rw [← hc];obtain ⟨l,hl⟩:∃ l,l=cX kind ((tr.take i).flatten++(tr.getD i []).take k):=⟨_,rfl⟩
     rw [← hl];refine eC ?_;rcases ha:(c.a.kind==kind) with _ | _<;>rcases hb:(c.b.kind==kind) with _ | _
     all_goals
      refine aZ (aD _ ?_);simp only [go_sem,simprocAttr,dtf,wr1,wr2,kG,ha,hb,aDf];refine aZ (aD _ ?_);simp only [go_sem,simprocAttr,dtf,wr1,wr2,kG,ha,hb,aDf];refine aZ (aD _ ?_);simp only [go_sem,simprocAttr,dtf,wr1,wr2,kG];refine ⟨fun h=>absurd h (by decide),fun _=>?_⟩;unfold awS;simp only [go_sem,simprocAttr,dtf];refine ⟨k+1,aA ?_,by omega,by omega⟩;simp only [go_sem,simprocAttr];rw [bY hk', ← hc, ← List.append_assoc,Xz, ← hl];simp [bJ hk9,addK,ha,hb]
    ·simp only [bxx] at hge;unfold awS;simp only [go_sem,simprocAttr];refine ⟨i+1,aA ?_,by omega,by omega⟩;simp only [go_sem,simprocAttr];rw [bY hi',List.flatten_append,show (default:List ClipR) = [] from rfl,List.take_of_length_le (show (tr.getD i []).length≤k by omega)];simp [bJ (show i<9223372036854775807 by omega)]
  ·simp only [bxx] at hge;unfold awS;simp only [go_sem,simprocAttr];rw [List.take_of_length_le (show tr.length≤i by omega)];refine vV Tryz.X73 Tryz.func73 rfl Tryz.ntmps73 (by rw [Tryz.results73]) (aD _ ?_);simp only [go_sem,simprocAttr];have hcl:tr.flatten=cP s:=by rw [htr];rfl
   rw [hcl];refine vS Tryz.X59 (gX (aH8 (tEs (Cg (cX kind (cP s)))) (pS (cX kind (cP s))) (Ms ⟨#[]⟩) (aGr _) (aBk _) (fun x hx=>hz x (Av.1 hx)) (Nat.le_trans (pR _) hn)) [7,2] rfl (by omega) (by decide) ?_ rfl rfl rfl rfl ?_)
   ·simp only [go_sem,simprocAttr,(Sz id _).2,(Sz _ _).1];exact decide_eq_true trivial
   ·simp only [go_sem,simprocAttr]<;>rfl
open Go.RowKit
set_option maxRecDepth 4000
abbrev KM:=List (ByteArray×Int)
def kE (K:KM):List (Value×V):=K.map fun e=>(Value.string e.1,aC e.2)
def Fm (n:ByteArray):KM→Option Int
 | []=>none
 | e::K=>if n=e.1 then some e.2 else Fm n K
def kX (n:ByteArray) (v:Int):KM→KM
 | []=>[(n,v)]
 | e::K=>if n=e.1 then (n,v)::K else e::kX n v K
theorem Ke (n:ByteArray):∀ K:KM,nC (.string n) (kE K)=(Fm n K).map fun v=>aC v
 | []=>rfl
 | e::K=>by
  have h:=Ke n K;unfold kE at h ⊢;simp only [List.map_cons,nC,Fm,qC,decide_eq_true_eq,h];split<;>rfl
theorem Xh (n:ByteArray) (v:Int):∀ K:KM,yZ (.string n) (aC v) (kE K)=kE (kX n v K)
 | []=>rfl
 | e::K=>by
  have h:=Xh n v K;unfold kE at h ⊢;simp only [List.map_cons,yZ,kX,qC,decide_eq_true_eq,h];split<;>rfl
theorem aE3:∀ K:KM,gT .string (kE K)=true
 | []=>rfl
 | e::K=>by
  have h:=aE3 K;unfold kE at h ⊢;simp only [List.map_cons,gT,fK,h,Bool.and_self]
attribute [go_sem] aE3
theorem Zk (n m:ByteArray) (v:Int):∀ K:KM,Fm n (kX m v K)=if n=m then some v else Fm n K
 | []=>rfl
 | e::K=>by
  have ih:=Zk n m v K;unfold kX;split
  ·rename_i h;subst h;simp only [Fm];split<;>rfl
  ·rename_i h;simp only [Fm,ih];split
   ·rename_i h2;subst h2;rw [if_neg (fun h3=>h h3.symm)]
   ·rfl
def cT (n:ByteArray) (K:KM):Int:=(Fm n K).getD 0
def eT (p:ProjR) (n:ByteArray):List ByteArray:=tM ((eR p.seqs n).getD default) 2
def bC (go:ByteArray→KM→Int×KM):List ByteArray→KM→Int→Bool×Int×KM
 | [],K,l=>(true,l,K)
 | x::xs,K,l=>if (go x K).1=0 then (false,l,(go x K).2) else bC go xs (go x K).2 (max l (IntKind.i64.wrap ((go x K).1+1)))
theorem wE (go:ByteArray→KM→Int×KM) (x:ByteArray):∀ (xs:List ByteArray) (K:KM) (l:Int),bC go (xs ++ [x]) K l =
  if (bC go xs K l).1=true then (if (go x (bC go xs K l).2.2).1=0 then (false,(bC go xs K l).2.1,(go x (bC go xs K l).2.2).2) else (true,max (bC go xs K l).2.1 (IntKind.i64.wrap ((go x (bC go xs K l).2.2).1+1)),(go x (bC go xs K l).2.2).2)) else bC go xs K l
 | [],K,l=>by by_cases h:(go x K).1=0<;>simp [bC,h]
 | y::xs,K,l=>by
  simp only [List.cons_append,bC];split
  ·rfl
  ·exact wE go x xs _ _
theorem wD {go:ByteArray→KM→Int×KM}:∀ {xs:List ByteArray} {K:KM} {l:Int} (ys:List ByteArray),(bC go xs K l).1=false→bC go (xs++ys) K l=bC go xs K l
 | [],K,l,ys,h=>by unfold bC at h;cases h
 | x::xs,K,l,ys,h=>by
  by_cases h0:(go x K).1=0
  ·simp [bC,h0]
  ·simp only [List.cons_append,bC,if_neg h0] at h ⊢;exact wD ys h
@[go_sem] theorem aGf:∀ K:KM,tN (kE K)=false
 | []=>rfl
 | e::K=>by
  have h:=aGf K;unfold kE at h ⊢;simp only [List.map_cons,tN,Ks,h,Bool.false_or]
theorem wX:∀ K:KM,rL (kE K)=True
 | []=>rfl
 | e::K=>by
  have h:=wX K;unfold kE at h ⊢;simp only [List.map_cons,rL,h,and_true];exact eq_true rfl
attribute [go_sem] wX
theorem nP (g:Nat→Nat):∀ K:KM,V.renE g (kE K)=kE K∧Au (kE K) = []
 | []=>⟨rfl,rfl⟩
 | e::K=>by
  have h:=nP g K;unfold kE at h ⊢;simp only [List.map_cons,V.renE,Au,h.1,h.2,V.ren,V.ment,List.nil_append,and_self]
def aY (p:ProjR):Nat→ByteArray→KM→Int×KM
 | 0,_,K=>(0,K)
 | f+1,n,K=>if cT n K≠0 then (max (cT n K) 0,K) else
   if (bC (aY p f) (eT p n) (kX n (-1) K) 1).1=true
   then ((bC (aY p f) (eT p n) (kX n (-1) K) 1).2.1,kX n (bC (aY p f) (eT p n) (kX n (-1) K) 1).2.1 (bC (aY p f) (eT p n) (kX n (-1) K) 1).2.2)
   else (0,(bC (aY p f) (eT p n) (kX n (-1) K) 1).2.2)
theorem uR (n m:ByteArray) (v:Int) (K:KM):cT n (kX m v K)=if n=m then v else cT n K:=by
 unfold cT;rw [Zk];split<;>rfl
def unk (l:List SequenceR) (K:KM):Nat:=(l.filter fun s=>decide (cT s.name K=0)).length
def grows (K K':KM):Prop := ∀ n,cT n K≠0→cT n K'≠0
theorem grows.refl (K:KM):grows K K:=fun _ h=>h
theorem grows.trans {a b c:KM} (h:grows a b) (h':grows b c):grows a c:=fun n hn=>h' n (h n hn)
theorem Cu (n:ByteArray) {v:Int} (hv:v≠0) (K:KM):grows K (kX n v K):=fun m h=>by
 rw [uR];split
 ·exact hv
 ·exact h
theorem Ha {K K':KM} (h:grows K K'):∀ l:List SequenceR,unk l K'≤unk l K
 | []=>Nat.le_refl _
 | s::l=>by
  have ih:=Ha h l;unfold unk at ih ⊢;simp only [List.filter_cons];have h1:=h s.name
  by_cases h2:cT s.name K=0
  ·rw [decide_eq_true h2];split<;>simp<;>omega
  ·rw [decide_eq_false h2,decide_eq_false (h1 h2)];simpa using ih
theorem Sh {K:KM} {n:ByteArray} {v:Int} (hv:v≠0) (hn:cT n K=0):∀ {l:List SequenceR},(∃ s∈l,s.name=n)→unk l (kX n v K)<unk l K
 | [],h=>by obtain ⟨s,hs,_⟩:=h;cases hs
 | s::l,h=>by
  have hle:=Ha (Cu n hv K) l;have ih:=fun h'=>Sh (K:=K) (n:=n) hv hn (l:=l) h'
  unfold unk at ih hle ⊢;simp only [List.filter_cons]
  by_cases hs:s.name=n
  ·rw [hs,decide_eq_true hn,uR,if_pos rfl,decide_eq_false hv];simp;omega
  ·have h':∃ s∈l,s.name=n:=by
    obtain ⟨s',h1,h2⟩:=h;rcases List.mem_cons.1 h1 with rfl | h1
    ·exact absurd h2 hs
    ·exact ⟨s',h1,h2⟩
   have ih:=ih h';rw [uR,if_neg hs];split<;>simp<;>omega
theorem Rj {go:ByteArray→KM→Int×KM}:∀ (xs:List ByteArray) (K:KM) (l:Int),l≤(bC go xs K l).2.1
 | [],K,l=>Int.le_refl _
 | x::xs,K,l=>by
  unfold bC;split
  ·exact Int.le_refl _
  ·exact Int.le_trans (Int.le_max_left _ _) (Rj xs _ _)
theorem nY {go:ByteArray→KM→Int×KM} (hg:∀ x K,grows K (go x K).2):∀ (xs:List ByteArray) (K:KM) (l:Int),grows K (bC go xs K l).2.2
 | [],K,l=>grows.refl K
 | x::xs,K,l=>by
  unfold bC;split
  ·exact hg x K
  ·exact (hg x K).trans (nY hg xs _ _)
theorem nZ (p:ProjR):∀ (f:Nat) (n:ByteArray) (K:KM),grows K (aY p f n K).2
 | 0,n,K=>grows.refl K
 | f+1,n,K=>by
  unfold aY;split
  ·exact grows.refl K
  ·have h:=(Cu n (v := -1) (by decide) K).trans (nY (nZ p f) (eT p n) (kX n (-1) K) 1);split
   ·refine h.trans (Cu _ ?_ _);have:=Rj (go:=aY p f) (eT p n) (kX n (-1) K) 1;omega
   ·exact h
structure SeqOk (s:SequenceR):Prop where
 hv:s.video.length≤8
 hs:s.sound.length≤8
 hm:∀ t∈s.video++s.sound,t.length≤maxLen
 hz:∀ kind, ∀ x∈cX kind (cP s),x.size≤maxLen
 hn:∀ kind,(cX kind (cP s)).length≤1000000
structure ShownOk (p:ProjR):Prop where
 ok:∀ s∈p.seqs,SeqOk s
 there:∀ s∈p.seqs, ∀ x∈cX 2 (cP s),(eR p.seqs x).isSome=true
theorem zC {s:SequenceR} {kind:Int} {x:ByteArray}:x∈tM s kind ↔ x∈cX kind (cP s):=by
 unfold tM;rw [(sY _).mem_iff,Av]
set_option maxHeartbeats 4000000 in
theorem aNf (p:ProjR) (hp:ShownOk p):∀ (f:Nat) (n:ByteArray) (K:KM),(eR p.seqs n).isSome=true→unk p.seqs K<f →
  CIO Tryz.prog 145 1 [(0, .map (kE K))] [vcat p,bP n, .own 0] (aC (aY p f n K).1) [(0, .map (kE (aY p f n K).2))] 1
 | 0,n,K,_,h=>absurd h (Nat.not_lt_zero _)
 | f+1,n,K,hs,hk=>by
  obtain ⟨s,hsn⟩:=Option.isSome_iff_exists.1 hs;obtain ⟨hsm,hsname⟩:=mE hsn;have hso:=hp.ok s hsm;have ih:=aNf p hp f;refine zN Tryz.X145 Tryz.func145 rfl Tryz.ntmps145 (by rw [Tryz.results145]) (aD _ ?_)
  by_cases hv:cT n K=0
  ·have e0:aY p (f+1) n K=if (bC (aY p f) (eT p n) (kX n (-1) K) 1).1=true
   then ((bC (aY p f) (eT p n) (kX n (-1) K) 1).2.1,kX n (bC (aY p f) (eT p n) (kX n (-1) K) 1).2.1 (bC (aY p f) (eT p n) (kX n (-1) K) 1).2.2)
   else (0,(bC (aY p f) (eT p n) (kX n (-1) K) 1).2.2):=by
    conv=>lhs;unfold aY
    rw [if_neg (fun h=>h hv)]
   have hin:eT p n=tM s 2:=by unfold eT;rw [hsn];rfl
   obtain ⟨ns,hns⟩:∃ ns,ns=tM s 2:=⟨_,rfl⟩
   rw [hin, ← hns] at e0;have hu:unk p.seqs (kX n (-1) K)<f:=Nat.lt_of_lt_of_le (Sh (by decide) hv ⟨s,hsm,hsname⟩) (Nat.le_of_lt_succ hk);have hthere:∀ x∈ns,(eR p.seqs x).isSome=true:=fun x hx=>hp.there s hsm x (zC.1 (hns ▸ hx))
   obtain ⟨K1,hK1⟩:∃ K1,K1=kX n (-1) K:=⟨_,rfl⟩
   have hnl:ns.length≤1000000:=by
    rw [hns];unfold tM;rw [(sY _).length_eq];exact Nat.le_trans (pR _) (hso.hn 2)
   rw [← hK1] at e0 hu;rw [e0];clear e0;rcases hg:Fm n K with _ | v
   ·simp only [go_sem,simprocAttr,Ke,hg,Option.map_none];refine ⟨_,aN6 p n 2 s hsn hso.hv hso.hs hso.hm (hso.hz 2) (hso.hn 2),?_⟩;simp only [go_sem,simprocAttr,Xh];rw [← hns, ← hK1];refine aF (fun (k:Nat) σ => Fd 0 (.map (kE (bC (aY p f) (ns.take k) K1 1).2.2)) (bL 8 (aC (bC (aY p f) (ns.take k) K1 1).2.1) (bL 25 (aC k) (aX [10,11,26,27,28,29,30,31,32,33,34,35,36,37,38,39] (bF σ))))) (fun k=>k≤ns.length∧(bC (aY p f) (ns.take k) K1 1).1=true) (fun k=>ns.length - k) 0 (aA ?_) ⟨Nat.zero_le _,rfl⟩ ?_
    ·simp only [go_sem,simprocAttr]<;>simp [bC,wX]
    ·rintro k ⟨hk,hok⟩;refine aD _ ?_;simp only [go_sem,simprocAttr];refine ⟨fun hlt=>?_,fun hge=>?_⟩
     ·simp only [bxx] at hlt;have hk':k<ns.length:=by omega
      obtain ⟨x,hx⟩:∃ x,x=ns.getD k default:=⟨_,rfl⟩
      have hxm:x∈ns:=by rw [hx,aU hk'];exact List.getElem_mem hk'
      obtain ⟨r,hr⟩:∃ r,r=bC (aY p f) (ns.take k) K1 1:=⟨_,rfl⟩
      have hur:unk p.seqs r.2.2<f:=Nat.lt_of_le_of_lt (Ha (hr ▸ nY (nZ p f) (ns.take k) K1 1) p.seqs) hu;have hsn':=wE (aY p f) x (ns.take k) K1 1;rw [← hr,if_pos (hr ▸ hok),hx, ← bY hk', ← hx] at hsn';rw [← hr];unfold awS;simp only [go_sem,simprocAttr,hk',List.length_map];have hxd:ns.getD k { data := #[] }=x:=by rw [hx];rfl
      rw [hxd];refine ⟨⟨by omega,by omega⟩,vS Tryz.X145 (gX (ih x r.2.2 (hthere x hxm) hur) [0] rfl (by omega) (by decide) ?_ rfl rfl rfl rfl ?_)⟩
      ·simp only [go_sem,simprocAttr,(nP id _).2,(nP _ _).1]
      ·simp only [go_sem,simprocAttr];refine brW (b:=decide ((aY p f x r.2.2).1=0)) rfl ⟨fun h0=>?_,fun h0=>?_⟩
       ·rw [decide_eq_true_eq] at h0;rw [if_pos h0] at hsn';unfold awS;simp only [go_sem,simprocAttr];have hst:=wD (go:=aY p f) (xs:=ns.take (k+1)) (K:=K1) (l:=1) (ns.drop (k+1)) (by rw [hsn']);rw [List.take_append_drop,hsn'] at hst;rw [hst];refine aA ?_;simp only [go_sem,simprocAttr]<;>simp [nP]
       ·rw [decide_eq_false_iff_not] at h0;rw [if_neg h0] at hsn';unfold awS;simp only [go_sem,simprocAttr];refine ⟨k+1,aA ?_,⟨by omega,by rw [hsn']⟩,by omega⟩;simp only [go_sem,simprocAttr];rw [hsn'];simp [bJ (show k<9223372036854775807 by omega),nP]
     ·simp only [bxx] at hge;unfold awS;simp only [go_sem,simprocAttr];rw [List.take_of_length_le (show ns.length≤k by omega)] at hok;rw [List.take_of_length_le (show ns.length≤k by omega)];rw [hok,if_pos rfl];refine aA ?_;simp only [go_sem,simprocAttr,Xh]<;>simp
   ·have hv0:v=0:=by simpa [cT,hg] using hv
    subst hv0;simp only [go_sem,simprocAttr,Ke,hg,Option.map_some];refine ⟨_,aN6 p n 2 s hsn hso.hv hso.hs hso.hm (hso.hz 2) (hso.hn 2),?_⟩;simp only [go_sem,simprocAttr,Xh];rw [← hns, ← hK1];refine aF (fun (k:Nat) σ => Fd 0 (.map (kE (bC (aY p f) (ns.take k) K1 1).2.2)) (bL 8 (aC (bC (aY p f) (ns.take k) K1 1).2.1) (bL 25 (aC k) (aX [10,11,26,27,28,29,30,31,32,33,34,35,36,37,38,39] (bF σ))))) (fun k=>k≤ns.length∧(bC (aY p f) (ns.take k) K1 1).1=true) (fun k=>ns.length - k) 0 (aA ?_) ⟨Nat.zero_le _,rfl⟩ ?_
    ·simp only [go_sem,simprocAttr]<;>simp [bC,wX]
    ·rintro k ⟨hk,hok⟩;refine aD _ ?_;simp only [go_sem,simprocAttr];refine ⟨fun hlt=>?_,fun hge=>?_⟩
     ·simp only [bxx] at hlt;have hk':k<ns.length:=by omega
      obtain ⟨x,hx⟩:∃ x,x=ns.getD k default:=⟨_,rfl⟩
      have hxm:x∈ns:=by rw [hx,aU hk'];exact List.getElem_mem hk'
      obtain ⟨r,hr⟩:∃ r,r=bC (aY p f) (ns.take k) K1 1:=⟨_,rfl⟩
      have hur:unk p.seqs r.2.2<f:=Nat.lt_of_le_of_lt (Ha (hr ▸ nY (nZ p f) (ns.take k) K1 1) p.seqs) hu;have hsn':=wE (aY p f) x (ns.take k) K1 1;rw [← hr,if_pos (hr ▸ hok),hx, ← bY hk', ← hx] at hsn';rw [← hr];unfold awS;simp only [go_sem,simprocAttr,hk',List.length_map];have hxd:ns.getD k { data := #[] }=x:=by rw [hx];rfl
      rw [hxd];refine ⟨⟨by omega,by omega⟩,vS Tryz.X145 (gX (ih x r.2.2 (hthere x hxm) hur) [0] rfl (by omega) (by decide) ?_ rfl rfl rfl rfl ?_)⟩
      ·simp only [go_sem,simprocAttr,(nP id _).2,(nP _ _).1]
      ·simp only [go_sem,simprocAttr];refine brW (b:=decide ((aY p f x r.2.2).1=0)) rfl ⟨fun h0=>?_,fun h0=>?_⟩
       ·rw [decide_eq_true_eq] at h0;rw [if_pos h0] at hsn';unfold awS;simp only [go_sem,simprocAttr];have hst:=wD (go:=aY p f) (xs:=ns.take (k+1)) (K:=K1) (l:=1) (ns.drop (k+1)) (by rw [hsn']);rw [List.take_append_drop,hsn'] at hst;rw [hst];refine aA ?_;simp only [go_sem,simprocAttr]<;>simp [nP]
       ·rw [decide_eq_false_iff_not] at h0;rw [if_neg h0] at hsn';unfold awS;simp only [go_sem,simprocAttr];refine ⟨k+1,aA ?_,⟨by omega,by rw [hsn']⟩,by omega⟩;simp only [go_sem,simprocAttr];rw [hsn'];simp [bJ (show k<9223372036854775807 by omega),nP]
     ·simp only [bxx] at hge;unfold awS;simp only [go_sem,simprocAttr];rw [List.take_of_length_le (show ns.length≤k by omega)] at hok;rw [List.take_of_length_le (show ns.length≤k by omega)];rw [hok,if_pos rfl];refine aA ?_;simp only [go_sem,simprocAttr,Xh]<;>simp
  ·obtain ⟨v,hg⟩:∃ v,Fm n K=some v:=by
    cases h:Fm n K with
    | none=>exact absurd (by unfold cT;rw [h];rfl) hv
    | some v=>exact ⟨v,rfl⟩
   have hvv:cT n K=v:=by unfold cT;rw [hg];rfl
   have e0:aY p (f+1) n K=(max v 0,K):=by
    conv=>lhs;unfold aY
    rw [if_pos hv,hvv]
   rw [e0];simp only [go_sem,simprocAttr,Ke,hg,Option.map_some];refine brW (b:=true) (by rw [hvv] at hv;simpa using hv) ⟨fun _=>?_,fun h=>absurd h (by decide)⟩;unfold awS;simp only [go_sem,simprocAttr];refine aA ?_;simp only [go_sem,simprocAttr]<;>simp
open Go.RowKit
set_option maxRecDepth 4000
theorem aNt (f:FuncId):∀ (w:World) (E:Env) v,RdV w E (.t (.lit (.func (.func f) #[] #[]))) v→RdV w E (.clo f []) v:=by
 intro w E v h;obtain ⟨rfl,_⟩:=aG h;simp only [RdV];exact ⟨#[],rfl,by simp only [RdVs]⟩
theorem vZ {α : Type} [Inhabited α] {l:List α} {p : α → Bool} {k:Nat} (hk:k<l.length) (hi:∀ i,i<k→p (l.getD i default)=true) (h:p (l.getD k default)=false):l.findIdx (fun m => !p m)=k:=by
 rw [List.findIdx_eq hk];refine ⟨?_,fun j hj=>?_⟩
 ·rw [aU hk] at h;rw [h];rfl
 ·have:=hi j hj;rw [aU (by omega)] at this;rw [this];rfl
theorem cEveryS (t:List ClipR) (hm:t.length≤maxLen):aN Tryz.prog 202 [.t (dD t), .clo 203 []] (aP (t.all gH)):=by
 refine aH Tryz.X202 Tryz.func202 rfl Tryz.ntmps202 (by rw [Tryz.results202]) (aD _ ?_);simp only [go_sem,simprocAttr];refine aF (fun (k:Nat) σ => bL 9 (aC k) (aX [6,10,11,12,13,14,15,16,17] (bF σ))) (fun k=>k≤t.length ∧ ∀ i,i<k→gH (t.getD i default)=true) (fun k=>t.length - k) 0 (aA ?_) ⟨Nat.zero_le _,by omega⟩ ?_
 ·simp only [go_sem,simprocAttr]<;>simp
 ·rintro k ⟨hk,hi⟩;refine aD _ ?_;simp only [go_sem,simprocAttr];refine ⟨fun hlt=>?_,fun hge=>?_⟩
  ·simp only [bxx] at hlt;unfold awS;simp only [go_sem,simprocAttr];refine ⟨⟨by omega,by omega⟩,?_⟩;refine pZ (aN0 _) rfl ?_;simp only [go_sem,simprocAttr];refine ⟨fun h2=>?_,fun h2=>?_⟩
   ·unfold awS;simp only [go_sem,simprocAttr];rw [cA (d:=default) (p:=gH) (k:=k) (by omega) (nt h2)]
   ·unfold awS;simp only [go_sem,simprocAttr];refine ⟨k+1,aA ?_,⟨by omega,upto hi (nf h2)⟩,by omega⟩;simp only [go_sem,simprocAttr]<;>simp [cY (show k<t.length by omega) hm]
  ·simp only [bxx] at hge;unfold awS;simp only [go_sem,simprocAttr];rw [bT (d:=default) (p:=gH) (fun i h2=>hi i (by omega))]
theorem aN7 (t:List ClipR) (hm:t.length≤maxLen):aN Tryz.prog 202 [.t (dD t), .t (.lit (.func (.func 203) #[] #[]))] (aP (t.all gH)) :=
 nL (.cons yA (.cons (aNt _) .nil)) (cEveryS t hm)
theorem cAud (s:SequenceR) (c:ClipR):aN Tryz.prog 204 [fH c, .elem 9 (SequenceR.c s) [SequenceR.c s] 0 0] (aP (rU s.channels c)):=by
 refine aH Tryz.X204 Tryz.func204 rfl Tryz.ntmps204 (by rw [Tryz.results204]) (aD _ ?_);simp only [go_sem,simprocAttr,Tr,SequenceR.c];refine ⟨_,aHd c s.channels,?_⟩;simp only [go_sem,simprocAttr]
theorem cEveryA (s:SequenceR) (t:List ClipR) (hm:t.length≤maxLen):aN Tryz.prog 202 [.t (dD t), .clo 204 [.elem 9 (SequenceR.c s) [SequenceR.c s] 0 0]] (aP (t.all (rU s.channels))):=by
 refine aH Tryz.X202 Tryz.func202 rfl Tryz.ntmps202 (by rw [Tryz.results202]) (aD _ ?_);simp only [go_sem,simprocAttr];refine aF (fun (k:Nat) σ => bL 9 (aC k) (aX [6,10,11,12,13,14,15,16,17] (bF σ))) (fun k=>k≤t.length ∧ ∀ i,i<k→(rU s.channels) (t.getD i default)=true) (fun k=>t.length - k) 0 (aA ?_) ⟨Nat.zero_le _,by omega⟩ ?_
 ·simp only [go_sem,simprocAttr]<;>simp
 ·rintro k ⟨hk,hi⟩;refine aD _ ?_;simp only [go_sem,simprocAttr];refine ⟨fun hlt=>?_,fun hge=>?_⟩
  ·simp only [bxx] at hlt;unfold awS;simp only [go_sem,simprocAttr];refine ⟨⟨by omega,by omega⟩,?_⟩;refine pZ (cAud s _) rfl ?_;simp only [go_sem,simprocAttr];refine ⟨fun h2=>?_,fun h2=>?_⟩
   ·unfold awS;simp only [go_sem,simprocAttr];rw [cA (d:=default) (p:=(rU s.channels)) (k:=k) (by omega) (nt h2)]
   ·unfold awS;simp only [go_sem,simprocAttr];refine ⟨k+1,aA ?_,⟨by omega,upto hi (nf h2)⟩,by omega⟩;simp only [go_sem,simprocAttr]<;>simp [cY (show k<t.length by omega) hm]
  ·simp only [bxx] at hge;unfold awS;simp only [go_sem,simprocAttr];rw [bT (d:=default) (p:=(rU s.channels)) (fun i h2=>hi i (by omega))]
theorem cIdxM (l:List MediumR) (h:∀ m∈l,m.fit) (hm:l.length≤1000000):aN Tryz.prog 195 [.t (fC l), .clo 141 []] (aC (if l.all dH then -1 else (l.findIdx fun m => !dH m:Nat))):=by
 refine aH Tryz.X195 Tryz.func195 rfl Tryz.ntmps195 (by rw [Tryz.results195]) (aD _ ?_);simp only [go_sem,simprocAttr];refine aF (fun (k:Nat) σ => bL 8 (aC k) (aX [5,9,10,11,12,13,14,15,16,17,18] (bF σ))) (fun k=>k≤l.length ∧ ∀ i,i<k→dH (l.getD i default)=true) (fun k=>l.length - k) 0 (aA ?_) ⟨Nat.zero_le _,by omega⟩ ?_
 ·simp only [go_sem,simprocAttr]<;>simp
 ·rintro k ⟨hk,hi⟩;refine aD _ ?_;simp only [go_sem,simprocAttr];refine ⟨fun hlt=>?_,fun hge=>?_⟩
  ·simp only [bxx] at hlt;unfold awS;simp only [go_sem,simprocAttr];refine ⟨⟨by omega,by omega⟩,?_⟩;refine pZ (cPMed _ (h _ (aQ (by omega)))) rfl ?_;simp only [go_sem,simprocAttr];refine ⟨fun h2=>?_,fun h2=>?_⟩
   ·unfold awS;simp only [go_sem,simprocAttr];rw [cA (d:=default) (p:=dH) (k:=k) (by omega) (nt h2),if_neg Bool.false_ne_true,vZ (by omega) hi (nt h2)]
   ·unfold awS;simp only [go_sem,simprocAttr];refine ⟨k+1,aA ?_,⟨by omega,upto hi (nf h2)⟩,by omega⟩;simp only [go_sem,simprocAttr]<;>simp [bJ (show k<9223372036854775807 by omega)]
  ·simp only [bxx] at hge;unfold awS;simp only [go_sem,simprocAttr];rw [bT (d:=default) (p:=dH) (fun i h2=>hi i (by omega)),if_pos rfl]
theorem cHasM (l:List MediumR) (h:∀ m∈l,m.fit) (hm:l.length≤1000000):aN Tryz.prog 140 [.t (fC l), .t (.lit (.func (.func 141) #[] #[]))] (aP (!l.all dH)):=by
 refine nL (.cons yA (.cons (aNt _) .nil)) (args:=[.t (fC l), .clo 141 []]) ?_;refine aH Tryz.X140 Tryz.func140 rfl Tryz.ntmps140 (by rw [Tryz.results140]) (aD _ ?_);simp only [go_sem,simprocAttr];refine ⟨_,cIdxM l h hm,?_⟩;simp only [go_sem,simprocAttr];cases l.all dH<;>simp<;>omega
def qX (s:SequenceR):Bool:=cG s.name&&tD s.rate&&jP s.w&&jP s.h&&qM s.channels&&jB s.cues
def jK (t:List ClipR):Bool:=cC t&&t.all gH
def mX (ch:Int) (t:List ClipR):Bool:=cC t&&t.all (rU ch)
def cL (s:SequenceR):Bool:=qX s&&s.video.all jK&&s.sound.all (mX s.channels)
theorem wM {t:List ClipR} (h:cC t=true):t.length≤64:=by
 unfold cC at h;simp only [Bool.and_eq_true,decide_eq_true_eq] at h;exact h.1.1
theorem cMalS (s:SequenceR) (h:s.fit) (hv:s.video.length≤1000000) (hs:s.sound.length≤1000000):aN Tryz.prog 143 [fN s] (aP (!cL s)):=by
 refine aH Tryz.X143 Tryz.func143 rfl Tryz.ntmps143 (by rw [Tryz.results143]) (aD _ ?_);simp only [go_sem,simprocAttr];refine ⟨_,aCk s.name,?_⟩;simp only [go_sem,simprocAttr];refine ⟨_,fun _=>aN1 s.rate h.rate,?_⟩;simp only [go_sem,simprocAttr];refine ⟨_,fun _=>aMz s.w,?_⟩;simp only [go_sem,simprocAttr];refine ⟨_,fun _=>aMz s.h,?_⟩;simp only [go_sem,simprocAttr];refine ⟨_,fun _=>Fb s.channels,?_⟩;simp only [go_sem,simprocAttr];refine ⟨_,fun _=>aN4 s.cues h.cues,?_⟩;simp only [go_sem,simprocAttr];refine brW (b := !qX s) ?_ ⟨fun hh=>?_,fun hh=>?_⟩
 ·unfold qX;simp only [Bool.not_and]
 ·unfold awS;simp only [go_sem,simprocAttr];unfold cL;rw [nt hh];rfl
 ·unfold awS;simp only [go_sem,simprocAttr];refine aF (fun (k:Nat) σ => bL 44 (aC k) (aX [4,45,46,47,48,49,50,51,52,53,54,55,56] (bF σ))) (fun k=>k≤s.video.length ∧ ∀ i,i<k→jK (s.video.getD i default)=true) (fun k=>s.video.length - k) 0 (aA ?_) ⟨Nat.zero_le _,by omega⟩ ?_
  ·simp only [go_sem,simprocAttr]<;>simp
  ·rintro k ⟨hk,hi⟩;refine aD _ ?_;simp only [go_sem,simprocAttr];refine ⟨fun hlt=>?_,fun hge=>?_⟩
   ·simp only [bxx] at hlt;have hd:s.video.getD k []=s.video.getD k default:=rfl;have hmem:s.video.getD k default∈s.video:=aQ (by omega);unfold awS;simp only [go_sem,simprocAttr,hd];refine ⟨⟨by omega,by omega⟩,_,Bt _ (h.video _ hmem),?_⟩;simp only [go_sem,simprocAttr];refine ⟨_,fun hg=>aN7 _ (Nat.le_trans (wM (by simpa using hg)) (by decide)),?_⟩;simp only [go_sem,simprocAttr];refine brW (b := !jK (s.video.getD k default)) ?_ ⟨fun hc=>?_,fun hc=>?_⟩
    ·unfold jK
     (try simp only [bne]);cases (cC (s.video.getD k default))<;>cases ((s.video.getD k default).all gH)<;>rfl
    ·unfold awS;simp only [go_sem,simprocAttr];unfold cL;rw [cA (d:=default) (p:=jK) (k:=k) (by omega) (nt hc),Bool.and_false];rfl
    ·unfold awS;simp only [go_sem,simprocAttr];refine ⟨k+1,aA ?_,⟨by omega,upto hi (nf hc)⟩,by omega⟩;simp only [go_sem,simprocAttr]<;>simp [bJ (show k<9223372036854775807 by omega)]
   ·simp only [bxx] at hge;have hva:s.video.all jK=true:=bT (d:=default) (p:=jK) (fun i h2=>hi i (by omega));unfold awS;simp only [go_sem,simprocAttr];refine aF (fun (k:Nat) σ => bL 60 (aC k) (aX [6,61,62,63,64,65,66,67,68,69,70,71,72,73] (bF σ))) (fun k=>k≤s.sound.length ∧ ∀ i,i<k→mX s.channels (s.sound.getD i default)=true) (fun k=>s.sound.length - k) 0 (aA ?_) ⟨Nat.zero_le _,by omega⟩ ?_
    ·simp only [go_sem,simprocAttr]<;>simp
    ·rintro k ⟨hk,hi⟩;refine aD _ ?_;simp only [go_sem,simprocAttr];refine ⟨fun hlt=>?_,fun hge=>?_⟩
     ·simp only [bxx] at hlt;have hd:s.sound.getD k []=s.sound.getD k default:=rfl;have hmem:s.sound.getD k default∈s.sound:=aQ (by omega);unfold awS;simp only [go_sem,simprocAttr,hd];refine ⟨⟨by omega,by omega⟩,_,Bt _ (h.sound _ hmem),?_⟩;simp only [go_sem,simprocAttr];refine ⟨_,fun hg=>cEveryA s _ (Nat.le_trans (wM (by simpa using hg)) (by decide)),?_⟩;simp only [go_sem,simprocAttr];refine brW (b := !mX s.channels (s.sound.getD k default)) ?_ ⟨fun hc=>?_,fun hc=>?_⟩
      ·unfold mX
       (try simp only [bne]);cases (cC (s.sound.getD k default))<;>cases ((s.sound.getD k default).all (rU s.channels))<;>rfl
      ·unfold awS;simp only [go_sem,simprocAttr];unfold cL;rw [cA (d:=default) (p:=mX s.channels) (k:=k) (by omega) (nt hc),Bool.and_false];rfl
      ·unfold awS;simp only [go_sem,simprocAttr];refine ⟨k+1,aA ?_,⟨by omega,upto hi (nf hc)⟩,by omega⟩;simp only [go_sem,simprocAttr]<;>simp [bJ (show k<9223372036854775807 by omega)]
     ·simp only [bxx] at hge;unfold awS;simp only [go_sem,simprocAttr];unfold cL;rw [nf hh,hva,bT (d:=default) (p:=mX s.channels) (fun i h2=>hi i (by omega))];rfl
theorem cIdxS (l:List SequenceR) (h:∀ m∈l,m.fit) (hm:l.length≤1000000) (hl:∀ s∈l,s.video.length≤1000000∧s.sound.length≤1000000):aN Tryz.prog 200 [.t (gV l), .clo 143 []] (aC (if l.all cL then -1 else (l.findIdx fun m => !cL m:Nat))):=by
 refine aH Tryz.X200 Tryz.func200 rfl Tryz.ntmps200 (by rw [Tryz.results200]) (aD _ ?_);simp only [go_sem,simprocAttr];refine aF (fun (k:Nat) σ => bL 8 (aC k) (aX [5,9,10,11,12,13,14,15,16,17,18] (bF σ))) (fun k=>k≤l.length ∧ ∀ i,i<k→cL (l.getD i default)=true) (fun k=>l.length - k) 0 (aA ?_) ⟨Nat.zero_le _,by omega⟩ ?_
 ·simp only [go_sem,simprocAttr]<;>simp
 ·rintro k ⟨hk,hi⟩;refine aD _ ?_;simp only [go_sem,simprocAttr];refine ⟨fun hlt=>?_,fun hge=>?_⟩
  ·simp only [bxx] at hlt;unfold awS;simp only [go_sem,simprocAttr];refine ⟨⟨by omega,by omega⟩,?_⟩;refine pZ (cMalS _ (h _ (aQ (by omega))) (hl _ (aQ (by omega))).1 (hl _ (aQ (by omega))).2) rfl ?_;simp only [go_sem,simprocAttr];refine ⟨fun h2=>?_,fun h2=>?_⟩
   ·unfold awS;simp only [go_sem,simprocAttr];rw [cA (d:=default) (p:=cL) (k:=k) (by omega) (nt h2),if_neg Bool.false_ne_true,vZ (by omega) hi (nt h2)]
   ·unfold awS;simp only [go_sem,simprocAttr];refine ⟨k+1,aA ?_,⟨by omega,upto hi (nf h2)⟩,by omega⟩;simp only [go_sem,simprocAttr]<;>simp [bJ (show k<9223372036854775807 by omega)]
  ·simp only [bxx] at hge;unfold awS;simp only [go_sem,simprocAttr];rw [bT (d:=default) (p:=cL) (fun i h2=>hi i (by omega)),if_pos rfl]
theorem cHasS (l:List SequenceR) (h:∀ m∈l,m.fit) (hm:l.length≤1000000) (hl:∀ s∈l,s.video.length≤1000000∧s.sound.length≤1000000):aN Tryz.prog 142 [.t (gV l), .t (.lit (.func (.func 143) #[] #[]))] (aP (!l.all cL)):=by
 refine nL (.cons yA (.cons (aNt _) .nil)) (args:=[.t (gV l), .clo 143 []]) ?_;refine aH Tryz.X142 Tryz.func142 rfl Tryz.ntmps142 (by rw [Tryz.results142]) (aD _ ?_);simp only [go_sem,simprocAttr];refine ⟨_,cIdxS l h hm hl,?_⟩;simp only [go_sem,simprocAttr];cases l.all cL<;>simp<;>omega
def dE (m:MediumR):Bool:=decide ((m.cues.length:Int)≤64)
def cR (s:SequenceR):Bool:=decide ((s.video.length:Int)≤8)&&decide ((s.sound.length:Int)≤8)&&decide ((s.cues.length:Int)≤64)
def cK (p:ProjR):Bool:=decide ((p.media.length:Int)≤16)&&decide ((p.seqs.length:Int)≤16)&&p.media.all dE&&p.seqs.all cR
theorem mG (a b:Int):decide (a > b) = !decide (a≤b):=by
 by_cases h:a≤b
 ·rw [decide_eq_true h,decide_eq_false (by omega)];rfl
 ·rw [decide_eq_false h,decide_eq_true (by omega)];rfl
theorem cLarge (p:ProjR):aN Tryz.prog 139 [eD p] (aP (!cK p)):=by
 refine aH Tryz.X139 Tryz.func139 rfl Tryz.ntmps139 (by rw [Tryz.results139]) (aD _ ?_);simp only [go_sem,simprocAttr];refine brW (b := !(decide ((p.media.length:Int)≤16)&&decide ((p.seqs.length:Int)≤16))) ?_ ⟨fun hh=>?_,fun hh=>?_⟩
 ·rw [mG,mG,Bool.not_and]
 ·unfold awS;simp only [go_sem,simprocAttr];unfold cK;rw [nt hh];rfl
 ·have hh2:=nf hh;simp only [Bool.and_eq_true,decide_eq_true_eq] at hh2;unfold awS;simp only [go_sem,simprocAttr];refine aF (fun (k:Nat) σ => bL 20 (aC k) (aX [4,21,22,23,24,25,26,27,28] (bF σ))) (fun k=>k≤p.media.length ∧ ∀ i,i<k→dE (p.media.getD i default)=true) (fun k=>p.media.length - k) 0 (aA ?_) ⟨Nat.zero_le _,by omega⟩ ?_
  ·simp only [go_sem,simprocAttr]<;>simp
  ·rintro k ⟨hk,hi⟩;refine aD _ ?_;simp only [go_sem,simprocAttr];refine ⟨fun hlt=>?_,fun hge=>?_⟩
   ·simp only [bxx] at hlt;unfold awS;simp only [go_sem,simprocAttr];refine ⟨⟨by omega,by omega⟩,?_⟩;refine brW (b := !dE (p.media.getD k default)) ?_ ⟨fun hc=>?_,fun hc=>?_⟩
    ·unfold dE;exact mG _ _
    ·unfold awS;simp only [go_sem,simprocAttr];unfold cK;rw [nf hh,cA (d:=default) (p:=dE) (k:=k) (by omega) (nt hc)];rfl
    ·unfold awS;simp only [go_sem,simprocAttr];refine ⟨k+1,aA ?_,⟨by omega,upto hi (nf hc)⟩,by omega⟩;simp only [go_sem,simprocAttr]<;>simp [bJ (show k<9223372036854775807 by omega)]
   ·simp only [bxx] at hge;have hva:p.media.all dE=true:=bT (d:=default) (p:=dE) (fun i h2=>hi i (by omega));unfold awS;simp only [go_sem,simprocAttr];refine aF (fun (k:Nat) σ => bL 32 (aC k) (aX [6,33,34,35,36,37,38,39,40,41,42,43,44,45,46,47,48,49,50,51,52] (bF σ))) (fun k=>k≤p.seqs.length ∧ ∀ i,i<k→cR (p.seqs.getD i default)=true) (fun k=>p.seqs.length - k) 0 (aA ?_) ⟨Nat.zero_le _,by omega⟩ ?_
    ·simp only [go_sem,simprocAttr]<;>simp
    ·rintro k ⟨hk,hi⟩;refine aD _ ?_;simp only [go_sem,simprocAttr];refine ⟨fun hlt=>?_,fun hge=>?_⟩
     ·simp only [bxx] at hlt;unfold awS;simp only [go_sem,simprocAttr];refine ⟨⟨by omega,by omega⟩,?_⟩;refine brW (b := !cR (p.seqs.getD k default)) ?_ ⟨fun hc=>?_,fun hc=>?_⟩
      ·unfold cR;rw [mG,mG,mG,Bool.not_and,Bool.not_and]
      ·unfold awS;simp only [go_sem,simprocAttr];unfold cK;rw [nf hh,hva,cA (d:=default) (p:=cR) (k:=k) (by omega) (nt hc)];rfl
      ·unfold awS;simp only [go_sem,simprocAttr];refine ⟨k+1,aA ?_,⟨by omega,upto hi (nf hc)⟩,by omega⟩;simp only [go_sem,simprocAttr]<;>simp [bJ (show k<9223372036854775807 by omega)]
     ·simp only [bxx] at hge;unfold awS;simp only [go_sem,simprocAttr];unfold cK;rw [nf hh,hva,bT (d:=default) (p:=cR) (fun i h2=>hi i (by omega))];rfl
open Go.RowKit
set_option maxRecDepth 4000
def bV (p:ProjR):List SequenceR→KM→Bool×KM
 | [],K=>(true,K)
 | s::l,K=>if (aY p (p.seqs.length+1) s.name K).1=0 then (false,(aY p (p.seqs.length+1) s.name K).2) else bV p l (aY p (p.seqs.length+1) s.name K).2
theorem Fa (p:ProjR) (x:SequenceR):∀ (xs:List SequenceR) (K:KM),bV p (xs ++ [x]) K =
  if (bV p xs K).1=true then (if (aY p (p.seqs.length+1) x.name (bV p xs K).2).1=0 then (false,(aY p (p.seqs.length+1) x.name (bV p xs K).2).2) else (true,(aY p (p.seqs.length+1) x.name (bV p xs K).2).2)) else bV p xs K
 | [],K=>by by_cases h:(aY p (p.seqs.length+1) x.name K).1=0<;>simp [bV,h]
 | y::xs,K=>by
  simp only [List.cons_append,bV];split
  ·rfl
  ·exact Fa p x xs _
theorem Ez {p:ProjR}:∀ {xs:List SequenceR} {K:KM} (ys:List SequenceR),(bV p xs K).1=false→bV p (xs++ys) K=bV p xs K
 | [],K,ys,h=>by unfold bV at h;cases h
 | x::xs,K,ys,h=>by
  by_cases h0:(aY p (p.seqs.length+1) x.name K).1=0
  ·simp [bV,h0]
  ·simp only [List.cons_append,bV,if_neg h0] at h ⊢;exact Ez ys h
def wB (K:KM) (s:SequenceR):Bool:=decide (cT s.name K≤5)
def yE (p:ProjR):Bool := !(decide (((Nj p.media).length:Int)<p.media.length)||decide (((Mb p.seqs).length:Int)<p.seqs.length))
def cB (p:ProjR):Int :=
 if cK p=false then 5 else
 if (p.media.all dH&&p.seqs.all cL)=false then 1 else
 if yE p=false then 8 else
 if p.seqs.all (fR p)=false then 7 else
 if (bV p p.seqs []).1=false then 16 else
 if p.seqs.all (wB (bV p p.seqs []).2)=false then 18 else 0
theorem sP {l:List (List ClipR)} (h:∀ t∈l,t.length≤64):l.flatten.length≤64*l.length:=by
 induction l with
 | nil=>simp
 | cons t l ih =>
  have h1:=h t (by simp);have h2:=ih fun u hu=>h u (by simp [hu])
  simp only [List.flatten_cons,List.length_append,List.length_cons];omega
theorem Jw (kind:Int):∀ l:List ClipR,(cX kind l).length≤2*l.length
 | []=>by simp [cX]
 | c::l=>by
  have ih:=Jw kind l;rw [show c::l = [c]++l from rfl,yL];simp only [List.length_append,List.length_cons,List.length_nil];have:(cX kind [c]).length≤2:=by
   unfold cX;rw [List.length_map];refine Nat.le_trans (List.length_filter_le _ _) ?_;simp
  omega
theorem Ka {kind:Int} {l:List ClipR} {x:ByteArray} (h:x∈cX kind l):∃ c∈l, ∃ s:SourceR,(s=c.a∨s=c.b)∧s.kind=kind∧s.name=x:=by
 unfold cX at h;obtain ⟨s,h1,rfl⟩:=List.mem_map.1 h;rw [List.mem_filter,List.mem_flatMap] at h1;obtain ⟨⟨c,hc,h2⟩,h3⟩:=h1;simp only [List.mem_cons,List.not_mem_nil,or_false] at h2;exact ⟨c,hc,s,h2,by simpa using h3,rfl⟩
theorem Nq {s:SequenceR} (h:cL s=true):∀ t∈s.video++s.sound,cC t=true:=by
 unfold cL at h;simp only [Bool.and_eq_true,List.all_eq_true] at h;intro t ht;rcases List.mem_append.1 ht with ht | ht
 ·have:=h.1.2 t ht;unfold jK at this;simp only [Bool.and_eq_true] at this;exact this.1
 ·have:=h.2 t ht;unfold mX at this;simp only [Bool.and_eq_true] at this;exact this.1
theorem Vz {s:SourceR} (h:aS s=true):s.name.size≤maxLen:=by
 unfold aS at h;rw [Bool.or_eq_true] at h;rcases h with h | h
 ·unfold SourceR.isZ SourceR.eqb zSource at h;simp only [Bool.and_eq_true,beq_iff_eq] at h;rw [sS h.1.1.1.1.1.2];decide
 ·simp only [Bool.and_eq_true,cG,decide_eq_true_eq] at h;have:=h.1.1.1.1.1.2.1.2;unfold maxLen;omega
theorem aH4 {c:ClipR} (h:bQ c=true):aS c.a=true∧aS c.b=true :=
 ⟨(eF h).2.2.2.2.2.1,(eF h).2.2.2.2.2.2.1⟩
theorem aJv {s:SequenceR} (hS:cR s=true) (h:cL s=true):SeqOk s:=by
 have ht:=Nq h;have hl:∀ t∈s.video++s.sound,t.length≤64:=fun t h'=>wM (ht t h')
 unfold cR at hS;simp only [Bool.and_eq_true,decide_eq_true_eq] at hS;have hcl:(cP s).length≤1024:=by
  have:=sP hl;rw [List.length_append] at this;unfold cP;omega
 refine ⟨by omega,by omega,fun t h'=>Nat.le_trans (hl t h') (by decide),fun kind x hx=>?_,fun kind=>?_⟩
 ·obtain ⟨c,hc,src,h1,_,rfl⟩:=Ka hx;unfold cP at hc;obtain ⟨t,h2,h3⟩:=List.mem_flatten.1 hc;have h4:=ht t h2;unfold cC at h4;simp only [Bool.and_eq_true,List.all_eq_true] at h4;have h5:=aH4 (h4.1.2 c h3);rcases h1 with rfl | rfl
  ·exact Vz h5.1
  ·exact Vz h5.2
 ·have:=Jw kind (cP s);omega
theorem Hp {p:ProjR} (hS:cK p=true) (h:(p.media.all dH&&p.seqs.all cL)=true) (hc:p.seqs.all (fR p)=true):ShownOk p:=by
 unfold cK at hS;simp only [Bool.and_eq_true,List.all_eq_true,decide_eq_true_eq] at hS h hc;refine ⟨fun s hs=>aJv (hS.2 s hs) (h.2 s hs),fun s hs x hx=>?_⟩;obtain ⟨c,hcm,src,h1,h2,rfl⟩:=Ka hx;have h3:=hc s hs;unfold fR at h3;rw [List.all_eq_true] at h3;have h4:=h3 c hcm;unfold dJ at h4;rw [Bool.and_eq_true] at h4;have key:∀ src:SourceR,cQ p src=true→src.kind=2→(eR p.seqs src.name).isSome=true:=fun src h5 h6=>by
  unfold cQ at h5;rw [h6] at h5;cases h7:eR p.seqs src.name with
  | none=>rw [h7] at h5;simp at h5
  | some s=>rfl
 rcases h1 with rfl | rfl
 ·exact key _ h4.1 h2
 ·exact key _ h4.2 h2
set_option maxHeartbeats 4000000 in
theorem aMj (p:ProjR) (h:p.fit):aN Tryz.prog 70 [eD p] (aC (cB p)):=by
 refine aH Tryz.X70 Tryz.func70 rfl Tryz.ntmps70 (by rw [Tryz.results70]) (cE fun hf=>aD _ ?_);simp only [go_sem,↓reduceIte,Nat.reduceAdd,Nat.reduceSub,Nat.reduceLeDiff,reduceCtorEq];refine ⟨_,cLarge p,?_⟩;simp only [go_sem];refine ⟨fun h1=>?_,fun h1=>?_⟩
 ·unfold awS;simp only [go_sem,↓reduceIte,Nat.reduceLeDiff];exact ⟨pT,by unfold cB;rw [nt h1];rfl⟩
 ·have hS:=nf h1;have hS2:=hS;unfold cK at hS2;simp only [Bool.and_eq_true,decide_eq_true_eq,List.all_eq_true] at hS2;have hsl:∀ s∈p.seqs,s.video.length≤1000000∧s.sound.length≤1000000:=fun s hs=>by
   have h2:=hS2.2 s hs;unfold cR at h2;simp only [Bool.and_eq_true,decide_eq_true_eq] at h2;omega
  unfold awS;simp only [go_sem,↓reduceIte,reduceCtorEq];refine ⟨_,cHasM p.media h.media (by omega),?_⟩;simp only [go_sem,↓reduceIte,reduceCtorEq];refine ⟨_,fun _=>cHasS p.seqs h.seqs (by omega) hsl,?_⟩;simp only [go_sem,↓reduceIte];refine brW (b := !(p.media.all dH&&p.seqs.all cL)) ?_ ⟨fun h2=>?_,fun h2=>?_⟩
  ·rw [Bool.not_and]
  ·unfold awS;simp only [go_sem,↓reduceIte,Nat.reduceLeDiff];exact ⟨pT,by unfold cB;rw [hS,nt h2];rfl⟩
  ·have hO:=nf h2;unfold awS;simp only [go_sem,↓reduceIte,Nat.reduceAdd,Nat.reduceLeDiff,reduceCtorEq];refine qE (cCat p (by omega) (by omega)) rfl ?_;simp only [go_sem,↓reduceIte,Nat.reduceAdd,Nat.reduceLeDiff,reduceCtorEq];refine brW (b := !yE p) ?_ ⟨fun h3=>?_,fun h3=>?_⟩
   ·unfold yE;simp only [Bool.not_not]
   ·unfold awS;simp only [go_sem,↓reduceIte,Nat.reduceLeDiff,Nat.reduceEqDiff];exact ⟨pT,by unfold cB;rw [hS,hO,nt h3];rfl⟩
   ·have hU:=nf h3;unfold awS;simp only [go_sem,↓reduceIte,reduceCtorEq];refine aF (fun (k:Nat) σ => bL 43 (aC k) (aX [5,44,45,46,47,48,49,50,51] (bF σ))) (fun k=>k≤p.seqs.length ∧ ∀ i,i<k→fR p (p.seqs.getD i default)=true) (fun k=>p.seqs.length - k) 0 (aA ?_) ⟨Nat.zero_le _,by omega⟩ ?_
    ·simp only [go_sem,Nat.reduceLT,↓reduceIte,Nat.reduceLeDiff,Nat.reduceEqDiff,reduceCtorEq]<;>simp
    ·rintro k ⟨hk,hi⟩;refine aD _ ?_;simp only [go_sem,↓reduceIte,Nat.reduceEqDiff,reduceCtorEq];refine ⟨fun hlt=>?_,fun hge=>?_⟩
     ·simp only [decide_eq_true_eq] at hlt;have hmem:p.seqs.getD k default∈p.seqs:=aQ (by omega);have hok:=aJv (hS2.2 _ hmem) (by rw [Bool.and_eq_true,List.all_eq_true,List.all_eq_true] at hO;exact hO.2 _ hmem);unfold awS;simp only [go_sem,↓reduceIte,Nat.reduceAdd,Nat.reduceLeDiff,Nat.reduceEqDiff];refine ⟨⟨by omega,by omega⟩,_,cCompl p _ hok.hv hok.hs hok.hm,?_⟩;simp only [go_sem];refine brW (b := !fR p (p.seqs.getD k default)) ?_ ⟨fun hc=>?_,fun hc=>?_⟩
      ·rfl
      ·unfold awS;simp only [go_sem,↓reduceIte,Nat.reduceLeDiff,Nat.reduceEqDiff];exact ⟨pT,by unfold cB;rw [hS,hO,hU,cA (d:=default) (p:=fR p) (k:=k) (by omega) (nt hc)];rfl⟩
      ·unfold awS;simp only [go_sem,↓reduceIte];refine ⟨k+1,aA ?_,⟨by omega,upto hi (nf hc)⟩,by omega⟩;simp only [go_sem,Nat.reduceLT,↓reduceIte,Nat.reduceLeDiff,Nat.reduceEqDiff,reduceCtorEq]<;>simp [bJ (show k<9223372036854775807 by omega)]
     ·simp only [decide_eq_false_iff_not] at hge;have hC:p.seqs.all (fR p)=true:=bT (d:=default) (p:=fR p) (fun i h2=>hi i (by omega));have hSh:=Hp hS hO hC;unfold awS;simp only [go_sem,↓reduceIte,Nat.reduceAdd,reduceCtorEq];refine aF (fun (k:Nat) σ => Fd 3 (.map (kE (bV p (p.seqs.take k) []).2)) (bL 56 (aC k) (aX [8,57,58,59,60,61,62,63,64,65,66] (bF σ)))) (fun k=>k≤p.seqs.length∧(bV p (p.seqs.take k) []).1=true) (fun k=>p.seqs.length - k) 0 (aA ?_) ⟨Nat.zero_le _,rfl⟩ ?_
      ·simp only [go_sem,Nat.reduceLT,↓reduceIte,Nat.reduceLeDiff,Nat.reduceEqDiff,reduceCtorEq]<;>simp [bV,kE]
      ·rintro k ⟨hk,hok⟩;refine aD _ ?_;simp only [go_sem,↓reduceIte,Nat.reduceEqDiff,reduceCtorEq];refine ⟨fun hlt=>?_,fun hge=>?_⟩
       ·simp only [decide_eq_true_eq] at hlt;have hk':k<p.seqs.length:=by omega
        obtain ⟨s,hs⟩:∃ s,s=p.seqs.getD k default:=⟨_,rfl⟩
        have hmem:s∈p.seqs:=by rw [hs];exact aQ hk'
        obtain ⟨r,hr⟩:∃ r,r=bV p (p.seqs.take k) []:=⟨_,rfl⟩
        have hsn:=Fa p s (p.seqs.take k) [];rw [← hr,if_pos (hr ▸ hok),hs, ← bY hk', ← hs] at hsn;rw [← hr];have hseq:(eR p.seqs s.name).isSome=true:=by
         cases h9:eR p.seqs s.name with
         | none=>exact absurd rfl (nE.1 h9 s hmem)
         | some _=>rfl
        have hun:unk p.seqs r.2<p.seqs.length+1:=Nat.lt_succ_of_le (List.length_filter_le _ _);unfold awS;simp only [go_sem,↓reduceIte,Nat.reduceAdd,Nat.reduceLeDiff,Nat.reduceEqDiff];rw [← hs];refine ⟨⟨by omega,by omega⟩,vS Tryz.X145 (gX (aNf p hSh (p.seqs.length+1) s.name r.2 hseq hun) [3] rfl (by omega) (by decide) ?_ rfl rfl rfl rfl ?_)⟩
        ·simp only [go_sem,Nat.reduceLT,↓reduceIte,Nat.reduceEqDiff,(nP id _).2,(nP _ _).1]
        ·simp only [go_sem,Nat.reduceLT,↓reduceIte,Nat.reduceAdd,Nat.reduceSub,Nat.reduceEqDiff,reduceCtorEq];refine brW (b:=decide ((aY p (p.seqs.length+1) s.name r.2).1=0)) ?_ ⟨fun h0=>?_,fun h0=>?_⟩
         ·rfl
         ·rw [decide_eq_true_eq] at h0;rw [if_pos h0] at hsn;have hst:=Ez (p:=p) (xs:=p.seqs.take (k+1)) (K:=[]) (p.seqs.drop (k+1)) (by rw [hsn]);rw [List.take_append_drop,hsn] at hst;unfold awS;simp only [go_sem,↓reduceIte,Nat.reduceLeDiff,Nat.reduceEqDiff];exact ⟨pT,by unfold cB;rw [hS,hO,hU,hC,hst];rfl⟩
         ·rw [decide_eq_false_iff_not] at h0;rw [if_neg h0] at hsn;unfold awS;simp only [go_sem,↓reduceIte];refine ⟨k+1,aA ?_,⟨by omega,by rw [hsn]⟩,by omega⟩;simp only [go_sem,Nat.reduceLT,↓reduceIte,Nat.reduceLeDiff,Nat.reduceEqDiff,reduceCtorEq];rw [hsn];simp [bJ (show k<9223372036854775807 by omega),nP]
       ·simp only [decide_eq_false_iff_not] at hge;rw [List.take_of_length_le (show p.seqs.length≤k by omega)] at hok;unfold awS;simp only [go_sem,↓reduceIte,reduceCtorEq];rw [List.take_of_length_le (show p.seqs.length≤k by omega)];obtain ⟨KK,hKK⟩:∃ KK,KK=(bV p p.seqs []).2:=⟨_,rfl⟩
        rw [← hKK];refine aF (fun (k:Nat) σ => bL 70 (aC k) (aX [10,71,72,73,74,75,76,77,78,79] (bF σ))) (fun k=>k≤p.seqs.length ∧ ∀ i,i<k→wB KK (p.seqs.getD i default)=true) (fun k=>p.seqs.length - k) 0 (aA ?_) ⟨Nat.zero_le _,by omega⟩ ?_
        ·simp only [go_sem,Nat.reduceLT,↓reduceIte,Nat.reduceLeDiff,Nat.reduceEqDiff,reduceCtorEq]<;>simp
        ·rintro k ⟨hk,hi⟩;refine aD _ ?_;simp only [go_sem,↓reduceIte,Nat.reduceEqDiff,reduceCtorEq];refine ⟨fun hlt=>?_,fun hge=>?_⟩
         ·simp only [decide_eq_true_eq] at hlt;obtain ⟨s,hs⟩:∃ s,s=p.seqs.getD k default:=⟨_,rfl⟩
          unfold awS;rcases hg:Fm s.name KK with _ | v
          all_goals
           simp only [go_sem,↓reduceIte,Nat.reduceAdd,Nat.reduceLeDiff,Nat.reduceEqDiff, ← hs,Ke,hg,Option.map_none,Option.map_some];refine ⟨⟨by omega,by omega⟩,?_⟩;refine brW (b := !wB KK (p.seqs.getD k default)) ?_ ⟨fun hc=>?_,fun hc=>?_⟩
           ·rw [mG];unfold wB cT;rw [← hs,hg];rfl
           ·unfold awS;simp only [go_sem,↓reduceIte,Nat.reduceLeDiff,Nat.reduceEqDiff];exact ⟨pT,by unfold cB;rw [hS,hO,hU,hC,hok, ← hKK,cA (d:=default) (p:=wB KK) (k:=k) (by omega) (nt hc)];rfl⟩
           ·unfold awS;simp only [go_sem,↓reduceIte];refine ⟨k+1,aA ?_,⟨by omega,upto hi (nf hc)⟩,by omega⟩;simp only [go_sem,Nat.reduceLT,↓reduceIte,Nat.reduceLeDiff,Nat.reduceEqDiff,reduceCtorEq]<;>simp [bJ (show k<9223372036854775807 by omega)]
         ·simp only [decide_eq_false_iff_not] at hge;unfold awS;simp only [go_sem,↓reduceIte,Nat.reduceLeDiff,Nat.reduceEqDiff];exact ⟨pT,by unfold cB;rw [hS,hO,hU,hC,hok, ← hKK,bT (d:=default) (p:=wB KK) (fun i h2=>hi i (by omega))];rfl⟩
open Go.RowKit
set_option maxRecDepth 4000
abbrev nilV:V := .t (.lit (.slice none 0 0))
theorem valid0:cB ⟨[],[]⟩=0:=of_decide_eq_true (by kernel_rfl)
theorem cValid0:aN Tryz.prog 70 [.agg [nilV,nilV]] (aC 0):=by
 have h:=aMj ⟨[],[]⟩ ⟨by simp,by simp⟩;rw [valid0] at h;exact nL (.cons (aCr (by exact ⟨.inr ⟨rfl,_,_,rfl⟩, .inr ⟨rfl,_,_,rfl⟩,trivial⟩)) .nil) h
end Go.Proofs.YtbfnemkngoaeeaaGreat
