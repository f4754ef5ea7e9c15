/- Proved here: The deferred function that recovers does nothing where there is no panic; conditions stand in each theorem. -/
import Derived.Test.YtbfnemkngoaeeaaGreatQ06
import Derived.Test.YtbfnemkngoaeeaaGreatQ07
import Derived.RecoverIn
import Derived.Test.YtbfnemkngoaeeaaGreatQ12
import Derived.Test.YtbfnemkngoaeeaaGreatQ10
import Derived.Test.YtbfnemkngoaeeaaGreatQ09
set_option linter.unusedSimpArgs false
set_option linter.unusedVariables false
set_option linter.unusedSectionVars false
set_option linter.unnecessarySimpa false
namespace Go.Proofs.YtbfnemkngoaeeaaGreat
open Go.RowKit
set_option maxRecDepth 4000
theorem tT:aHn Tryz.prog 138:=by
 refine ⟨Tryz.X138,fun cap w=>callsDIn_of_wpSIn Tryz.func138 rfl trivial fun c₀ cs hu=>?_⟩;have k1 : 1<cap.size+(3 - cap.size):=by omega
 have k2 : 2<cap.size+(3 - cap.size):=by omega
 have k3 : 1<max 3 cap.size:=by omega
 have k4 : 2<max 3 cap.size:=by omega
 apply wpSIn_seq;apply wpSIn_region;simp [wpOpsSIn,Fence.wide,go_sem,recoverD,hu,Tryz.ntmps138,Exit.thenS,k1,k2,k3,k4];refine wpSIn_cond (t:=false) (by simp [Act.eval,k2,k4]) ?_;refine wpSIn_of_wpIn rfl (wpIn_skip ?_);refine ⟨rfl, .returning,by rw [← hu], .tuple #[],?_,⟨_,rfl⟩,rfl,rfl⟩;simp [results,Tryz.results138,go_sem]
open Go.RowKit
set_option maxRecDepth 4000
def cW (p:ProjR) (x:SourceR):Bool := !(x.kind==1&&(nC p.media x.name).isNone||x.kind==2&&(bL p.seqs x.name).isNone)
def dP (p:ProjR) (c:ClipR):Bool:=cW p c.a&&cW p c.b
def kA (p:ProjR) (s:SequenceR):Bool:=(dF s).all (dP p)
theorem Bw (d a:List T):nth d [a] 0=a:=rfl
theorem wr1:IntKind.i64.wrap 1=1:=by decide
theorem wr2:IntKind.i64.wrap 2=2:=by decide
theorem qA:((2:Nat):Int)=2:=rfl
theorem vH (n:ByteArray) (l:List MediumR):qJ (.string n) (Vr l)=(nC l n).map fun m => .agg (dZ m):=rU _ _ n l
theorem xK (n:ByteArray) (l:List SequenceR):qJ (.string n) (Uc l)=(bL l n).map fun m=>nP m:=rU _ _ n l
theorem Qz {p:ProjR} {s:SequenceR} {tr:List (List ClipR)} {i k:Nat} {c:ClipR} (htr:tr=s.video++s.sound) (hi:i<tr.length) (hk:k<(tr.getD i []).length) (hc:c=(tr.getD i []).getD k default) (hn:dP p c=false):kA p s=false:=by
 unfold kA dF;rw [← htr,List.all_eq_false];refine ⟨c,?_,by rw [hn];exact Bool.false_ne_true⟩;rw [List.mem_flatten];refine ⟨tr.getD i [],?_,?_⟩
 ·rw [List.getD_eq_getElem?_getD,List.getElem?_eq_getElem hi];exact List.getElem_mem hi
 ·rw [hc,aJ hk];exact List.getElem_mem hk
set_option maxHeartbeats 20000000 in
theorem cCompl (p:ProjR) (s:SequenceR) (hv:s.video.length≤8) (hs:s.sound.length≤8) (hm:∀ t∈s.video++s.sound,t.length≤maxLen):aM Tryz.prog 144 [aS8 p,nP s] (aS (kA p s)):=by
 refine aH Tryz.X144 Tryz.func144 rfl Tryz.ntmps144 (by rw [Tryz.results144]) (aD _ ?_);simp only [go_sem,simprocAttr];refine kU (aWt s) rfl ?_;simp only [go_sem,simprocAttr];refine ⟨Tryz.X243,?_⟩;unfold aAv;refine ⟨rfl,kV Tryz.X243 Tryz.func243 rfl Tryz.ntmps243 (by rw [Tryz.results243]) (aD _ ?_)⟩;simp only [go_sem,simprocAttr,Bw,SequenceR.c];refine jK ?_;simp only [go_sem,simprocAttr];refine ⟨_,Zv _ s.video s.sound hv hs,?_⟩;simp only [go_sem,simprocAttr];obtain ⟨tr,htr⟩:∃ tr,tr=s.video++s.sound:=⟨_,rfl⟩
 rw [← htr];have hlen:tr.length≤16:=by rw [htr,List.length_append];omega
 refine aF (fun (i:Nat) σ => cJ 14 (aC i) (bN [4,6,15,16,17,18,19,20,21,22,23,24,25,26,27,28,29] (bK σ))) (fun i=>i≤tr.length∧(tr.take i).flatten.all (dP p)=true) (fun i=>tr.length - i) 0 (aB ?_) ⟨Nat.zero_le _,rfl⟩ ?_
 ·simp only [go_sem,simprocAttr]<;>simp
 ·rintro i ⟨hi,hall⟩;refine aD _ ?_;simp only [go_sem,simprocAttr];refine ⟨fun hlt=>?_,fun hge=>?_⟩
  ·simp only [bxx] at hlt;have hi':i<tr.length:=by omega
   unfold awS;simp only [go_sem,simprocAttr,hi',List.length_map];refine ⟨⟨by omega,by omega⟩,?_⟩;refine aF (fun (k:Nat) σ => cJ 20 (aC k) (bN [6,21,22,23,24,25,26,27,28] (bK σ))) (fun k=>k≤(tr.getD i []).length∧((tr.getD i []).take k).all (dP p)=true) (fun k=>(tr.getD i []).length - k) 0 (aB ?_) ⟨Nat.zero_le _,rfl⟩ ?_
   ·simp only [go_sem,simprocAttr]<;>simp
   ·rintro k ⟨hk,hallk⟩;refine aD _ ?_;simp only [go_sem,simprocAttr];refine ⟨fun hlt=>?_,fun hge=>?_⟩
    ·simp only [bxx] at hlt;have hk':k<(tr.getD i []).length:=by omega
     have hmt:(tr.getD i []).length≤maxLen:=hm _ (by rw [← htr,List.getD_eq_getElem?_getD,List.getElem?_eq_getElem hi'];exact List.getElem_mem hi');have hk9:k<9223372036854775807:=by unfold maxLen at hmt;omega
     unfold awS;simp only [go_sem,simprocAttr,hk',List.length_map];refine ⟨⟨by omega,by omega⟩,aD _ ?_⟩;simp only [go_sem,simprocAttr];refine aD _ ?_;simp only [go_sem,simprocAttr];refine dH ?_;refine aV (aD _ ?_);simp only [go_sem,simprocAttr,dtf,wr1,wr2,qA];obtain ⟨c,hc⟩:∃ c,c=(tr.getD i []).getD k default:=⟨_,rfl⟩
     rw [← hc];rcases h1:nC p.media c.a.name with _ | m1<;>rcases h2:bL p.seqs c.a.name with _ | q1
     rotate_left 3
     ·simp only [go_sem,simprocAttr,dtf,wr1,wr2,qA,vH,xK,h1,h2,Option.map_some,Option.map_none];have hb:(!cW p c.a)=false:=by unfold cW;rw [h1,h2];cases (c.a.kind==1)<;>cases (c.a.kind==2)<;>rfl
      refine aV (aD _ ?_);simp only [go_sem,simprocAttr,dtf,wr1,wr2,qA];rcases h3:nC p.media c.b.name with _ | m2<;>rcases h4:bL p.seqs c.b.name with _ | q2
      rotate_left 3
      ·simp only [go_sem,simprocAttr,dtf,wr1,wr2,qA,vH,xK,h3,h4,Option.map_some,Option.map_none];have hb':(!cW p c.b)=false:=by unfold cW;rw [h3,h4];cases (c.b.kind==1)<;>cases (c.b.kind==2)<;>rfl
       refine aV (aD _ ?_);simp only [go_sem,simprocAttr,dtf,wr1,wr2,qA];refine ⟨fun h=>absurd h (by decide),fun _=>?_⟩;unfold awS;simp only [go_sem,simprocAttr,dtf];refine ⟨k+1,aB ?_,⟨by omega,?_⟩,by omega⟩
       ·simp only [go_sem,simprocAttr]<;>simp [bX hk9]
       ·simp only [Bool.not_eq_false'] at hb hb';rw [cA hk',List.all_append,hallk, ← hc];simp [dP,hb,hb']
      all_goals
       simp only [go_sem,simprocAttr,dtf,wr1,wr2,qA,vH,xK,h3,h4,Option.map_some,Option.map_none];refine brW (b := !cW p c.b) (by unfold cW;rw [h3,h4];cases (c.b.kind==1)<;>cases (c.b.kind==2)<;>rfl) ⟨fun hb'=>?_,fun hb'=>?_⟩
       ·unfold awS;simp only [go_sem,simprocAttr,dtf];refine ⟨fun _=>?_,fun h=>absurd h (by decide)⟩;unfold awS;simp only [go_sem,simprocAttr,dtf];simp only [Bool.not_eq_true'] at hb';rw [Qz htr hi' hk' hc (by unfold dP;rw [hb',Bool.and_false])]
       ·unfold awS;simp only [go_sem,simprocAttr,dtf,wr1,wr2,qA];refine aV (aD _ ?_);simp only [go_sem,simprocAttr,dtf,wr1,wr2,qA];refine ⟨fun h=>absurd h (by decide),fun _=>?_⟩;unfold awS;simp only [go_sem,simprocAttr,dtf];refine ⟨k+1,aB ?_,⟨by omega,?_⟩,by omega⟩
        ·simp only [go_sem,simprocAttr]<;>simp [bX hk9]
        ·simp only [Bool.not_eq_false'] at hb hb';rw [cA hk',List.all_append,hallk, ← hc];simp [dP,hb,hb']
     all_goals
      simp only [go_sem,simprocAttr,dtf,wr1,wr2,qA,vH,xK,h1,h2,Option.map_some,Option.map_none];refine brW (b := !cW p c.a) (by unfold cW;rw [h1,h2];cases (c.a.kind==1)<;>cases (c.a.kind==2)<;>rfl) ⟨fun hb=>?_,fun hb=>?_⟩
      ·unfold awS;simp only [go_sem,simprocAttr,dtf];refine ⟨fun _=>?_,fun h=>absurd h (by decide)⟩;unfold awS;simp only [go_sem,simprocAttr,dtf];simp only [Bool.not_eq_true'] at hb;rw [Qz htr hi' hk' hc (by unfold dP;rw [hb];rfl)]
      ·unfold awS;simp only [go_sem,simprocAttr,dtf,wr1,wr2,qA];refine aV (aD _ ?_);simp only [go_sem,simprocAttr,dtf,wr1,wr2,qA];rcases h3:nC p.media c.b.name with _ | m2<;>rcases h4:bL p.seqs c.b.name with _ | q2
       rotate_left 3
       ·simp only [go_sem,simprocAttr,dtf,wr1,wr2,qA,vH,xK,h3,h4,Option.map_some,Option.map_none];have hb':(!cW p c.b)=false:=by unfold cW;rw [h3,h4];cases (c.b.kind==1)<;>cases (c.b.kind==2)<;>rfl
        refine aV (aD _ ?_);simp only [go_sem,simprocAttr,dtf,wr1,wr2,qA];refine ⟨fun h=>absurd h (by decide),fun _=>?_⟩;unfold awS;simp only [go_sem,simprocAttr,dtf];refine ⟨k+1,aB ?_,⟨by omega,?_⟩,by omega⟩
        ·simp only [go_sem,simprocAttr]<;>simp [bX hk9]
        ·simp only [Bool.not_eq_false'] at hb hb';rw [cA hk',List.all_append,hallk, ← hc];simp [dP,hb,hb']
       all_goals
        simp only [go_sem,simprocAttr,dtf,wr1,wr2,qA,vH,xK,h3,h4,Option.map_some,Option.map_none];refine brW (b := !cW p c.b) (by unfold cW;rw [h3,h4];cases (c.b.kind==1)<;>cases (c.b.kind==2)<;>rfl) ⟨fun hb'=>?_,fun hb'=>?_⟩
        ·unfold awS;simp only [go_sem,simprocAttr,dtf];refine ⟨fun _=>?_,fun h=>absurd h (by decide)⟩;unfold awS;simp only [go_sem,simprocAttr,dtf];simp only [Bool.not_eq_true'] at hb';rw [Qz htr hi' hk' hc (by unfold dP;rw [hb',Bool.and_false])]
        ·unfold awS;simp only [go_sem,simprocAttr,dtf,wr1,wr2,qA];refine aV (aD _ ?_);simp only [go_sem,simprocAttr,dtf,wr1,wr2,qA];refine ⟨fun h=>absurd h (by decide),fun _=>?_⟩;unfold awS;simp only [go_sem,simprocAttr,dtf];refine ⟨k+1,aB ?_,⟨by omega,?_⟩,by omega⟩
         ·simp only [go_sem,simprocAttr]<;>simp [bX hk9]
         ·simp only [Bool.not_eq_false'] at hb hb';rw [cA hk',List.all_append,hallk, ← hc];simp [dP,hb,hb']
    ·simp only [bxx] at hge;unfold awS;simp only [go_sem,simprocAttr];refine ⟨i+1,aB ?_,⟨by omega,?_⟩,by omega⟩
     ·simp only [go_sem,simprocAttr]<;>simp [bX (show i<9223372036854775807 by omega)]
     ·rw [List.take_of_length_le (show (tr.getD i []).length≤k by omega)] at hallk;rw [cA hi',List.flatten_append,List.all_append,hall,show (default:List ClipR) = [] from rfl];simpa using hallk
  ·simp only [bxx] at hge;unfold awS;simp only [go_sem,simprocAttr];rw [List.take_of_length_le (show tr.length≤i by omega)] at hall;unfold kA dF;rw [← htr,hall]
open Go.RowKit
set_option maxRecDepth 4000
def dG (kind:Int) (l:List ClipR):List ByteArray:=((l.flatMap fun c=>[c.a,c.b]).filter fun x=>x.kind==kind).map fun x=>x.name
theorem Db (kind:Int) (l r:List ClipR):dG kind (l++r)=dG kind l++dG kind r:=by
 unfold dG;rw [List.flatMap_append,List.filter_append,List.map_append]
def addK (kind:Int) (x:SourceR) (l:List ByteArray):List ByteArray:=if x.kind==kind then l ++ [x.name] else l
theorem aEy (kind:Int) (l:List ClipR) (c:ClipR):dG kind (l ++ [c])=addK kind c.b (addK kind c.a (dG kind l)):=by
 rw [Db];unfold addK;simp only [dG,List.flatMap_cons,List.flatMap_nil,List.append_nil,List.filter_cons,List.filter_nil];cases h1:(c.a.kind==kind)<;>cases h2:(c.b.kind==kind)<;>simp
def yesC:Bool×List T:=(false,[.lit (.bool true)])
def sF (l:List ByteArray):List Ent:=kG (fun n:ByteArray=>n) (fun _=>yesC) l
theorem aPu (l:List ByteArray) (n:ByteArray):sF (l ++ [n])=sR (.string n) yesC (sF l):=xJ _ _ l n
theorem Bp (n:ByteArray) (l:List ByteArray):Cs (.string n) (aS true) (tEs (sF l))=tEs (sF (l ++ [n])):=by
 rw [aPu];exact vV (.string n) yesC (sF l)
theorem kinds_N (l:List ByteArray):rD .string (sF l)=true:=tZ (nW _ _ _)
attribute [go_sem] kinds_N
theorem Yg (l:List ByteArray):(tEs (sF l)).map (·.1)=(qY l).map Value.string:=by
 have h1:(sF l).map (fun e=>Ds e.1)=qY l:=by
  have:=Se (fun n:ByteArray=>n) (fun _=>yesC) l;rw [List.map_id'] at this;exact this
 have h2:Cv (sF l):=nW _ _ _;unfold tEs;rw [List.map_map, ← h1,List.map_map];refine List.map_congr_left fun e he=>?_
 obtain ⟨s,hs⟩:=h2 e he;simp only [Function.comp_apply,hs,Ds]
theorem cP (g:Nat→Nat):∀ es:List Ent,V.renE g (tEs es)=tEs es∧Gn (tEs es) = []
 | []=>⟨rfl,rfl⟩
 | e::es=>by
  have h:=cP g es;have h1:=Qf g (mkV e.2) (aF0 e.2);unfold tEs at h ⊢;simp only [List.map_cons,V.renE,Gn,h1.1,h1.2,h.1,h.2,List.nil_append,and_self]
def jE (s:SequenceR) (kind:Int):List ByteArray:=cU (qY (dG kind (dF s)))
abbrev tnames (l:List ByteArray):T:=yV l
@[go_sem] def zD (i:Nat) (b:Blk) (σ : St):St := { σ with h := σ.h.set i b }
set_option maxHeartbeats 20000000 in
theorem aC4 (p:ProjR) (n:ByteArray) (kind:Int) (s:SequenceR) (hs:bL p.seqs n=some s) (hv:s.video.length≤8) (hs':s.sound.length≤8) (hm:∀ t∈s.video++s.sound,t.length≤maxLen)
  (hz:∀ x∈dG kind (dF s),x.size≤maxLen) (hn:(dG kind (dF s)).length≤1000000) :
  aM Tryz.prog 146 [aS8 p,bM n,aC kind] (.t (tnames (jE s kind))):=by
 refine aH Tryz.X146 Tryz.func146 rfl Tryz.ntmps146 (by rw [Tryz.results146]) (aD _ ?_);simp only [go_sem,simprocAttr,xK,hs,Option.map_some];refine kU (aWt s) rfl ?_;simp only [go_sem,simprocAttr];refine ⟨Tryz.X243,?_⟩;unfold aAv;refine ⟨rfl,kV Tryz.X243 Tryz.func243 rfl Tryz.ntmps243 (by rw [Tryz.results243]) (aD _ ?_)⟩;simp only [go_sem,simprocAttr,Bw,SequenceR.c];refine jK ?_;simp only [go_sem,simprocAttr];refine ⟨_,Zv _ s.video s.sound hv hs',?_⟩;simp only [go_sem,simprocAttr];obtain ⟨tr,htr⟩:∃ tr,tr=s.video++s.sound:=⟨_,rfl⟩
 rw [← htr];have hlen:tr.length≤16:=by rw [htr,List.length_append];omega
 refine aF (fun (i:Nat) σ => zD 2 (.map (tEs (sF (dG kind (tr.take i).flatten)))) (cJ 14 (aC i) (bN [4,6,15,16,17,18,19,20,21,22,23,24,25,26,27,28,29] (bK σ)))) (fun i=>i≤tr.length) (fun i=>tr.length - i) 0 (aB ?_) (Nat.zero_le _) ?_
 ·simp only [go_sem,simprocAttr]<;>simp [sF,dG,kG,tEs]
 ·intro i hi;refine aD _ ?_;simp only [go_sem,simprocAttr];refine ⟨fun hlt=>?_,fun hge=>?_⟩
  ·simp only [bxx] at hlt;have hi':i<tr.length:=by omega
   have hmt:(tr.getD i []).length≤maxLen:=hm _ (by rw [← htr,List.getD_eq_getElem?_getD,List.getElem?_eq_getElem hi'];exact List.getElem_mem hi');unfold awS;simp only [go_sem,simprocAttr,hi',List.length_map];refine ⟨⟨by omega,by omega⟩,?_⟩;refine aF (fun (k:Nat) σ => zD 2 (.map (tEs (sF (dG kind ((tr.take i).flatten++(tr.getD i []).take k))))) (cJ 20 (aC k) (bN [6,21,22,23,24,25,26,27,28] (bK σ)))) (fun k=>k≤(tr.getD i []).length) (fun k=>(tr.getD i []).length - k) 0 (aB ?_) (Nat.zero_le _) ?_
   ·simp only [go_sem,simprocAttr]<;>simp
   ·intro k hk;refine aD _ ?_;simp only [go_sem,simprocAttr];refine ⟨fun hlt=>?_,fun hge=>?_⟩
    ·simp only [bxx] at hlt;have hk':k<(tr.getD i []).length:=by omega
     have hk9:k<9223372036854775807:=by unfold maxLen at hmt;omega
     unfold awS;simp only [go_sem,simprocAttr,hk',List.length_map];refine ⟨⟨by omega,by omega⟩,aD _ ?_⟩;simp only [go_sem,simprocAttr];refine aD _ ?_;simp only [go_sem,simprocAttr];obtain ⟨c,hc⟩:∃ c,c=(tr.getD i []).getD k default:=⟨_,rfl⟩
     rw [← hc];obtain ⟨l,hl⟩:∃ l,l=dG kind ((tr.take i).flatten++(tr.getD i []).take k):=⟨_,rfl⟩
     rw [← hl];refine dH ?_;rcases ha:(c.a.kind==kind) with _ | _<;>rcases hb:(c.b.kind==kind) with _ | _
     all_goals
      refine aV (aD _ ?_);simp only [go_sem,simprocAttr,dtf,wr1,wr2,qA,ha,hb,Bp];refine aV (aD _ ?_);simp only [go_sem,simprocAttr,dtf,wr1,wr2,qA,ha,hb,Bp];refine aV (aD _ ?_);simp only [go_sem,simprocAttr,dtf,wr1,wr2,qA];refine ⟨fun h=>absurd h (by decide),fun _=>?_⟩;unfold awS;simp only [go_sem,simprocAttr,dtf];refine ⟨k+1,aB ?_,by omega,by omega⟩;simp only [go_sem,simprocAttr];rw [cA hk', ← hc, ← List.append_assoc,aEy, ← hl];simp [bX hk9,addK,ha,hb]
    ·simp only [bxx] at hge;unfold awS;simp only [go_sem,simprocAttr];refine ⟨i+1,aB ?_,by omega,by omega⟩;simp only [go_sem,simprocAttr];rw [cA hi',List.flatten_append,show (default:List ClipR) = [] from rfl,List.take_of_length_le (show (tr.getD i []).length≤k by omega)];simp [bX (show i<9223372036854775807 by omega)]
  ·simp only [bxx] at hge;unfold awS;simp only [go_sem,simprocAttr];rw [List.take_of_length_le (show tr.length≤i by omega)];refine kV Tryz.X73 Tryz.func73 rfl Tryz.ntmps73 (by rw [Tryz.results73]) (aD _ ?_);simp only [go_sem,simprocAttr];have hcl:tr.flatten=dF s:=by rw [htr];rfl
   rw [hcl];refine gN Tryz.X59 (cG (Zm (tEs (sF (dG kind (dF s)))) (qY (dG kind (dF s))) (yP ⟨#[]⟩) (Yg _) (tR _) (fun x hx=>hz x (rT.1 hx)) (Nat.le_trans (pQ _) hn)) [7,2] rfl (by omega) (by decide) ?_ rfl rfl rfl rfl ?_)
   ·simp only [go_sem,simprocAttr,(cP id _).2,(cP _ _).1];exact decide_eq_true trivial
   ·simp only [go_sem,simprocAttr]<;>rfl
open Go.RowKit
set_option maxRecDepth 4000
abbrev KM:=List (ByteArray×Int)
def kE (K:KM):List (Value×V):=K.map fun e=>(Value.string e.1,aC e.2)
def Mw (n:ByteArray):KM→Option Int
 | []=>none
 | e::K=>if n=e.1 then some e.2 else Mw n K
def qV (n:ByteArray) (v:Int):KM→KM
 | []=>[(n,v)]
 | e::K=>if n=e.1 then (n,v)::K else e::qV n v K
theorem Rv (n:ByteArray):∀ K:KM,qK (.string n) (kE K)=(Mw n K).map fun v=>aC v
 | []=>rfl
 | e::K=>by
  have h:=Rv n K;unfold kE at h ⊢;simp only [List.map_cons,qK,Mw,nD,decide_eq_true_eq,h];split<;>rfl
theorem aE8 (n:ByteArray) (v:Int):∀ K:KM,Cs (.string n) (aC v) (kE K)=kE (qV n v K)
 | []=>rfl
 | e::K=>by
  have h:=aE8 n v K;unfold kE at h ⊢;simp only [List.map_cons,Cs,qV,nD,decide_eq_true_eq,h];split<;>rfl
theorem aMu:∀ K:KM,gP .string (kE K)=true
 | []=>rfl
 | e::K=>by
  have h:=aMu K;unfold kE at h ⊢;simp only [List.map_cons,gP,gX,h,Bool.and_self]
attribute [go_sem] aMu
theorem aFr (n m:ByteArray) (v:Int):∀ K:KM,Mw n (qV m v K)=if n=m then some v else Mw n K
 | []=>rfl
 | e::K=>by
  have ih:=aFr n m v K;unfold qV;split
  ·rename_i h;subst h;simp only [Mw];split<;>rfl
  ·rename_i h;simp only [Mw,ih];split
   ·rename_i h2;subst h2;rw [if_neg (fun h3=>h h3.symm)]
   ·rfl
def dK (n:ByteArray) (K:KM):Int:=(Mw n K).getD 0
def eH (p:ProjR) (n:ByteArray):List ByteArray:=jE ((bL p.seqs n).getD default) 2
def bF (go:ByteArray→KM→Int×KM):List ByteArray→KM→Int→Bool×Int×KM
 | [],K,l=>(true,l,K)
 | x::xs,K,l=>if (go x K).1=0 then (false,l,(go x K).2) else bF go xs (go x K).2 (max l (IntKind.i64.wrap ((go x K).1+1)))
theorem Ax (go:ByteArray→KM→Int×KM) (x:ByteArray):∀ (xs:List ByteArray) (K:KM) (l:Int),bF go (xs ++ [x]) K l =
  if (bF go xs K l).1=true then (if (go x (bF go xs K l).2.2).1=0 then (false,(bF go xs K l).2.1,(go x (bF go xs K l).2.2).2) else (true,max (bF go xs K l).2.1 (IntKind.i64.wrap ((go x (bF go xs K l).2.2).1+1)),(go x (bF go xs K l).2.2).2)) else bF go xs K l
 | [],K,l=>by by_cases h:(go x K).1=0<;>simp [bF,h]
 | y::xs,K,l=>by
  simp only [List.cons_append,bF];split
  ·rfl
  ·exact Ax go x xs _ _
theorem Aw {go:ByteArray→KM→Int×KM}:∀ {xs:List ByteArray} {K:KM} {l:Int} (ys:List ByteArray),(bF go xs K l).1=false→bF go (xs++ys) K l=bF go xs K l
 | [],K,l,ys,h=>by unfold bF at h;cases h
 | x::xs,K,l,ys,h=>by
  by_cases h0:(go x K).1=0
  ·simp [bF,h0]
  ·simp only [List.cons_append,bF,if_neg h0] at h ⊢;exact Aw ys h
@[go_sem] theorem aQf:∀ K:KM,Ed (kE K)=false
 | []=>rfl
 | e::K=>by
  have h:=aQf K;unfold kE at h ⊢;simp only [List.map_cons,Ed,aBp,h,Bool.false_or]
theorem Bq:∀ K:KM,vG (kE K)=True
 | []=>rfl
 | e::K=>by
  have h:=Bq K;unfold kE at h ⊢;simp only [List.map_cons,vG,h,and_true];exact eq_true rfl
attribute [go_sem] Bq
theorem sH (g:Nat→Nat):∀ K:KM,V.renE g (kE K)=kE K∧Gn (kE K) = []
 | []=>⟨rfl,rfl⟩
 | e::K=>by
  have h:=sH g K;unfold kE at h ⊢;simp only [List.map_cons,V.renE,Gn,h.1,h.2,V.ren,V.ment,List.nil_append,and_self]
def bD (p:ProjR):Nat→ByteArray→KM→Int×KM
 | 0,_,K=>(0,K)
 | f+1,n,K=>if dK n K≠0 then (max (dK n K) 0,K) else
   if (bF (bD p f) (eH p n) (qV n (-1) K) 1).1=true
   then ((bF (bD p f) (eH p n) (qV n (-1) K) 1).2.1,qV n (bF (bD p f) (eH p n) (qV n (-1) K) 1).2.1 (bF (bD p f) (eH p n) (qV n (-1) K) 1).2.2)
   else (0,(bF (bD p f) (eH p n) (qV n (-1) K) 1).2.2)
theorem yS (n m:ByteArray) (v:Int) (K:KM):dK n (qV m v K)=if n=m then v else dK n K:=by
 unfold dK;rw [aFr];split<;>rfl
def unk (l:List SequenceR) (K:KM):Nat:=(l.filter fun s=>decide (dK s.name K=0)).length
def grows (K K':KM):Prop := ∀ n,dK n K≠0→dK n K'≠0
theorem grows.refl (K:KM):grows K K:=fun _ h=>h
theorem grows.trans {a b c:KM} (h:grows a b) (h':grows b c):grows a c:=fun n hn=>h' n (h n hn)
theorem Ke (n:ByteArray) {v:Int} (hv:v≠0) (K:KM):grows K (qV n v K):=fun m h=>by
 rw [yS];split
 ·exact hv
 ·exact h
theorem Pb {K K':KM} (h:grows K K'):∀ l:List SequenceR,unk l K'≤unk l K
 | []=>Nat.le_refl _
 | s::l=>by
  have ih:=Pb h l;unfold unk at ih ⊢;simp only [List.filter_cons];have h1:=h s.name
  by_cases h2:dK s.name K=0
  ·rw [decide_eq_true h2];split<;>simp<;>omega
  ·rw [decide_eq_false h2,decide_eq_false (h1 h2)];simpa using ih
theorem aAa {K:KM} {n:ByteArray} {v:Int} (hv:v≠0) (hn:dK n K=0):∀ {l:List SequenceR},(∃ s∈l,s.name=n)→unk l (qV n v K)<unk l K
 | [],h=>by obtain ⟨s,hs,_⟩:=h;cases hs
 | s::l,h=>by
  have hle:=Pb (Ke n hv K) l;have ih:=fun h'=>aAa (K:=K) (n:=n) hv hn (l:=l) h'
  unfold unk at ih hle ⊢;simp only [List.filter_cons]
  by_cases hs:s.name=n
  ·rw [hs,decide_eq_true hn,yS,if_pos rfl,decide_eq_false hv];simp;omega
  ·have h':∃ s∈l,s.name=n:=by
    obtain ⟨s',h1,h2⟩:=h;rcases List.mem_cons.1 h1 with rfl | h1
    ·exact absurd h2 hs
    ·exact ⟨s',h1,h2⟩
   have ih:=ih h';rw [yS,if_neg hs];split<;>simp<;>omega
theorem Zq {go:ByteArray→KM→Int×KM}:∀ (xs:List ByteArray) (K:KM) (l:Int),l≤(bF go xs K l).2.1
 | [],K,l=>Int.le_refl _
 | x::xs,K,l=>by
  unfold bF;split
  ·exact Int.le_refl _
  ·exact Int.le_trans (Int.le_max_left _ _) (Zq xs _ _)
theorem sV {go:ByteArray→KM→Int×KM} (hg:∀ x K,grows K (go x K).2):∀ (xs:List ByteArray) (K:KM) (l:Int),grows K (bF go xs K l).2.2
 | [],K,l=>grows.refl K
 | x::xs,K,l=>by
  unfold bF;split
  ·exact hg x K
  ·exact (hg x K).trans (sV hg xs _ _)
theorem sW (p:ProjR):∀ (f:Nat) (n:ByteArray) (K:KM),grows K (bD p f n K).2
 | 0,n,K=>grows.refl K
 | f+1,n,K=>by
  unfold bD;split
  ·exact grows.refl K
  ·have h:=(Ke n (v := -1) (by decide) K).trans (sV (sW p f) (eH p n) (qV n (-1) K) 1);split
   ·refine h.trans (Ke _ ?_ _);have:=Zq (go:=bD p f) (eH p n) (qV n (-1) K) 1;omega
   ·exact h
structure SeqOk (s:SequenceR):Prop where
 hv:s.video.length≤8
 hs:s.sound.length≤8
 hm:∀ t∈s.video++s.sound,t.length≤maxLen
 hz:∀ kind, ∀ x∈dG kind (dF s),x.size≤maxLen
 hn:∀ kind,(dG kind (dF s)).length≤1000000
structure ShownOk (p:ProjR):Prop where
 ok:∀ s∈p.seqs,SeqOk s
 there:∀ s∈p.seqs, ∀ x∈dG 2 (dF s),(bL p.seqs x).isSome=true
theorem jG {s:SequenceR} {kind:Int} {x:ByteArray}:x∈jE s kind ↔ x∈dG kind (dF s):=by
 unfold jE;rw [(cK _).mem_iff,rT]
set_option maxHeartbeats 4000000 in
theorem aWu (p:ProjR) (hp:ShownOk p):∀ (f:Nat) (n:ByteArray) (K:KM),(bL p.seqs n).isSome=true→unk p.seqs K<f →
  CIO Tryz.prog 145 1 [(0, .map (kE K))] [aS8 p,bM n, .own 0] (aC (bD p f n K).1) [(0, .map (kE (bD p f n K).2))] 1
 | 0,n,K,_,h=>absurd h (Nat.not_lt_zero _)
 | f+1,n,K,hs,hk=>by
  obtain ⟨s,hsn⟩:=Option.isSome_iff_exists.1 hs;obtain ⟨hsm,hsname⟩:=cV hsn;have hso:=hp.ok s hsm;have ih:=aWu p hp f;refine mW Tryz.X145 Tryz.func145 rfl Tryz.ntmps145 (by rw [Tryz.results145]) (aD _ ?_)
  by_cases hv:dK n K=0
  ·have e0:bD p (f+1) n K=if (bF (bD p f) (eH p n) (qV n (-1) K) 1).1=true
   then ((bF (bD p f) (eH p n) (qV n (-1) K) 1).2.1,qV n (bF (bD p f) (eH p n) (qV n (-1) K) 1).2.1 (bF (bD p f) (eH p n) (qV n (-1) K) 1).2.2)
   else (0,(bF (bD p f) (eH p n) (qV n (-1) K) 1).2.2):=by
    conv=>lhs;unfold bD
    rw [if_neg (fun h=>h hv)]
   have hin:eH p n=jE s 2:=by unfold eH;rw [hsn];rfl
   obtain ⟨ns,hns⟩:∃ ns,ns=jE s 2:=⟨_,rfl⟩
   rw [hin, ← hns] at e0;have hu:unk p.seqs (qV n (-1) K)<f:=Nat.lt_of_lt_of_le (aAa (by decide) hv ⟨s,hsm,hsname⟩) (Nat.le_of_lt_succ hk);have hthere:∀ x∈ns,(bL p.seqs x).isSome=true:=fun x hx=>hp.there s hsm x (jG.1 (hns ▸ hx))
   obtain ⟨K1,hK1⟩:∃ K1,K1=qV n (-1) K:=⟨_,rfl⟩
   have hnl:ns.length≤1000000:=by
    rw [hns];unfold jE;rw [(cK _).length_eq];exact Nat.le_trans (pQ _) (hso.hn 2)
   rw [← hK1] at e0 hu;rw [e0];clear e0;rcases hg:Mw n K with _ | v
   ·simp only [go_sem,simprocAttr,Rv,hg,Option.map_none];refine ⟨_,aC4 p n 2 s hsn hso.hv hso.hs hso.hm (hso.hz 2) (hso.hn 2),?_⟩;simp only [go_sem,simprocAttr,aE8];rw [← hns, ← hK1];refine aF (fun (k:Nat) σ => zD 0 (.map (kE (bF (bD p f) (ns.take k) K1 1).2.2)) (cJ 8 (aC (bF (bD p f) (ns.take k) K1 1).2.1) (cJ 25 (aC k) (bN [10,11,26,27,28,29,30,31,32,33,34,35,36,37,38,39] (bK σ))))) (fun k=>k≤ns.length∧(bF (bD p f) (ns.take k) K1 1).1=true) (fun k=>ns.length - k) 0 (aB ?_) ⟨Nat.zero_le _,rfl⟩ ?_
    ·simp only [go_sem,simprocAttr]<;>simp [bF,Bq]
    ·rintro k ⟨hk,hok⟩;refine aD _ ?_;simp only [go_sem,simprocAttr];refine ⟨fun hlt=>?_,fun hge=>?_⟩
     ·simp only [bxx] at hlt;have hk':k<ns.length:=by omega
      obtain ⟨x,hx⟩:∃ x,x=ns.getD k default:=⟨_,rfl⟩
      have hxm:x∈ns:=by rw [hx,aJ hk'];exact List.getElem_mem hk'
      obtain ⟨r,hr⟩:∃ r,r=bF (bD p f) (ns.take k) K1 1:=⟨_,rfl⟩
      have hur:unk p.seqs r.2.2<f:=Nat.lt_of_le_of_lt (Pb (hr ▸ sV (sW p f) (ns.take k) K1 1) p.seqs) hu;have hsn':=Ax (bD p f) x (ns.take k) K1 1;rw [← hr,if_pos (hr ▸ hok),hx, ← cA hk', ← hx] at hsn';rw [← hr];unfold awS;simp only [go_sem,simprocAttr,hk',List.length_map];have hxd:ns.getD k { data := #[] }=x:=by rw [hx];rfl
      rw [hxd];refine ⟨⟨by omega,by omega⟩,gN Tryz.X145 (cG (ih x r.2.2 (hthere x hxm) hur) [0] rfl (by omega) (by decide) ?_ rfl rfl rfl rfl ?_)⟩
      ·simp only [go_sem,simprocAttr,(sH id _).2,(sH _ _).1]
      ·simp only [go_sem,simprocAttr];refine brW (b:=decide ((bD p f x r.2.2).1=0)) rfl ⟨fun h0=>?_,fun h0=>?_⟩
       ·rw [decide_eq_true_eq] at h0;rw [if_pos h0] at hsn';unfold awS;simp only [go_sem,simprocAttr];have hst:=Aw (go:=bD p f) (xs:=ns.take (k+1)) (K:=K1) (l:=1) (ns.drop (k+1)) (by rw [hsn']);rw [List.take_append_drop,hsn'] at hst;rw [hst];refine aB ?_;simp only [go_sem,simprocAttr]<;>simp [sH]
       ·rw [decide_eq_false_iff_not] at h0;rw [if_neg h0] at hsn';unfold awS;simp only [go_sem,simprocAttr];refine ⟨k+1,aB ?_,⟨by omega,by rw [hsn']⟩,by omega⟩;simp only [go_sem,simprocAttr];rw [hsn'];simp [bX (show k<9223372036854775807 by omega),sH]
     ·simp only [bxx] at hge;unfold awS;simp only [go_sem,simprocAttr];rw [List.take_of_length_le (show ns.length≤k by omega)] at hok;rw [List.take_of_length_le (show ns.length≤k by omega)];rw [hok,if_pos rfl];refine aB ?_;simp only [go_sem,simprocAttr,aE8]<;>simp
   ·have hv0:v=0:=by simpa [dK,hg] using hv
    subst hv0;simp only [go_sem,simprocAttr,Rv,hg,Option.map_some];refine ⟨_,aC4 p n 2 s hsn hso.hv hso.hs hso.hm (hso.hz 2) (hso.hn 2),?_⟩;simp only [go_sem,simprocAttr,aE8];rw [← hns, ← hK1];refine aF (fun (k:Nat) σ => zD 0 (.map (kE (bF (bD p f) (ns.take k) K1 1).2.2)) (cJ 8 (aC (bF (bD p f) (ns.take k) K1 1).2.1) (cJ 25 (aC k) (bN [10,11,26,27,28,29,30,31,32,33,34,35,36,37,38,39] (bK σ))))) (fun k=>k≤ns.length∧(bF (bD p f) (ns.take k) K1 1).1=true) (fun k=>ns.length - k) 0 (aB ?_) ⟨Nat.zero_le _,rfl⟩ ?_
    ·simp only [go_sem,simprocAttr]<;>simp [bF,Bq]
    ·rintro k ⟨hk,hok⟩;refine aD _ ?_;simp only [go_sem,simprocAttr];refine ⟨fun hlt=>?_,fun hge=>?_⟩
     ·simp only [bxx] at hlt;have hk':k<ns.length:=by omega
      obtain ⟨x,hx⟩:∃ x,x=ns.getD k default:=⟨_,rfl⟩
      have hxm:x∈ns:=by rw [hx,aJ hk'];exact List.getElem_mem hk'
      obtain ⟨r,hr⟩:∃ r,r=bF (bD p f) (ns.take k) K1 1:=⟨_,rfl⟩
      have hur:unk p.seqs r.2.2<f:=Nat.lt_of_le_of_lt (Pb (hr ▸ sV (sW p f) (ns.take k) K1 1) p.seqs) hu;have hsn':=Ax (bD p f) x (ns.take k) K1 1;rw [← hr,if_pos (hr ▸ hok),hx, ← cA hk', ← hx] at hsn';rw [← hr];unfold awS;simp only [go_sem,simprocAttr,hk',List.length_map];have hxd:ns.getD k { data := #[] }=x:=by rw [hx];rfl
      rw [hxd];refine ⟨⟨by omega,by omega⟩,gN Tryz.X145 (cG (ih x r.2.2 (hthere x hxm) hur) [0] rfl (by omega) (by decide) ?_ rfl rfl rfl rfl ?_)⟩
      ·simp only [go_sem,simprocAttr,(sH id _).2,(sH _ _).1]
      ·simp only [go_sem,simprocAttr];refine brW (b:=decide ((bD p f x r.2.2).1=0)) rfl ⟨fun h0=>?_,fun h0=>?_⟩
       ·rw [decide_eq_true_eq] at h0;rw [if_pos h0] at hsn';unfold awS;simp only [go_sem,simprocAttr];have hst:=Aw (go:=bD p f) (xs:=ns.take (k+1)) (K:=K1) (l:=1) (ns.drop (k+1)) (by rw [hsn']);rw [List.take_append_drop,hsn'] at hst;rw [hst];refine aB ?_;simp only [go_sem,simprocAttr]<;>simp [sH]
       ·rw [decide_eq_false_iff_not] at h0;rw [if_neg h0] at hsn';unfold awS;simp only [go_sem,simprocAttr];refine ⟨k+1,aB ?_,⟨by omega,by rw [hsn']⟩,by omega⟩;simp only [go_sem,simprocAttr];rw [hsn'];simp [bX (show k<9223372036854775807 by omega),sH]
     ·simp only [bxx] at hge;unfold awS;simp only [go_sem,simprocAttr];rw [List.take_of_length_le (show ns.length≤k by omega)] at hok;rw [List.take_of_length_le (show ns.length≤k by omega)];rw [hok,if_pos rfl];refine aB ?_;simp only [go_sem,simprocAttr,aE8]<;>simp
  ·obtain ⟨v,hg⟩:∃ v,Mw n K=some v:=by
    cases h:Mw n K with
    | none=>exact absurd (by unfold dK;rw [h];rfl) hv
    | some v=>exact ⟨v,rfl⟩
   have hvv:dK n K=v:=by unfold dK;rw [hg];rfl
   have e0:bD p (f+1) n K=(max v 0,K):=by
    conv=>lhs;unfold bD
    rw [if_pos hv,hvv]
   rw [e0];simp only [go_sem,simprocAttr,Rv,hg,Option.map_some];refine brW (b:=true) (by rw [hvv] at hv;simpa using hv) ⟨fun _=>?_,fun h=>absurd h (by decide)⟩;unfold awS;simp only [go_sem,simprocAttr];refine aB ?_;simp only [go_sem,simprocAttr]<;>simp
open Go.RowKit
set_option maxRecDepth 4000
theorem aX1 (f:FuncId):∀ (w:World) (E:Env) v,RdV w E (.t (.lit (.func (.func f) #[] #[]))) v→RdV w E (.clo f []) v:=by
 intro w E v h;obtain ⟨rfl,_⟩:=aG h;simp only [RdV];exact ⟨#[],rfl,by simp only [RdVs]⟩
theorem Aq {α : Type} [Inhabited α] {l:List α} {p : α → Bool} {k:Nat} (hk:k<l.length) (hi:∀ i,i<k→p (l.getD i default)=true) (h:p (l.getD k default)=false):l.findIdx (fun m => !p m)=k:=by
 rw [List.findIdx_eq hk];refine ⟨?_,fun j hj=>?_⟩
 ·rw [aJ hk] at h;rw [h];rfl
 ·have:=hi j hj;rw [aJ (by omega)] at this;rw [this];rfl
theorem cEveryS (t:List ClipR) (hm:t.length≤maxLen):aM Tryz.prog 202 [.t (eD t), .clo 203 []] (aS (t.all pJ)):=by
 refine aH Tryz.X202 Tryz.func202 rfl Tryz.ntmps202 (by rw [Tryz.results202]) (aD _ ?_);simp only [go_sem,simprocAttr];refine aF (fun (k:Nat) σ => cJ 9 (aC k) (bN [6,10,11,12,13,14,15,16,17] (bK σ))) (fun k=>k≤t.length ∧ ∀ i,i<k→pJ (t.getD i default)=true) (fun k=>t.length - k) 0 (aB ?_) ⟨Nat.zero_le _,by omega⟩ ?_
 ·simp only [go_sem,simprocAttr]<;>simp
 ·rintro k ⟨hk,hi⟩;refine aD _ ?_;simp only [go_sem,simprocAttr];refine ⟨fun hlt=>?_,fun hge=>?_⟩
  ·simp only [bxx] at hlt;unfold awS;simp only [go_sem,simprocAttr];refine ⟨⟨by omega,by omega⟩,?_⟩;refine jJ (aWb _) rfl ?_;simp only [go_sem,simprocAttr];refine ⟨fun h2=>?_,fun h2=>?_⟩
   ·unfold awS;simp only [go_sem,simprocAttr];rw [gG (d:=default) (p:=pJ) (k:=k) (by omega) (nt h2)]
   ·unfold awS;simp only [go_sem,simprocAttr];refine ⟨k+1,aB ?_,⟨by omega,upto hi (nf h2)⟩,by omega⟩;simp only [go_sem,simprocAttr]<;>simp [dV (show k<t.length by omega) hm]
  ·simp only [bxx] at hge;unfold awS;simp only [go_sem,simprocAttr];rw [dE (d:=default) (p:=pJ) (fun i h2=>hi i (by omega))]
theorem aWp (t:List ClipR) (hm:t.length≤maxLen):aM Tryz.prog 202 [.t (eD t), .t (.lit (.func (.func 203) #[] #[]))] (aS (t.all pJ)) :=
 sA (.cons cC (.cons (aX1 _) .nil)) (cEveryS t hm)
theorem cAud (s:SequenceR) (c:ClipR):aM Tryz.prog 204 [qG c, .elem 9 (SequenceR.c s) [SequenceR.c s] 0 0] (aS (yF s.channels c)):=by
 refine aH Tryz.X204 Tryz.func204 rfl Tryz.ntmps204 (by rw [Tryz.results204]) (aD _ ?_);simp only [go_sem,simprocAttr,Bw,SequenceR.c];refine ⟨_,aRg c s.channels,?_⟩;simp only [go_sem,simprocAttr]
theorem cEveryA (s:SequenceR) (t:List ClipR) (hm:t.length≤maxLen):aM Tryz.prog 202 [.t (eD t), .clo 204 [.elem 9 (SequenceR.c s) [SequenceR.c s] 0 0]] (aS (t.all (yF s.channels))):=by
 refine aH Tryz.X202 Tryz.func202 rfl Tryz.ntmps202 (by rw [Tryz.results202]) (aD _ ?_);simp only [go_sem,simprocAttr];refine aF (fun (k:Nat) σ => cJ 9 (aC k) (bN [6,10,11,12,13,14,15,16,17] (bK σ))) (fun k=>k≤t.length ∧ ∀ i,i<k→(yF s.channels) (t.getD i default)=true) (fun k=>t.length - k) 0 (aB ?_) ⟨Nat.zero_le _,by omega⟩ ?_
 ·simp only [go_sem,simprocAttr]<;>simp
 ·rintro k ⟨hk,hi⟩;refine aD _ ?_;simp only [go_sem,simprocAttr];refine ⟨fun hlt=>?_,fun hge=>?_⟩
  ·simp only [bxx] at hlt;unfold awS;simp only [go_sem,simprocAttr];refine ⟨⟨by omega,by omega⟩,?_⟩;refine jJ (cAud s _) rfl ?_;simp only [go_sem,simprocAttr];refine ⟨fun h2=>?_,fun h2=>?_⟩
   ·unfold awS;simp only [go_sem,simprocAttr];rw [gG (d:=default) (p:=(yF s.channels)) (k:=k) (by omega) (nt h2)]
   ·unfold awS;simp only [go_sem,simprocAttr];refine ⟨k+1,aB ?_,⟨by omega,upto hi (nf h2)⟩,by omega⟩;simp only [go_sem,simprocAttr]<;>simp [dV (show k<t.length by omega) hm]
  ·simp only [bxx] at hge;unfold awS;simp only [go_sem,simprocAttr];rw [dE (d:=default) (p:=(yF s.channels)) (fun i h2=>hi i (by omega))]
theorem cIdxM (l:List MediumR) (h:∀ m∈l,m.fit) (hm:l.length≤1000000):aM Tryz.prog 195 [.t (Dn l), .clo 141 []] (aC (if l.all fC then -1 else (l.findIdx fun m => !fC m:Nat))):=by
 refine aH Tryz.X195 Tryz.func195 rfl Tryz.ntmps195 (by rw [Tryz.results195]) (aD _ ?_);simp only [go_sem,simprocAttr];refine aF (fun (k:Nat) σ => cJ 8 (aC k) (bN [5,9,10,11,12,13,14,15,16,17,18] (bK σ))) (fun k=>k≤l.length ∧ ∀ i,i<k→fC (l.getD i default)=true) (fun k=>l.length - k) 0 (aB ?_) ⟨Nat.zero_le _,by omega⟩ ?_
 ·simp only [go_sem,simprocAttr]<;>simp
 ·rintro k ⟨hk,hi⟩;refine aD _ ?_;simp only [go_sem,simprocAttr];refine ⟨fun hlt=>?_,fun hge=>?_⟩
  ·simp only [bxx] at hlt;unfold awS;simp only [go_sem,simprocAttr];refine ⟨⟨by omega,by omega⟩,?_⟩;refine jJ (cPMed _ (h _ (aW (by omega)))) rfl ?_;simp only [go_sem,simprocAttr];refine ⟨fun h2=>?_,fun h2=>?_⟩
   ·unfold awS;simp only [go_sem,simprocAttr];rw [gG (d:=default) (p:=fC) (k:=k) (by omega) (nt h2),if_neg Bool.false_ne_true,Aq (by omega) hi (nt h2)]
   ·unfold awS;simp only [go_sem,simprocAttr];refine ⟨k+1,aB ?_,⟨by omega,upto hi (nf h2)⟩,by omega⟩;simp only [go_sem,simprocAttr]<;>simp [bX (show k<9223372036854775807 by omega)]
  ·simp only [bxx] at hge;unfold awS;simp only [go_sem,simprocAttr];rw [dE (d:=default) (p:=fC) (fun i h2=>hi i (by omega)),if_pos rfl]
theorem cHasM (l:List MediumR) (h:∀ m∈l,m.fit) (hm:l.length≤1000000):aM Tryz.prog 140 [.t (Dn l), .t (.lit (.func (.func 141) #[] #[]))] (aS (!l.all fC)):=by
 refine sA (.cons cC (.cons (aX1 _) .nil)) (args:=[.t (Dn l), .clo 141 []]) ?_;refine aH Tryz.X140 Tryz.func140 rfl Tryz.ntmps140 (by rw [Tryz.results140]) (aD _ ?_);simp only [go_sem,simprocAttr];refine ⟨_,cIdxM l h hm,?_⟩;simp only [go_sem,simprocAttr];cases l.all fC<;>simp<;>omega
def Fu (s:SequenceR):Bool:=aT s.name&&aAu s.rate&&Jg s.w&&Jg s.h&&Kp s.channels&&Au s.cues
def yG (t:List ClipR):Bool:=bC t&&t.all pJ
def yY (ch:Int) (t:List ClipR):Bool:=bC t&&t.all (yF ch)
def dU (s:SequenceR):Bool:=Fu s&&s.video.all yG&&s.sound.all (yY s.channels)
theorem Nb {t:List ClipR} (h:bC t=true):t.length≤64:=by
 unfold bC at h;simp only [Bool.and_eq_true,decide_eq_true_eq] at h;exact h.1.1
theorem cMalS (s:SequenceR) (h:s.fit) (hv:s.video.length≤1000000) (hs:s.sound.length≤1000000):aM Tryz.prog 143 [nP s] (aS (!dU s)):=by
 refine aH Tryz.X143 Tryz.func143 rfl Tryz.ntmps143 (by rw [Tryz.results143]) (aD _ ?_);simp only [go_sem,simprocAttr];refine ⟨_,vM s.name,?_⟩;simp only [go_sem,simprocAttr];refine ⟨_,fun _=>aWc s.rate h.rate,?_⟩;simp only [go_sem,simprocAttr];refine ⟨_,fun _=>aWa s.w,?_⟩;simp only [go_sem,simprocAttr];refine ⟨_,fun _=>aWa s.h,?_⟩;simp only [go_sem,simprocAttr];refine ⟨_,fun _=>Mq s.channels,?_⟩;simp only [go_sem,simprocAttr];refine ⟨_,fun _=>aWf s.cues h.cues,?_⟩;simp only [go_sem,simprocAttr];refine brW (b := !Fu s) ?_ ⟨fun hh=>?_,fun hh=>?_⟩
 ·unfold Fu;simp only [Bool.not_and]
 ·unfold awS;simp only [go_sem,simprocAttr];unfold dU;rw [nt hh];rfl
 ·unfold awS;simp only [go_sem,simprocAttr];refine aF (fun (k:Nat) σ => cJ 44 (aC k) (bN [4,45,46,47,48,49,50,51,52,53,54,55,56] (bK σ))) (fun k=>k≤s.video.length ∧ ∀ i,i<k→yG (s.video.getD i default)=true) (fun k=>s.video.length - k) 0 (aB ?_) ⟨Nat.zero_le _,by omega⟩ ?_
  ·simp only [go_sem,simprocAttr]<;>simp
  ·rintro k ⟨hk,hi⟩;refine aD _ ?_;simp only [go_sem,simprocAttr];refine ⟨fun hlt=>?_,fun hge=>?_⟩
   ·simp only [bxx] at hlt;have hd:s.video.getD k []=s.video.getD k default:=rfl;have hmem:s.video.getD k default∈s.video:=aW (by omega);unfold awS;simp only [go_sem,simprocAttr,hd];refine ⟨⟨by omega,by omega⟩,_,Np _ (h.video _ hmem),?_⟩;simp only [go_sem,simprocAttr];refine ⟨_,fun hg=>aWp _ (Nat.le_trans (Nb (by simpa using hg)) (by decide)),?_⟩;simp only [go_sem,simprocAttr];refine brW (b := !yG (s.video.getD k default)) ?_ ⟨fun hc=>?_,fun hc=>?_⟩
    ·unfold yG
     (try simp only [bne]);cases (bC (s.video.getD k default))<;>cases ((s.video.getD k default).all pJ)<;>rfl
    ·unfold awS;simp only [go_sem,simprocAttr];unfold dU;rw [gG (d:=default) (p:=yG) (k:=k) (by omega) (nt hc),Bool.and_false];rfl
    ·unfold awS;simp only [go_sem,simprocAttr];refine ⟨k+1,aB ?_,⟨by omega,upto hi (nf hc)⟩,by omega⟩;simp only [go_sem,simprocAttr]<;>simp [bX (show k<9223372036854775807 by omega)]
   ·simp only [bxx] at hge;have hva:s.video.all yG=true:=dE (d:=default) (p:=yG) (fun i h2=>hi i (by omega));unfold awS;simp only [go_sem,simprocAttr];refine aF (fun (k:Nat) σ => cJ 60 (aC k) (bN [6,61,62,63,64,65,66,67,68,69,70,71,72,73] (bK σ))) (fun k=>k≤s.sound.length ∧ ∀ i,i<k→yY s.channels (s.sound.getD i default)=true) (fun k=>s.sound.length - k) 0 (aB ?_) ⟨Nat.zero_le _,by omega⟩ ?_
    ·simp only [go_sem,simprocAttr]<;>simp
    ·rintro k ⟨hk,hi⟩;refine aD _ ?_;simp only [go_sem,simprocAttr];refine ⟨fun hlt=>?_,fun hge=>?_⟩
     ·simp only [bxx] at hlt;have hd:s.sound.getD k []=s.sound.getD k default:=rfl;have hmem:s.sound.getD k default∈s.sound:=aW (by omega);unfold awS;simp only [go_sem,simprocAttr,hd];refine ⟨⟨by omega,by omega⟩,_,Np _ (h.sound _ hmem),?_⟩;simp only [go_sem,simprocAttr];refine ⟨_,fun hg=>cEveryA s _ (Nat.le_trans (Nb (by simpa using hg)) (by decide)),?_⟩;simp only [go_sem,simprocAttr];refine brW (b := !yY s.channels (s.sound.getD k default)) ?_ ⟨fun hc=>?_,fun hc=>?_⟩
      ·unfold yY
       (try simp only [bne]);cases (bC (s.sound.getD k default))<;>cases ((s.sound.getD k default).all (yF s.channels))<;>rfl
      ·unfold awS;simp only [go_sem,simprocAttr];unfold dU;rw [gG (d:=default) (p:=yY s.channels) (k:=k) (by omega) (nt hc),Bool.and_false];rfl
      ·unfold awS;simp only [go_sem,simprocAttr];refine ⟨k+1,aB ?_,⟨by omega,upto hi (nf hc)⟩,by omega⟩;simp only [go_sem,simprocAttr]<;>simp [bX (show k<9223372036854775807 by omega)]
     ·simp only [bxx] at hge;unfold awS;simp only [go_sem,simprocAttr];unfold dU;rw [nf hh,hva,dE (d:=default) (p:=yY s.channels) (fun i h2=>hi i (by omega))];rfl
theorem cIdxS (l:List SequenceR) (h:∀ m∈l,m.fit) (hm:l.length≤1000000) (hl:∀ s∈l,s.video.length≤1000000∧s.sound.length≤1000000):aM Tryz.prog 200 [.t (Kv l), .clo 143 []] (aC (if l.all dU then -1 else (l.findIdx fun m => !dU m:Nat))):=by
 refine aH Tryz.X200 Tryz.func200 rfl Tryz.ntmps200 (by rw [Tryz.results200]) (aD _ ?_);simp only [go_sem,simprocAttr];refine aF (fun (k:Nat) σ => cJ 8 (aC k) (bN [5,9,10,11,12,13,14,15,16,17,18] (bK σ))) (fun k=>k≤l.length ∧ ∀ i,i<k→dU (l.getD i default)=true) (fun k=>l.length - k) 0 (aB ?_) ⟨Nat.zero_le _,by omega⟩ ?_
 ·simp only [go_sem,simprocAttr]<;>simp
 ·rintro k ⟨hk,hi⟩;refine aD _ ?_;simp only [go_sem,simprocAttr];refine ⟨fun hlt=>?_,fun hge=>?_⟩
  ·simp only [bxx] at hlt;unfold awS;simp only [go_sem,simprocAttr];refine ⟨⟨by omega,by omega⟩,?_⟩;refine jJ (cMalS _ (h _ (aW (by omega))) (hl _ (aW (by omega))).1 (hl _ (aW (by omega))).2) rfl ?_;simp only [go_sem,simprocAttr];refine ⟨fun h2=>?_,fun h2=>?_⟩
   ·unfold awS;simp only [go_sem,simprocAttr];rw [gG (d:=default) (p:=dU) (k:=k) (by omega) (nt h2),if_neg Bool.false_ne_true,Aq (by omega) hi (nt h2)]
   ·unfold awS;simp only [go_sem,simprocAttr];refine ⟨k+1,aB ?_,⟨by omega,upto hi (nf h2)⟩,by omega⟩;simp only [go_sem,simprocAttr]<;>simp [bX (show k<9223372036854775807 by omega)]
  ·simp only [bxx] at hge;unfold awS;simp only [go_sem,simprocAttr];rw [dE (d:=default) (p:=dU) (fun i h2=>hi i (by omega)),if_pos rfl]
theorem cHasS (l:List SequenceR) (h:∀ m∈l,m.fit) (hm:l.length≤1000000) (hl:∀ s∈l,s.video.length≤1000000∧s.sound.length≤1000000):aM Tryz.prog 142 [.t (Kv l), .t (.lit (.func (.func 143) #[] #[]))] (aS (!l.all dU)):=by
 refine sA (.cons cC (.cons (aX1 _) .nil)) (args:=[.t (Kv l), .clo 143 []]) ?_;refine aH Tryz.X142 Tryz.func142 rfl Tryz.ntmps142 (by rw [Tryz.results142]) (aD _ ?_);simp only [go_sem,simprocAttr];refine ⟨_,cIdxS l h hm hl,?_⟩;simp only [go_sem,simprocAttr];cases l.all dU<;>simp<;>omega
def gL (m:MediumR):Bool:=decide ((m.cues.length:Int)≤64)
def dQ (s:SequenceR):Bool:=decide ((s.video.length:Int)≤8)&&decide ((s.sound.length:Int)≤8)&&decide ((s.cues.length:Int)≤64)
def dC (p:ProjR):Bool:=decide ((p.media.length:Int)≤16)&&decide ((p.seqs.length:Int)≤16)&&p.media.all gL&&p.seqs.all dQ
theorem xT (a b:Int):decide (a > b) = !decide (a≤b):=by
 by_cases h:a≤b
 ·rw [decide_eq_true h,decide_eq_false (by omega)];rfl
 ·rw [decide_eq_false h,decide_eq_true (by omega)];rfl
theorem cLarge (p:ProjR):aM Tryz.prog 139 [rN p] (aS (!dC p)):=by
 refine aH Tryz.X139 Tryz.func139 rfl Tryz.ntmps139 (by rw [Tryz.results139]) (aD _ ?_);simp only [go_sem,simprocAttr];refine brW (b := !(decide ((p.media.length:Int)≤16)&&decide ((p.seqs.length:Int)≤16))) ?_ ⟨fun hh=>?_,fun hh=>?_⟩
 ·rw [xT,xT,Bool.not_and]
 ·unfold awS;simp only [go_sem,simprocAttr];unfold dC;rw [nt hh];rfl
 ·have hh2:=nf hh;simp only [Bool.and_eq_true,decide_eq_true_eq] at hh2;unfold awS;simp only [go_sem,simprocAttr];refine aF (fun (k:Nat) σ => cJ 20 (aC k) (bN [4,21,22,23,24,25,26,27,28] (bK σ))) (fun k=>k≤p.media.length ∧ ∀ i,i<k→gL (p.media.getD i default)=true) (fun k=>p.media.length - k) 0 (aB ?_) ⟨Nat.zero_le _,by omega⟩ ?_
  ·simp only [go_sem,simprocAttr]<;>simp
  ·rintro k ⟨hk,hi⟩;refine aD _ ?_;simp only [go_sem,simprocAttr];refine ⟨fun hlt=>?_,fun hge=>?_⟩
   ·simp only [bxx] at hlt;unfold awS;simp only [go_sem,simprocAttr];refine ⟨⟨by omega,by omega⟩,?_⟩;refine brW (b := !gL (p.media.getD k default)) ?_ ⟨fun hc=>?_,fun hc=>?_⟩
    ·unfold gL;exact xT _ _
    ·unfold awS;simp only [go_sem,simprocAttr];unfold dC;rw [nf hh,gG (d:=default) (p:=gL) (k:=k) (by omega) (nt hc)];rfl
    ·unfold awS;simp only [go_sem,simprocAttr];refine ⟨k+1,aB ?_,⟨by omega,upto hi (nf hc)⟩,by omega⟩;simp only [go_sem,simprocAttr]<;>simp [bX (show k<9223372036854775807 by omega)]
   ·simp only [bxx] at hge;have hva:p.media.all gL=true:=dE (d:=default) (p:=gL) (fun i h2=>hi i (by omega));unfold awS;simp only [go_sem,simprocAttr];refine aF (fun (k:Nat) σ => cJ 32 (aC k) (bN [6,33,34,35,36,37,38,39,40,41,42,43,44,45,46,47,48,49,50,51,52] (bK σ))) (fun k=>k≤p.seqs.length ∧ ∀ i,i<k→dQ (p.seqs.getD i default)=true) (fun k=>p.seqs.length - k) 0 (aB ?_) ⟨Nat.zero_le _,by omega⟩ ?_
    ·simp only [go_sem,simprocAttr]<;>simp
    ·rintro k ⟨hk,hi⟩;refine aD _ ?_;simp only [go_sem,simprocAttr];refine ⟨fun hlt=>?_,fun hge=>?_⟩
     ·simp only [bxx] at hlt;unfold awS;simp only [go_sem,simprocAttr];refine ⟨⟨by omega,by omega⟩,?_⟩;refine brW (b := !dQ (p.seqs.getD k default)) ?_ ⟨fun hc=>?_,fun hc=>?_⟩
      ·unfold dQ;rw [xT,xT,xT,Bool.not_and,Bool.not_and]
      ·unfold awS;simp only [go_sem,simprocAttr];unfold dC;rw [nf hh,hva,gG (d:=default) (p:=dQ) (k:=k) (by omega) (nt hc)];rfl
      ·unfold awS;simp only [go_sem,simprocAttr];refine ⟨k+1,aB ?_,⟨by omega,upto hi (nf hc)⟩,by omega⟩;simp only [go_sem,simprocAttr]<;>simp [bX (show k<9223372036854775807 by omega)]
     ·simp only [bxx] at hge;unfold awS;simp only [go_sem,simprocAttr];unfold dC;rw [nf hh,hva,dE (d:=default) (p:=dQ) (fun i h2=>hi i (by omega))];rfl
open Go.RowKit
set_option maxRecDepth 4000
def cM (p:ProjR):List SequenceR→KM→Bool×KM
 | [],K=>(true,K)
 | s::l,K=>if (bD p (p.seqs.length+1) s.name K).1=0 then (false,(bD p (p.seqs.length+1) s.name K).2) else cM p l (bD p (p.seqs.length+1) s.name K).2
theorem Mp (p:ProjR) (x:SequenceR):∀ (xs:List SequenceR) (K:KM),cM p (xs ++ [x]) K =
  if (cM p xs K).1=true then (if (bD p (p.seqs.length+1) x.name (cM p xs K).2).1=0 then (false,(bD p (p.seqs.length+1) x.name (cM p xs K).2).2) else (true,(bD p (p.seqs.length+1) x.name (cM p xs K).2).2)) else cM p xs K
 | [],K=>by by_cases h:(bD p (p.seqs.length+1) x.name K).1=0<;>simp [cM,h]
 | y::xs,K=>by
  simp only [List.cons_append,cM];split
  ·rfl
  ·exact Mp p x xs _
theorem Mn {p:ProjR}:∀ {xs:List SequenceR} {K:KM} (ys:List SequenceR),(cM p xs K).1=false→cM p (xs++ys) K=cM p xs K
 | [],K,ys,h=>by unfold cM at h;cases h
 | x::xs,K,ys,h=>by
  by_cases h0:(bD p (p.seqs.length+1) x.name K).1=0
  ·simp [cM,h0]
  ·simp only [List.cons_append,cM,if_neg h0] at h ⊢;exact Mn ys h
def At (K:KM) (s:SequenceR):Bool:=decide (dK s.name K≤5)
def Cu (p:ProjR):Bool := !(decide (((Vr p.media).length:Int)<p.media.length)||decide (((Uc p.seqs).length:Int)<p.seqs.length))
def bT (p:ProjR):Int :=
 if dC p=false then 5 else
 if (p.media.all fC&&p.seqs.all dU)=false then 1 else
 if Cu p=false then 8 else
 if p.seqs.all (kA p)=false then 7 else
 if (cM p p.seqs []).1=false then 16 else
 if p.seqs.all (At (cM p p.seqs []).2)=false then 18 else 0
theorem aR1 {l:List (List ClipR)} (h:∀ t∈l,t.length≤64):l.flatten.length≤64*l.length:=by
 induction l with
 | nil=>simp
 | cons t l ih =>
  have h1:=h t (by simp);have h2:=ih fun u hu=>h u (by simp [hu])
  simp only [List.flatten_cons,List.length_append,List.length_cons];omega
theorem Rc (kind:Int):∀ l:List ClipR,(dG kind l).length≤2*l.length
 | []=>by simp [dG]
 | c::l=>by
  have ih:=Rc kind l;rw [show c::l = [c]++l from rfl,Db];simp only [List.length_append,List.length_cons,List.length_nil];have:(dG kind [c]).length≤2:=by
   unfold dG;rw [List.length_map];refine Nat.le_trans (List.length_filter_le _ _) ?_;simp
  omega
theorem Rm {kind:Int} {l:List ClipR} {x:ByteArray} (h:x∈dG kind l):∃ c∈l, ∃ s:SourceR,(s=c.a∨s=c.b)∧s.kind=kind∧s.name=x:=by
 unfold dG at h;obtain ⟨s,h1,rfl⟩:=List.mem_map.1 h;rw [List.mem_filter,List.mem_flatMap] at h1;obtain ⟨⟨c,hc,h2⟩,h3⟩:=h1;simp only [List.mem_cons,List.not_mem_nil,or_false] at h2;exact ⟨c,hc,s,h2,by simpa using h3,rfl⟩
theorem sX {s:SequenceR} (h:dU s=true):∀ t∈s.video++s.sound,bC t=true:=by
 unfold dU at h;simp only [Bool.and_eq_true,List.all_eq_true] at h;intro t ht;rcases List.mem_append.1 ht with ht | ht
 ·have:=h.1.2 t ht;unfold yG at this;simp only [Bool.and_eq_true] at this;exact this.1
 ·have:=h.2 t ht;unfold yY at this;simp only [Bool.and_eq_true] at this;exact this.1
theorem aD8 {s:SourceR} (h:aY s=true):s.name.size≤maxLen:=by
 unfold aY at h;rw [Bool.or_eq_true] at h;rcases h with h | h
 ·unfold SourceR.isZ SourceR.eqb zSource at h;simp only [Bool.and_eq_true,beq_iff_eq] at h;rw [tE h.1.1.1.1.1.2];decide
 ·simp only [Bool.and_eq_true,aT,decide_eq_true_eq] at h;have:=h.1.1.1.1.1.2.1.2;unfold maxLen;omega
theorem rF {c:ClipR} (h:bB c=true):aY c.a=true∧aY c.b=true :=
 ⟨(eB h).2.2.2.2.2.1,(eB h).2.2.2.2.2.2.1⟩
theorem aSy {s:SequenceR} (hS:dQ s=true) (h:dU s=true):SeqOk s:=by
 have ht:=sX h;have hl:∀ t∈s.video++s.sound,t.length≤64:=fun t h'=>Nb (ht t h')
 unfold dQ at hS;simp only [Bool.and_eq_true,decide_eq_true_eq] at hS;have hcl:(dF s).length≤1024:=by
  have:=aR1 hl;rw [List.length_append] at this;unfold dF;omega
 refine ⟨by omega,by omega,fun t h'=>Nat.le_trans (hl t h') (by decide),fun kind x hx=>?_,fun kind=>?_⟩
 ·obtain ⟨c,hc,src,h1,_,rfl⟩:=Rm hx;unfold dF at hc;obtain ⟨t,h2,h3⟩:=List.mem_flatten.1 hc;have h4:=ht t h2;unfold bC at h4;simp only [Bool.and_eq_true,List.all_eq_true] at h4;have h5:=rF (h4.1.2 c h3);rcases h1 with rfl | rfl
  ·exact aD8 h5.1
  ·exact aD8 h5.2
 ·have:=Rc kind (dF s);omega
theorem Fs {p:ProjR} (hS:dC p=true) (h:(p.media.all fC&&p.seqs.all dU)=true) (hc:p.seqs.all (kA p)=true):ShownOk p:=by
 unfold dC at hS;simp only [Bool.and_eq_true,List.all_eq_true,decide_eq_true_eq] at hS h hc;refine ⟨fun s hs=>aSy (hS.2 s hs) (h.2 s hs),fun s hs x hx=>?_⟩;obtain ⟨c,hcm,src,h1,h2,rfl⟩:=Rm hx;have h3:=hc s hs;unfold kA at h3;rw [List.all_eq_true] at h3;have h4:=h3 c hcm;unfold dP at h4;rw [Bool.and_eq_true] at h4;have key:∀ src:SourceR,cW p src=true→src.kind=2→(bL p.seqs src.name).isSome=true:=fun src h5 h6=>by
  unfold cW at h5;rw [h6] at h5;cases h7:bL p.seqs src.name with
  | none=>rw [h7] at h5;simp at h5
  | some s=>rfl
 rcases h1 with rfl | rfl
 ·exact key _ h4.1 h2
 ·exact key _ h4.2 h2
set_option maxHeartbeats 4000000 in
theorem aKv (p:ProjR) (h:p.fit):aM Tryz.prog 70 [rN p] (aC (bT p)):=by
 refine aH Tryz.X70 Tryz.func70 rfl Tryz.ntmps70 (by rw [Tryz.results70]) (fD fun hf=>aD _ ?_);simp only [go_sem,↓reduceIte,Nat.reduceAdd,Nat.reduceSub,Nat.reduceLeDiff,reduceCtorEq];refine ⟨_,cLarge p,?_⟩;simp only [go_sem];refine ⟨fun h1=>?_,fun h1=>?_⟩
 ·unfold awS;simp only [go_sem,↓reduceIte,Nat.reduceLeDiff];exact ⟨tT,by unfold bT;rw [nt h1];rfl⟩
 ·have hS:=nf h1;have hS2:=hS;unfold dC at hS2;simp only [Bool.and_eq_true,decide_eq_true_eq,List.all_eq_true] at hS2;have hsl:∀ s∈p.seqs,s.video.length≤1000000∧s.sound.length≤1000000:=fun s hs=>by
   have h2:=hS2.2 s hs;unfold dQ at h2;simp only [Bool.and_eq_true,decide_eq_true_eq] at h2;omega
  unfold awS;simp only [go_sem,↓reduceIte,reduceCtorEq];refine ⟨_,cHasM p.media h.media (by omega),?_⟩;simp only [go_sem,↓reduceIte,reduceCtorEq];refine ⟨_,fun _=>cHasS p.seqs h.seqs (by omega) hsl,?_⟩;simp only [go_sem,↓reduceIte];refine brW (b := !(p.media.all fC&&p.seqs.all dU)) ?_ ⟨fun h2=>?_,fun h2=>?_⟩
  ·rw [Bool.not_and]
  ·unfold awS;simp only [go_sem,↓reduceIte,Nat.reduceLeDiff];exact ⟨tT,by unfold bT;rw [hS,nt h2];rfl⟩
  ·have hO:=nf h2;unfold awS;simp only [go_sem,↓reduceIte,Nat.reduceAdd,Nat.reduceLeDiff,reduceCtorEq];refine kU (cCat p (by omega) (by omega)) rfl ?_;simp only [go_sem,↓reduceIte,Nat.reduceAdd,Nat.reduceLeDiff,reduceCtorEq];refine brW (b := !Cu p) ?_ ⟨fun h3=>?_,fun h3=>?_⟩
   ·unfold Cu;simp only [Bool.not_not]
   ·unfold awS;simp only [go_sem,↓reduceIte,Nat.reduceLeDiff,Nat.reduceEqDiff];exact ⟨tT,by unfold bT;rw [hS,hO,nt h3];rfl⟩
   ·have hU:=nf h3;unfold awS;simp only [go_sem,↓reduceIte,reduceCtorEq];refine aF (fun (k:Nat) σ => cJ 43 (aC k) (bN [5,44,45,46,47,48,49,50,51] (bK σ))) (fun k=>k≤p.seqs.length ∧ ∀ i,i<k→kA p (p.seqs.getD i default)=true) (fun k=>p.seqs.length - k) 0 (aB ?_) ⟨Nat.zero_le _,by omega⟩ ?_
    ·simp only [go_sem,Nat.reduceLT,↓reduceIte,Nat.reduceLeDiff,Nat.reduceEqDiff,reduceCtorEq]<;>simp
    ·rintro k ⟨hk,hi⟩;refine aD _ ?_;simp only [go_sem,↓reduceIte,Nat.reduceEqDiff,reduceCtorEq];refine ⟨fun hlt=>?_,fun hge=>?_⟩
     ·simp only [decide_eq_true_eq] at hlt;have hmem:p.seqs.getD k default∈p.seqs:=aW (by omega);have hok:=aSy (hS2.2 _ hmem) (by rw [Bool.and_eq_true,List.all_eq_true,List.all_eq_true] at hO;exact hO.2 _ hmem);unfold awS;simp only [go_sem,↓reduceIte,Nat.reduceAdd,Nat.reduceLeDiff,Nat.reduceEqDiff];refine ⟨⟨by omega,by omega⟩,_,cCompl p _ hok.hv hok.hs hok.hm,?_⟩;simp only [go_sem];refine brW (b := !kA p (p.seqs.getD k default)) ?_ ⟨fun hc=>?_,fun hc=>?_⟩
      ·rfl
      ·unfold awS;simp only [go_sem,↓reduceIte,Nat.reduceLeDiff,Nat.reduceEqDiff];exact ⟨tT,by unfold bT;rw [hS,hO,hU,gG (d:=default) (p:=kA p) (k:=k) (by omega) (nt hc)];rfl⟩
      ·unfold awS;simp only [go_sem,↓reduceIte];refine ⟨k+1,aB ?_,⟨by omega,upto hi (nf hc)⟩,by omega⟩;simp only [go_sem,Nat.reduceLT,↓reduceIte,Nat.reduceLeDiff,Nat.reduceEqDiff,reduceCtorEq]<;>simp [bX (show k<9223372036854775807 by omega)]
     ·simp only [decide_eq_false_iff_not] at hge;have hC:p.seqs.all (kA p)=true:=dE (d:=default) (p:=kA p) (fun i h2=>hi i (by omega));have hSh:=Fs hS hO hC;unfold awS;simp only [go_sem,↓reduceIte,Nat.reduceAdd,reduceCtorEq];refine aF (fun (k:Nat) σ => zD 3 (.map (kE (cM p (p.seqs.take k) []).2)) (cJ 56 (aC k) (bN [8,57,58,59,60,61,62,63,64,65,66] (bK σ)))) (fun k=>k≤p.seqs.length∧(cM p (p.seqs.take k) []).1=true) (fun k=>p.seqs.length - k) 0 (aB ?_) ⟨Nat.zero_le _,rfl⟩ ?_
      ·simp only [go_sem,Nat.reduceLT,↓reduceIte,Nat.reduceLeDiff,Nat.reduceEqDiff,reduceCtorEq]<;>simp [cM,kE]
      ·rintro k ⟨hk,hok⟩;refine aD _ ?_;simp only [go_sem,↓reduceIte,Nat.reduceEqDiff,reduceCtorEq];refine ⟨fun hlt=>?_,fun hge=>?_⟩
       ·simp only [decide_eq_true_eq] at hlt;have hk':k<p.seqs.length:=by omega
        obtain ⟨s,hs⟩:∃ s,s=p.seqs.getD k default:=⟨_,rfl⟩
        have hmem:s∈p.seqs:=by rw [hs];exact aW hk'
        obtain ⟨r,hr⟩:∃ r,r=cM p (p.seqs.take k) []:=⟨_,rfl⟩
        have hsn:=Mp p s (p.seqs.take k) [];rw [← hr,if_pos (hr ▸ hok),hs, ← cA hk', ← hs] at hsn;rw [← hr];have hseq:(bL p.seqs s.name).isSome=true:=by
         cases h9:bL p.seqs s.name with
         | none=>exact absurd rfl (gW.1 h9 s hmem)
         | some _=>rfl
        have hun:unk p.seqs r.2<p.seqs.length+1:=Nat.lt_succ_of_le (List.length_filter_le _ _);unfold awS;simp only [go_sem,↓reduceIte,Nat.reduceAdd,Nat.reduceLeDiff,Nat.reduceEqDiff];rw [← hs];refine ⟨⟨by omega,by omega⟩,gN Tryz.X145 (cG (aWu p hSh (p.seqs.length+1) s.name r.2 hseq hun) [3] rfl (by omega) (by decide) ?_ rfl rfl rfl rfl ?_)⟩
        ·simp only [go_sem,Nat.reduceLT,↓reduceIte,Nat.reduceEqDiff,(sH id _).2,(sH _ _).1]
        ·simp only [go_sem,Nat.reduceLT,↓reduceIte,Nat.reduceAdd,Nat.reduceSub,Nat.reduceEqDiff,reduceCtorEq];refine brW (b:=decide ((bD p (p.seqs.length+1) s.name r.2).1=0)) ?_ ⟨fun h0=>?_,fun h0=>?_⟩
         ·rfl
         ·rw [decide_eq_true_eq] at h0;rw [if_pos h0] at hsn;have hst:=Mn (p:=p) (xs:=p.seqs.take (k+1)) (K:=[]) (p.seqs.drop (k+1)) (by rw [hsn]);rw [List.take_append_drop,hsn] at hst;unfold awS;simp only [go_sem,↓reduceIte,Nat.reduceLeDiff,Nat.reduceEqDiff];exact ⟨tT,by unfold bT;rw [hS,hO,hU,hC,hst];rfl⟩
         ·rw [decide_eq_false_iff_not] at h0;rw [if_neg h0] at hsn;unfold awS;simp only [go_sem,↓reduceIte];refine ⟨k+1,aB ?_,⟨by omega,by rw [hsn]⟩,by omega⟩;simp only [go_sem,Nat.reduceLT,↓reduceIte,Nat.reduceLeDiff,Nat.reduceEqDiff,reduceCtorEq];rw [hsn];simp [bX (show k<9223372036854775807 by omega),sH]
       ·simp only [decide_eq_false_iff_not] at hge;rw [List.take_of_length_le (show p.seqs.length≤k by omega)] at hok;unfold awS;simp only [go_sem,↓reduceIte,reduceCtorEq];rw [List.take_of_length_le (show p.seqs.length≤k by omega)];obtain ⟨KK,hKK⟩:∃ KK,KK=(cM p p.seqs []).2:=⟨_,rfl⟩
        rw [← hKK];refine aF (fun (k:Nat) σ => cJ 70 (aC k) (bN [10,71,72,73,74,75,76,77,78,79] (bK σ))) (fun k=>k≤p.seqs.length ∧ ∀ i,i<k→At KK (p.seqs.getD i default)=true) (fun k=>p.seqs.length - k) 0 (aB ?_) ⟨Nat.zero_le _,by omega⟩ ?_
        ·simp only [go_sem,Nat.reduceLT,↓reduceIte,Nat.reduceLeDiff,Nat.reduceEqDiff,reduceCtorEq]<;>simp
        ·rintro k ⟨hk,hi⟩;refine aD _ ?_;simp only [go_sem,↓reduceIte,Nat.reduceEqDiff,reduceCtorEq];refine ⟨fun hlt=>?_,fun hge=>?_⟩
         ·simp only [decide_eq_true_eq] at hlt;obtain ⟨s,hs⟩:∃ s,s=p.seqs.getD k default:=⟨_,rfl⟩
          unfold awS;rcases hg:Mw s.name KK with _ | v
          all_goals
           simp only [go_sem,↓reduceIte,Nat.reduceAdd,Nat.reduceLeDiff,Nat.reduceEqDiff, ← hs,Rv,hg,Option.map_none,Option.map_some];refine ⟨⟨by omega,by omega⟩,?_⟩;refine brW (b := !At KK (p.seqs.getD k default)) ?_ ⟨fun hc=>?_,fun hc=>?_⟩
           ·rw [xT];unfold At dK;rw [← hs,hg];rfl
           ·unfold awS;simp only [go_sem,↓reduceIte,Nat.reduceLeDiff,Nat.reduceEqDiff];exact ⟨tT,by unfold bT;rw [hS,hO,hU,hC,hok, ← hKK,gG (d:=default) (p:=At KK) (k:=k) (by omega) (nt hc)];rfl⟩
           ·unfold awS;simp only [go_sem,↓reduceIte];refine ⟨k+1,aB ?_,⟨by omega,upto hi (nf hc)⟩,by omega⟩;simp only [go_sem,Nat.reduceLT,↓reduceIte,Nat.reduceLeDiff,Nat.reduceEqDiff,reduceCtorEq]<;>simp [bX (show k<9223372036854775807 by omega)]
         ·simp only [decide_eq_false_iff_not] at hge;unfold awS;simp only [go_sem,↓reduceIte,Nat.reduceLeDiff,Nat.reduceEqDiff];exact ⟨tT,by unfold bT;rw [hS,hO,hU,hC,hok, ← hKK,dE (d:=default) (p:=At KK) (fun i h2=>hi i (by omega))];rfl⟩
open Go.RowKit
set_option maxRecDepth 4000
abbrev nilV:V := .t (.lit (.slice none 0 0))
end Go.Proofs.YtbfnemkngoaeeaaGreat
