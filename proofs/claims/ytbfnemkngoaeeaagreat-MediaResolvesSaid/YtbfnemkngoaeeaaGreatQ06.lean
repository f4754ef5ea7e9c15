/- Proved here: The deferred function that recovers does nothing where there is no panic. -/
import Derived.Test.YtbfnemkngoaeeaaGreatQ05
import Derived.RecoverIn
set_option linter.unusedSimpArgs false
set_option linter.unusedVariables false
set_option linter.unusedSectionVars false
set_option linter.unnecessarySimpa false
namespace Go.Proofs.YtbfnemkngoaeeaaGreat
open Go.RowKit
set_option maxRecDepth 4000
theorem sW:aUt Tryz.prog 138:=by
 refine ⟨Tryz.X138,fun cap w=>callsDIn_of_wpSIn Tryz.func138 rfl trivial fun c₀ cs hu=>?_⟩;have k1 : 1<cap.size+(3 - cap.size):=by omega
 have k2 : 2<cap.size+(3 - cap.size):=by omega
 have k3 : 1<max 3 cap.size:=by omega
 have k4 : 2<max 3 cap.size:=by omega
 apply wpSIn_seq;apply wpSIn_region;simp [wpOpsSIn,Fence.wide,go_sem,recoverD,hu,Tryz.ntmps138,Exit.thenS,k1,k2,k3,k4];refine wpSIn_cond (t:=false) (by simp [Act.eval,k2,k4]) ?_;refine wpSIn_of_wpIn rfl (wpIn_skip ?_);refine ⟨rfl, .returning,by rw [← hu], .tuple #[],?_,⟨_,rfl⟩,rfl,rfl⟩;simp [results,Tryz.results138,go_sem]
open Go.RowKit
set_option maxRecDepth 4000
def cU (p:ProjR) (x:SourceR):Bool := !(x.kind==1&&(jQ p.media x.name).isNone||x.kind==2&&(eH p.seqs x.name).isNone)
def eD (p:ProjR) (c:ClipR):Bool:=cU p c.a&&cU p c.b
def jK (p:ProjR) (s:SequenceR):Bool:=(cQ s).all (eD p)
theorem Fh (d a:List T):nth d [a] 0=a:=rfl
theorem wr1:IntKind.i64.wrap 1=1:=by decide
theorem wr2:IntKind.i64.wrap 2=2:=by decide
theorem aFg:((2:Nat):Int)=2:=rfl
theorem uM (n:ByteArray) (l:List MediumR):rN (.string n) (Uv l)=(jQ l n).map fun m => .agg (dV m):=zQ _ _ n l
theorem xM (n:ByteArray) (l:List SequenceR):rN (.string n) (Td l)=(eH l n).map fun m=>jG m:=zQ _ _ n l
theorem Qk {p:ProjR} {s:SequenceR} {tr:List (List ClipR)} {i k:Nat} {c:ClipR} (htr:tr=s.video++s.sound) (hi:i<tr.length) (hk:k<(tr.getD i []).length) (hc:c=(tr.getD i []).getD k default) (hn:eD p c=false):jK p s=false:=by
 unfold jK cQ;rw [← htr,List.all_eq_false];refine ⟨c,?_,by rw [hn];exact Bool.false_ne_true⟩;rw [List.mem_flatten];refine ⟨tr.getD i [],?_,?_⟩
 ·rw [List.getD_eq_getElem?_getD,List.getElem?_eq_getElem hi];exact List.getElem_mem hi
 ·rw [hc,aK hk];exact List.getElem_mem hk
set_option maxHeartbeats 20000000 in
theorem cCompl (p:ProjR) (s:SequenceR) (hv:s.video.length≤8) (hs:s.sound.length≤8) (hm:∀ t∈s.video++s.sound,t.length≤maxLen):aS Tryz.prog 144 [aPy p,jG s] (aT (jK p s)):=by
 refine aH Tryz.X144 Tryz.func144 rfl Tryz.ntmps144 (by rw [Tryz.results144]) (aD _ ?_);simp only [go_sem,simprocAttr];refine mR (aU5 s) rfl ?_;simp only [go_sem,simprocAttr];refine ⟨Tryz.X243,?_⟩;unfold aA4;refine ⟨rfl,mH Tryz.X243 Tryz.func243 rfl Tryz.ntmps243 (by rw [Tryz.results243]) (aD _ ?_)⟩;simp only [go_sem,simprocAttr,Fh,SequenceR.c];refine Dz ?_;simp only [go_sem,simprocAttr];refine ⟨_,Yt _ s.video s.sound hv hs,?_⟩;simp only [go_sem,simprocAttr];obtain ⟨tr,htr⟩:∃ tr,tr=s.video++s.sound:=⟨_,rfl⟩
 rw [← htr];have hlen:tr.length≤16:=by rw [htr,List.length_append];omega
 refine aE (fun (i:Nat) σ => bD 14 (aC i) (aW [4,6,15,16,17,18,19,20,21,22,23,24,25,26,27,28,29] (aX σ))) (fun i=>i≤tr.length∧(tr.take i).flatten.all (eD p)=true) (fun i=>tr.length - i) 0 (aA ?_) ⟨Nat.zero_le _,rfl⟩ ?_
 ·simp only [go_sem,simprocAttr]<;>simp
 ·rintro i ⟨hi,hall⟩;refine aD _ ?_;simp only [go_sem,simprocAttr];refine ⟨fun hlt=>?_,fun hge=>?_⟩
  ·simp only [bxx] at hlt;have hi':i<tr.length:=by omega
   unfold awS;simp only [go_sem,simprocAttr,List.length_map];refine ⟨⟨by omega,by omega⟩,?_⟩;refine aE (fun (k:Nat) σ => bD 20 (aC k) (aW [6,21,22,23,24,25,26,27,28] (aX σ))) (fun k=>k≤(tr.getD i []).length∧((tr.getD i []).take k).all (eD p)=true) (fun k=>(tr.getD i []).length - k) 0 (aA ?_) ⟨Nat.zero_le _,rfl⟩ ?_
   ·simp only [go_sem,simprocAttr]<;>simp
   ·rintro k ⟨hk,hallk⟩;refine aD _ ?_;simp only [go_sem,simprocAttr];refine ⟨fun hlt=>?_,fun hge=>?_⟩
    ·simp only [bxx] at hlt;have hk':k<(tr.getD i []).length:=by omega
     have hmt:(tr.getD i []).length≤maxLen:=hm _ (by rw [← htr,List.getD_eq_getElem?_getD,List.getElem?_eq_getElem hi'];exact List.getElem_mem hi');have hk9:k<9223372036854775807:=by unfold maxLen at hmt;omega
     unfold awS;simp only [go_sem,simprocAttr,List.length_map];refine ⟨⟨by omega,by omega⟩,aD _ ?_⟩;simp only [go_sem,simprocAttr];refine aD _ ?_;simp only [go_sem,simprocAttr];refine fP ?_;refine bG (aD _ ?_);simp only [go_sem,simprocAttr,decide_true,aFg];obtain ⟨c,hc⟩:∃ c,c=(tr.getD i []).getD k default:=⟨_,rfl⟩
     rw [← hc];rcases h1:jQ p.media c.a.name with _ | m1<;>rcases h2:eH p.seqs c.a.name with _ | q1
     rotate_left 3
     ·simp only [go_sem,simprocAttr,wr1,uM,xM,h1,h2,Option.map_some];have hb:(!cU p c.a)=false:=by unfold cU;rw [h1,h2];cases (c.a.kind==1)<;>cases (c.a.kind==2)<;>rfl
      refine bG (aD _ ?_);simp only [go_sem,simprocAttr,decide_true,aFg];rcases h3:jQ p.media c.b.name with _ | m2<;>rcases h4:eH p.seqs c.b.name with _ | q2
      rotate_left 3
      ·simp only [go_sem,simprocAttr,wr2,uM,xM,h3,h4,Option.map_some];have hb':(!cU p c.b)=false:=by unfold cU;rw [h3,h4];cases (c.b.kind==1)<;>cases (c.b.kind==2)<;>rfl
       refine bG (aD _ ?_);simp only [go_sem,simprocAttr,decide_false];refine ⟨fun h=>absurd h (by decide),fun _=>?_⟩;unfold awS;simp only [go_sem,simprocAttr];refine ⟨k+1,aA ?_,⟨by omega,?_⟩,by omega⟩
       ·simp only [go_sem,simprocAttr]<;>simp [aZ hk9]
       ·simp only [Bool.not_eq_false'] at hb hb';rw [bE hk',List.all_append,hallk, ← hc];simp [eD,hb,hb']
      all_goals
       simp only [go_sem,simprocAttr,uM,xM,h3,h4,Option.map_some,Option.map_none];refine brW (b := !cU p c.b) (by unfold cU;rw [h3,h4];cases (c.b.kind==1)<;>cases (c.b.kind==2)<;>rfl) ⟨fun hb'=>?_,fun hb'=>?_⟩
       ·unfold awS;simp only [go_sem,simprocAttr];refine ⟨fun _=>?_,fun h=>absurd h (by decide)⟩;unfold awS;simp only [go_sem,simprocAttr];simp only [Bool.not_eq_true'] at hb';rw [Qk htr hi' hk' hc (by unfold eD;rw [hb',Bool.and_false])]
       ·unfold awS;simp only [go_sem,simprocAttr,wr2];refine bG (aD _ ?_);simp only [go_sem,simprocAttr,decide_false];refine ⟨fun h=>absurd h (by decide),fun _=>?_⟩;unfold awS;simp only [go_sem,simprocAttr];refine ⟨k+1,aA ?_,⟨by omega,?_⟩,by omega⟩
        ·simp only [go_sem,simprocAttr]<;>simp [aZ hk9]
        ·simp only [Bool.not_eq_false'] at hb hb';rw [bE hk',List.all_append,hallk, ← hc];simp [eD,hb,hb']
     all_goals
      simp only [go_sem,simprocAttr,uM,xM,h1,h2,Option.map_some,Option.map_none];refine brW (b := !cU p c.a) (by unfold cU;rw [h1,h2];cases (c.a.kind==1)<;>cases (c.a.kind==2)<;>rfl) ⟨fun hb=>?_,fun hb=>?_⟩
      ·unfold awS;simp only [go_sem,simprocAttr];refine ⟨fun _=>?_,fun h=>absurd h (by decide)⟩;unfold awS;simp only [go_sem,simprocAttr];simp only [Bool.not_eq_true'] at hb;rw [Qk htr hi' hk' hc (by unfold eD;rw [hb];rfl)]
      ·unfold awS;simp only [go_sem,simprocAttr,wr1];refine bG (aD _ ?_);simp only [go_sem,simprocAttr,decide_true,aFg];rcases h3:jQ p.media c.b.name with _ | m2<;>rcases h4:eH p.seqs c.b.name with _ | q2
       rotate_left 3
       ·simp only [go_sem,simprocAttr,wr2,uM,xM,h3,h4,Option.map_some];have hb':(!cU p c.b)=false:=by unfold cU;rw [h3,h4];cases (c.b.kind==1)<;>cases (c.b.kind==2)<;>rfl
        refine bG (aD _ ?_);simp only [go_sem,simprocAttr,decide_false];refine ⟨fun h=>absurd h (by decide),fun _=>?_⟩;unfold awS;simp only [go_sem,simprocAttr];refine ⟨k+1,aA ?_,⟨by omega,?_⟩,by omega⟩
        ·simp only [go_sem,simprocAttr]<;>simp [aZ hk9]
        ·simp only [Bool.not_eq_false'] at hb hb';rw [bE hk',List.all_append,hallk, ← hc];simp [eD,hb,hb']
       all_goals
        simp only [go_sem,simprocAttr,uM,xM,h3,h4,Option.map_some,Option.map_none];refine brW (b := !cU p c.b) (by unfold cU;rw [h3,h4];cases (c.b.kind==1)<;>cases (c.b.kind==2)<;>rfl) ⟨fun hb'=>?_,fun hb'=>?_⟩
        ·unfold awS;simp only [go_sem,simprocAttr];refine ⟨fun _=>?_,fun h=>absurd h (by decide)⟩;unfold awS;simp only [go_sem,simprocAttr];simp only [Bool.not_eq_true'] at hb';rw [Qk htr hi' hk' hc (by unfold eD;rw [hb',Bool.and_false])]
        ·unfold awS;simp only [go_sem,simprocAttr,wr2];refine bG (aD _ ?_);simp only [go_sem,simprocAttr,decide_false];refine ⟨fun h=>absurd h (by decide),fun _=>?_⟩;unfold awS;simp only [go_sem,simprocAttr];refine ⟨k+1,aA ?_,⟨by omega,?_⟩,by omega⟩
         ·simp only [go_sem,simprocAttr]<;>simp [aZ hk9]
         ·simp only [Bool.not_eq_false'] at hb hb';rw [bE hk',List.all_append,hallk, ← hc];simp [eD,hb,hb']
    ·simp only [bxx] at hge;unfold awS;simp only [go_sem,simprocAttr];refine ⟨i+1,aA ?_,⟨by omega,?_⟩,by omega⟩
     ·simp only [go_sem,simprocAttr]<;>simp [aZ (show i<9223372036854775807 by omega)]
     ·rw [List.take_of_length_le (show (tr.getD i []).length≤k by omega)] at hallk;rw [bE hi',List.flatten_append,List.all_append,hall,show (default:List ClipR) = [] from rfl];simpa using hallk
  ·simp only [bxx] at hge;unfold awS;simp only [go_sem,simprocAttr];rw [List.take_of_length_le (show tr.length≤i by omega)] at hall;unfold jK cQ;rw [← htr,hall]
open Go.RowKit
set_option maxRecDepth 4000
def dE (kind:Int) (l:List ClipR):List ByteArray:=((l.flatMap fun c=>[c.a,c.b]).filter fun x=>x.kind==kind).map fun x=>x.name
theorem Cu (kind:Int) (l r:List ClipR):dE kind (l++r)=dE kind l++dE kind r:=by
 unfold dE;rw [List.flatMap_append,List.filter_append,List.map_append]
def addK (kind:Int) (x:SourceR) (l:List ByteArray):List ByteArray:=if x.kind==kind then l ++ [x.name] else l
theorem aDs (kind:Int) (l:List ClipR) (c:ClipR):dE kind (l ++ [c])=addK kind c.b (addK kind c.a (dE kind l)):=by
 rw [Cu];unfold addK;simp only [dE,List.flatMap_cons,List.flatMap_nil,List.append_nil,List.filter_cons,List.filter_nil];cases h1:(c.a.kind==kind)<;>cases h2:(c.b.kind==kind)<;>simp
def yesC:Bool×List T:=(false,[.lit (.bool true)])
def rH (l:List ByteArray):List Ent:=kX (fun n:ByteArray=>n) (fun _=>yesC) l
theorem aMn (l:List ByteArray) (n:ByteArray):rH (l ++ [n])=tT (.string n) yesC (rH l):=xL _ _ l n
theorem Az (n:ByteArray) (l:List ByteArray):Cg (.string n) (aT true) (tEs (rH l))=tEs (rH (l ++ [n])):=by
 rw [aMn];exact Fc (.string n) yesC (rH l)
theorem kinds_N (l:List ByteArray):qE .string (rH l)=true:=tF (nB _ _ _)
attribute [go_sem] kinds_N
theorem Xv (l:List ByteArray):(tEs (rH l)).map (·.1)=(nW l).map Value.string:=by
 have h1:(rH l).map (fun e=>Dd e.1)=nW l:=by
  have:=Rm (fun n:ByteArray=>n) (fun _=>yesC) l;rw [List.map_id'] at this;exact this
 have h2:Cm (rH l):=nB _ _ _;unfold tEs;rw [List.map_map, ← h1,List.map_map];refine List.map_congr_left fun e he=>?_
 obtain ⟨s,hs⟩:=h2 e he;simp only [Function.comp_apply,hs,Dd]
theorem cY (g:Nat→Nat):∀ es:List Ent,V.renE g (tEs es)=tEs es∧Fm (tEs es) = []
 | []=>⟨rfl,rfl⟩
 | e::es=>by
  have h:=cY g es;have h1:=Qb g (mkV e.2) (aDt e.2);unfold tEs at h ⊢;simp only [List.map_cons,V.renE,Fm,h1.1,h1.2,h.1,h.2,List.nil_append,and_self]
def gW (s:SequenceR) (kind:Int):List ByteArray:=cV (nW (dE kind (cQ s)))
abbrev tnames (l:List ByteArray):T:=xY l
@[go_sem] def sP (i:Nat) (b:Blk) (σ : St):St := { σ with h := σ.h.set i b }
set_option maxHeartbeats 20000000 in
theorem aB8 (p:ProjR) (n:ByteArray) (kind:Int) (s:SequenceR) (hs:eH p.seqs n=some s) (hv:s.video.length≤8) (hs':s.sound.length≤8) (hm:∀ t∈s.video++s.sound,t.length≤maxLen)
  (hz:∀ x∈dE kind (cQ s),x.size≤maxLen) (hn:(dE kind (cQ s)).length≤1000000) :
  aS Tryz.prog 146 [aPy p,bT n,aC kind] (.t (tnames (gW s kind))):=by
 refine aH Tryz.X146 Tryz.func146 rfl Tryz.ntmps146 (by rw [Tryz.results146]) (aD _ ?_);simp only [go_sem,simprocAttr,xM,hs,Option.map_some];refine mR (aU5 s) rfl ?_;simp only [go_sem,simprocAttr];refine ⟨Tryz.X243,?_⟩;unfold aA4;refine ⟨rfl,mH Tryz.X243 Tryz.func243 rfl Tryz.ntmps243 (by rw [Tryz.results243]) (aD _ ?_)⟩;simp only [go_sem,simprocAttr,Fh,SequenceR.c];refine Dz ?_;simp only [go_sem,simprocAttr];refine ⟨_,Yt _ s.video s.sound hv hs',?_⟩;simp only [go_sem,simprocAttr];obtain ⟨tr,htr⟩:∃ tr,tr=s.video++s.sound:=⟨_,rfl⟩
 rw [← htr];have hlen:tr.length≤16:=by rw [htr,List.length_append];omega
 refine aE (fun (i:Nat) σ => sP 2 (.map (tEs (rH (dE kind (tr.take i).flatten)))) (bD 14 (aC i) (aW [4,6,15,16,17,18,19,20,21,22,23,24,25,26,27,28,29] (aX σ)))) (fun i=>i≤tr.length) (fun i=>tr.length - i) 0 (aA ?_) (Nat.zero_le _) ?_
 ·simp only [go_sem,simprocAttr]<;>simp [rH,dE,kX,tEs]
 ·intro i hi;refine aD _ ?_;simp only [go_sem,simprocAttr];refine ⟨fun hlt=>?_,fun hge=>?_⟩
  ·simp only [bxx] at hlt;have hi':i<tr.length:=by omega
   have hmt:(tr.getD i []).length≤maxLen:=hm _ (by rw [← htr,List.getD_eq_getElem?_getD,List.getElem?_eq_getElem hi'];exact List.getElem_mem hi');unfold awS;simp only [go_sem,simprocAttr,List.length_map];refine ⟨⟨by omega,by omega⟩,?_⟩;refine aE (fun (k:Nat) σ => sP 2 (.map (tEs (rH (dE kind ((tr.take i).flatten++(tr.getD i []).take k))))) (bD 20 (aC k) (aW [6,21,22,23,24,25,26,27,28] (aX σ)))) (fun k=>k≤(tr.getD i []).length) (fun k=>(tr.getD i []).length - k) 0 (aA ?_) (Nat.zero_le _) ?_
   ·simp only [go_sem,simprocAttr]<;>simp
   ·intro k hk;refine aD _ ?_;simp only [go_sem,simprocAttr];refine ⟨fun hlt=>?_,fun hge=>?_⟩
    ·simp only [bxx] at hlt;have hk':k<(tr.getD i []).length:=by omega
     have hk9:k<9223372036854775807:=by unfold maxLen at hmt;omega
     unfold awS;simp only [go_sem,simprocAttr,List.length_map];refine ⟨⟨by omega,by omega⟩,aD _ ?_⟩;simp only [go_sem,simprocAttr];refine aD _ ?_;simp only [go_sem,simprocAttr];obtain ⟨c,hc⟩:∃ c,c=(tr.getD i []).getD k default:=⟨_,rfl⟩
     rw [← hc];obtain ⟨l,hl⟩:∃ l,l=dE kind ((tr.take i).flatten++(tr.getD i []).take k):=⟨_,rfl⟩
     rw [← hl];refine fP ?_;rcases ha:(c.a.kind==kind) with _ | _<;>rcases hb:(c.b.kind==kind) with _ | _
     all_goals
      refine bG (aD _ ?_);simp only [go_sem,simprocAttr,decide_true,wr1,aFg,ha,Az];refine bG (aD _ ?_);simp only [go_sem,simprocAttr,decide_true,wr2,aFg,hb,Az];refine bG (aD _ ?_);simp only [go_sem,simprocAttr,decide_false];refine ⟨fun h=>absurd h (by decide),fun _=>?_⟩;unfold awS;simp only [go_sem,simprocAttr];refine ⟨k+1,aA ?_,by omega,by omega⟩;simp only [go_sem,simprocAttr];rw [bE hk', ← hc, ← List.append_assoc,aDs, ← hl];simp [aZ hk9,addK,ha,hb]
    ·simp only [bxx] at hge;unfold awS;simp only [go_sem,simprocAttr];refine ⟨i+1,aA ?_,by omega,by omega⟩;simp only [go_sem,simprocAttr];rw [bE hi',List.flatten_append,show (default:List ClipR) = [] from rfl,List.take_of_length_le (show (tr.getD i []).length≤k by omega)];simp [aZ (show i<9223372036854775807 by omega)]
  ·simp only [bxx] at hge;unfold awS;simp only [go_sem,simprocAttr];rw [List.take_of_length_le (show tr.length≤i by omega)];refine mH Tryz.X73 Tryz.func73 rfl Tryz.ntmps73 (by rw [Tryz.results73]) (aD _ ?_);simp only [go_sem,simprocAttr];have hcl:tr.flatten=cQ s:=by rw [htr];rfl
   rw [hcl];refine gK Tryz.X59 (cC (Yp (tEs (rH (dE kind (cQ s)))) (nW (dE kind (cQ s))) (jJ ⟨#[]⟩) (Xv _) (mM _) (fun x hx=>hz x (qU.1 hx)) (Nat.le_trans (nV _) hn)) [7,2] rfl (by omega) (by decide) ?_ rfl rfl rfl rfl ?_)
   ·simp only [go_sem,simprocAttr,(cY id _).2,(cY _ _).1];exact decide_eq_true trivial
   ·simp only [go_sem,simprocAttr]<;>rfl
open Go.RowKit
set_option maxRecDepth 4000
abbrev KM:=List (ByteArray×Int)
def kE (K:KM):List (Value×V):=K.map fun e=>(Value.string e.1,aC e.2)
def Me (n:ByteArray):KM→Option Int
 | []=>none
 | e::K=>if n=e.1 then some e.2 else Me n K
def pX (n:ByteArray) (v:Int):KM→KM
 | []=>[(n,v)]
 | e::K=>if n=e.1 then (n,v)::K else e::pX n v K
theorem Ra (n:ByteArray):∀ K:KM,kY (.string n) (kE K)=(Me n K).map fun v=>aC v
 | []=>rfl
 | e::K=>by
  have h:=Ra n K;unfold kE at h ⊢;simp only [List.map_cons,kY,Me,mA,decide_eq_true_eq,h];split<;>rfl
theorem aD8 (n:ByteArray) (v:Int):∀ K:KM,Cg (.string n) (aC v) (kE K)=kE (pX n v K)
 | []=>rfl
 | e::K=>by
  have h:=aD8 n v K;unfold kE at h ⊢;simp only [List.map_cons,Cg,pX,mA,decide_eq_true_eq,h];split<;>rfl
theorem aKz:∀ K:KM,gL .string (kE K)=true
 | []=>rfl
 | e::K=>by
  have h:=aKz K;unfold kE at h ⊢;simp only [List.map_cons,gL,gR,h,Bool.and_self]
attribute [go_sem] aKz
theorem aEp (n m:ByteArray) (v:Int):∀ K:KM,Me n (pX m v K)=if n=m then some v else Me n K
 | []=>rfl
 | e::K=>by
  have ih:=aEp n m v K;unfold pX;split
  ·rename_i h;subst h;simp only [Me];split<;>rfl
  ·rename_i h;simp only [Me,ih];split
   ·rename_i h2;subst h2;rw [if_neg (fun h3=>h h3.symm)]
   ·rfl
def dJ (n:ByteArray) (K:KM):Int:=(Me n K).getD 0
def eY (p:ProjR) (n:ByteArray):List ByteArray:=gW ((eH p.seqs n).getD default) 2
def bJ (go:ByteArray→KM→Int×KM):List ByteArray→KM→Int→Bool×Int×KM
 | [],K,l=>(true,l,K)
 | x::xs,K,l=>if (go x K).1=0 then (false,l,(go x K).2) else bJ go xs (go x K).2 (max l (IntKind.i64.wrap ((go x K).1+1)))
theorem Ah (go:ByteArray→KM→Int×KM) (x:ByteArray):∀ (xs:List ByteArray) (K:KM) (l:Int),bJ go (xs ++ [x]) K l =
  if (bJ go xs K l).1=true then (if (go x (bJ go xs K l).2.2).1=0 then (false,(bJ go xs K l).2.1,(go x (bJ go xs K l).2.2).2) else (true,max (bJ go xs K l).2.1 (IntKind.i64.wrap ((go x (bJ go xs K l).2.2).1+1)),(go x (bJ go xs K l).2.2).2)) else bJ go xs K l
 | [],K,l=>by by_cases h:(go x K).1=0<;>simp [bJ,h]
 | y::xs,K,l=>by
  simp only [List.cons_append,bJ];split
  ·rfl
  ·exact Ah go x xs _ _
theorem Ag {go:ByteArray→KM→Int×KM}:∀ {xs:List ByteArray} {K:KM} {l:Int} (ys:List ByteArray),(bJ go xs K l).1=false→bJ go (xs++ys) K l=bJ go xs K l
 | [],K,l,ys,h=>by unfold bJ at h;cases h
 | x::xs,K,l,ys,h=>by
  by_cases h0:(go x K).1=0
  ·simp [bJ,h0]
  ·simp only [List.cons_append,bJ,if_neg h0] at h ⊢;exact Ag ys h
@[go_sem] theorem aN9:∀ K:KM,xK (kE K)=false
 | []=>rfl
 | e::K=>by
  have h:=aN9 K;unfold kE at h ⊢;simp only [List.map_cons,xK,Rq,h,Bool.false_or]
theorem Wu:∀ K:KM,uL (kE K)=True
 | []=>rfl
 | e::K=>by
  have h:=Wu K;unfold kE at h ⊢;simp only [List.map_cons,uL,h,and_true];exact eq_true rfl
attribute [go_sem] Wu
theorem rJ (g:Nat→Nat):∀ K:KM,V.renE g (kE K)=kE K∧Fm (kE K) = []
 | []=>⟨rfl,rfl⟩
 | e::K=>by
  have h:=rJ g K;unfold kE at h ⊢;simp only [List.map_cons,V.renE,Fm,h.1,h.2,V.ren,V.ment,List.nil_append,and_self]
def bF (p:ProjR):Nat→ByteArray→KM→Int×KM
 | 0,_,K=>(0,K)
 | f+1,n,K=>if dJ n K≠0 then (max (dJ n K) 0,K) else
   if (bJ (bF p f) (eY p n) (pX n (-1) K) 1).1=true
   then ((bJ (bF p f) (eY p n) (pX n (-1) K) 1).2.1,pX n (bJ (bF p f) (eY p n) (pX n (-1) K) 1).2.1 (bJ (bF p f) (eY p n) (pX n (-1) K) 1).2.2)
   else (0,(bJ (bF p f) (eY p n) (pX n (-1) K) 1).2.2)
theorem yP (n m:ByteArray) (v:Int) (K:KM):dJ n (pX m v K)=if n=m then v else dJ n K:=by
 unfold dJ;rw [aEp];split<;>rfl
def unk (l:List SequenceR) (K:KM):Nat:=(l.filter fun s=>decide (dJ s.name K=0)).length
def grows (K K':KM):Prop := ∀ n,dJ n K≠0→dJ n K'≠0
theorem grows.refl (K:KM):grows K K:=fun _ h=>h
theorem grows.trans {a b c:KM} (h:grows a b) (h':grows b c):grows a c:=fun n hn=>h' n (h n hn)
theorem Je (n:ByteArray) {v:Int} (hv:v≠0) (K:KM):grows K (pX n v K):=fun m h=>by
 rw [yP];split
 ·exact hv
 ·exact h
theorem Np {K K':KM} (h:grows K K'):∀ l:List SequenceR,unk l K'≤unk l K
 | []=>Nat.le_refl _
 | s::l=>by
  have ih:=Np h l;unfold unk at ih ⊢;simp only [List.filter_cons];have h1:=h s.name
  by_cases h2:dJ s.name K=0
  ·rw [decide_eq_true h2];split<;>simp<;>omega
  ·rw [decide_eq_false h2,decide_eq_false (h1 h2)];simpa using ih
theorem Zn {K:KM} {n:ByteArray} {v:Int} (hv:v≠0) (hn:dJ n K=0):∀ {l:List SequenceR},(∃ s∈l,s.name=n)→unk l (pX n v K)<unk l K
 | [],h=>by obtain ⟨s,hs,_⟩:=h;cases hs
 | s::l,h=>by
  have hle:=Np (Je n hv K) l;have ih:=fun h'=>Zn (K:=K) (n:=n) hv hn (l:=l) h'
  unfold unk at ih hle ⊢;simp only [List.filter_cons]
  by_cases hs:s.name=n
  ·rw [hs,decide_eq_true hn,yP,if_pos rfl,decide_eq_false hv];simp;omega
  ·have h':∃ s∈l,s.name=n:=by
    obtain ⟨s',h1,h2⟩:=h;rcases List.mem_cons.1 h1 with rfl | h1
    ·exact absurd h2 hs
    ·exact ⟨s',h1,h2⟩
   have ih:=ih h';rw [yP,if_neg hs];split<;>simp<;>omega
theorem Yr {go:ByteArray→KM→Int×KM}:∀ (xs:List ByteArray) (K:KM) (l:Int),l≤(bJ go xs K l).2.1
 | [],K,l=>Int.le_refl _
 | x::xs,K,l=>by
  unfold bJ;split
  ·exact Int.le_refl _
  ·exact Int.le_trans (Int.le_max_left _ _) (Yr xs _ _)
theorem rZ {go:ByteArray→KM→Int×KM} (hg:∀ x K,grows K (go x K).2):∀ (xs:List ByteArray) (K:KM) (l:Int),grows K (bJ go xs K l).2.2
 | [],K,l=>grows.refl K
 | x::xs,K,l=>by
  unfold bJ;split
  ·exact hg x K
  ·exact (hg x K).trans (rZ hg xs _ _)
theorem sA (p:ProjR):∀ (f:Nat) (n:ByteArray) (K:KM),grows K (bF p f n K).2
 | 0,n,K=>grows.refl K
 | f+1,n,K=>by
  unfold bF;split
  ·exact grows.refl K
  ·have h:=(Je n (v := -1) (by decide) K).trans (rZ (sA p f) (eY p n) (pX n (-1) K) 1);split
   ·refine h.trans (Je _ ?_ _);have:=Yr (go:=bF p f) (eY p n) (pX n (-1) K) 1;omega
   ·exact h
structure SeqOk (s:SequenceR):Prop where
 hv:s.video.length≤8
 hs:s.sound.length≤8
 hm:∀ t∈s.video++s.sound,t.length≤maxLen
 hz:∀ kind, ∀ x∈dE kind (cQ s),x.size≤maxLen
 hn:∀ kind,(dE kind (cQ s)).length≤1000000
structure ShownOk (p:ProjR):Prop where
 ok:∀ s∈p.seqs,SeqOk s
 there:∀ s∈p.seqs, ∀ x∈dE 2 (cQ s),(eH p.seqs x).isSome=true
theorem mP {s:SequenceR} {kind:Int} {x:ByteArray}:x∈gW s kind ↔ x∈dE kind (cQ s):=by
 unfold gW;rw [(dY _).mem_iff,qU]
set_option maxHeartbeats 4000000 in
theorem aU6 (p:ProjR) (hp:ShownOk p):∀ (f:Nat) (n:ByteArray) (K:KM),(eH p.seqs n).isSome=true→unk p.seqs K<f →
  CIO Tryz.prog 145 1 [(0, .map (kE K))] [aPy p,bT n, .own 0] (aC (bF p f n K).1) [(0, .map (kE (bF p f n K).2))] 1
 | 0,n,K,_,h=>absurd h (Nat.not_lt_zero _)
 | f+1,n,K,hs,hk=>by
  obtain ⟨s,hsn⟩:=Option.isSome_iff_exists.1 hs;obtain ⟨hsm,hsname⟩:=dZ hsn;have hso:=hp.ok s hsm;have ih:=aU6 p hp f;refine mC Tryz.X145 Tryz.func145 rfl Tryz.ntmps145 (by rw [Tryz.results145]) (aD _ ?_)
  by_cases hv:dJ n K=0
  ·have e0:bF p (f+1) n K=if (bJ (bF p f) (eY p n) (pX n (-1) K) 1).1=true
   then ((bJ (bF p f) (eY p n) (pX n (-1) K) 1).2.1,pX n (bJ (bF p f) (eY p n) (pX n (-1) K) 1).2.1 (bJ (bF p f) (eY p n) (pX n (-1) K) 1).2.2)
   else (0,(bJ (bF p f) (eY p n) (pX n (-1) K) 1).2.2):=by
    conv=>lhs;unfold bF
    rw [if_neg (fun h=>h hv)]
   have hin:eY p n=gW s 2:=by unfold eY;rw [hsn];rfl
   obtain ⟨ns,hns⟩:∃ ns,ns=gW s 2:=⟨_,rfl⟩
   rw [hin, ← hns] at e0;have hu:unk p.seqs (pX n (-1) K)<f:=Nat.lt_of_lt_of_le (Zn (by decide) hv ⟨s,hsm,hsname⟩) (Nat.le_of_lt_succ hk);have hthere:∀ x∈ns,(eH p.seqs x).isSome=true:=fun x hx=>hp.there s hsm x (mP.1 (hns ▸ hx))
   obtain ⟨K1,hK1⟩:∃ K1,K1=pX n (-1) K:=⟨_,rfl⟩
   have hnl:ns.length≤1000000:=by
    rw [hns];unfold gW;rw [(dY _).length_eq];exact Nat.le_trans (nV _) (hso.hn 2)
   rw [← hK1] at e0 hu;rw [e0];clear e0;rcases hg:Me n K with _ | v
   ·simp only [go_sem,simprocAttr,Ra,hg,Option.map_none];refine ⟨_,aB8 p n 2 s hsn hso.hv hso.hs hso.hm (hso.hz 2) (hso.hn 2),?_⟩;simp only [go_sem,simprocAttr,aD8];rw [← hns, ← hK1];refine aE (fun (k:Nat) σ => sP 0 (.map (kE (bJ (bF p f) (ns.take k) K1 1).2.2)) (bD 8 (aC (bJ (bF p f) (ns.take k) K1 1).2.1) (bD 25 (aC k) (aW [10,11,26,27,28,29,30,31,32,33,34,35,36,37,38,39] (aX σ))))) (fun k=>k≤ns.length∧(bJ (bF p f) (ns.take k) K1 1).1=true) (fun k=>ns.length - k) 0 (aA ?_) ⟨Nat.zero_le _,rfl⟩ ?_
    ·simp only [go_sem,simprocAttr]<;>simp [bJ]
    ·rintro k ⟨hk,hok⟩;refine aD _ ?_;simp only [go_sem,simprocAttr];refine ⟨fun hlt=>?_,fun hge=>?_⟩
     ·simp only [bxx] at hlt;have hk':k<ns.length:=by omega
      obtain ⟨x,hx⟩:∃ x,x=ns.getD k default:=⟨_,rfl⟩
      have hxm:x∈ns:=by rw [hx,aK hk'];exact List.getElem_mem hk'
      obtain ⟨r,hr⟩:∃ r,r=bJ (bF p f) (ns.take k) K1 1:=⟨_,rfl⟩
      have hur:unk p.seqs r.2.2<f:=Nat.lt_of_le_of_lt (Np (hr ▸ rZ (sA p f) (ns.take k) K1 1) p.seqs) hu;have hsn':=Ah (bF p f) x (ns.take k) K1 1;rw [← hr,if_pos (hr ▸ hok),hx, ← bE hk', ← hx] at hsn';rw [← hr];unfold awS;simp only [go_sem,simprocAttr,List.length_map];have hxd:ns.getD k { data := #[] }=x:=by rw [hx];rfl
      rw [hxd];refine ⟨⟨by omega,by omega⟩,gK Tryz.X145 (cC (ih x r.2.2 (hthere x hxm) hur) [0] rfl (by omega) (by decide) ?_ rfl rfl rfl rfl ?_)⟩
      ·simp only [go_sem,simprocAttr,(rJ id _).2,(rJ _ _).1]
      ·simp only [go_sem,simprocAttr];refine brW (b:=decide ((bF p f x r.2.2).1=0)) rfl ⟨fun h0=>?_,fun h0=>?_⟩
       ·rw [decide_eq_true_eq] at h0;rw [if_pos h0] at hsn';unfold awS;simp only [go_sem,simprocAttr];have hst:=Ag (go:=bF p f) (xs:=ns.take (k+1)) (K:=K1) (l:=1) (ns.drop (k+1)) (by rw [hsn']);rw [List.take_append_drop,hsn'] at hst;rw [hst];refine aA ?_;simp only [go_sem,simprocAttr]<;>simp [rJ]
       ·rw [decide_eq_false_iff_not] at h0;rw [if_neg h0] at hsn';unfold awS;simp only [go_sem,simprocAttr];refine ⟨k+1,aA ?_,⟨by omega,by rw [hsn']⟩,by omega⟩;simp only [go_sem,simprocAttr];rw [hsn'];simp [aZ (show k<9223372036854775807 by omega),rJ]
     ·simp only [bxx] at hge;unfold awS;simp only [go_sem,simprocAttr];rw [List.take_of_length_le (show ns.length≤k by omega)] at hok;rw [List.take_of_length_le (show ns.length≤k by omega)];rw [hok,if_pos rfl];refine aA ?_;simp only [go_sem,simprocAttr,aD8]<;>simp
   ·have hv0:v=0:=by simpa [dJ,hg] using hv
    subst hv0;simp only [go_sem,simprocAttr,Ra,hg,Option.map_some];refine ⟨_,aB8 p n 2 s hsn hso.hv hso.hs hso.hm (hso.hz 2) (hso.hn 2),?_⟩;simp only [go_sem,simprocAttr,aD8];rw [← hns, ← hK1];refine aE (fun (k:Nat) σ => sP 0 (.map (kE (bJ (bF p f) (ns.take k) K1 1).2.2)) (bD 8 (aC (bJ (bF p f) (ns.take k) K1 1).2.1) (bD 25 (aC k) (aW [10,11,26,27,28,29,30,31,32,33,34,35,36,37,38,39] (aX σ))))) (fun k=>k≤ns.length∧(bJ (bF p f) (ns.take k) K1 1).1=true) (fun k=>ns.length - k) 0 (aA ?_) ⟨Nat.zero_le _,rfl⟩ ?_
    ·simp only [go_sem,simprocAttr]<;>simp [bJ]
    ·rintro k ⟨hk,hok⟩;refine aD _ ?_;simp only [go_sem,simprocAttr];refine ⟨fun hlt=>?_,fun hge=>?_⟩
     ·simp only [bxx] at hlt;have hk':k<ns.length:=by omega
      obtain ⟨x,hx⟩:∃ x,x=ns.getD k default:=⟨_,rfl⟩
      have hxm:x∈ns:=by rw [hx,aK hk'];exact List.getElem_mem hk'
      obtain ⟨r,hr⟩:∃ r,r=bJ (bF p f) (ns.take k) K1 1:=⟨_,rfl⟩
      have hur:unk p.seqs r.2.2<f:=Nat.lt_of_le_of_lt (Np (hr ▸ rZ (sA p f) (ns.take k) K1 1) p.seqs) hu;have hsn':=Ah (bF p f) x (ns.take k) K1 1;rw [← hr,if_pos (hr ▸ hok),hx, ← bE hk', ← hx] at hsn';rw [← hr];unfold awS;simp only [go_sem,simprocAttr,List.length_map];have hxd:ns.getD k { data := #[] }=x:=by rw [hx];rfl
      rw [hxd];refine ⟨⟨by omega,by omega⟩,gK Tryz.X145 (cC (ih x r.2.2 (hthere x hxm) hur) [0] rfl (by omega) (by decide) ?_ rfl rfl rfl rfl ?_)⟩
      ·simp only [go_sem,simprocAttr,(rJ id _).2,(rJ _ _).1]
      ·simp only [go_sem,simprocAttr];refine brW (b:=decide ((bF p f x r.2.2).1=0)) rfl ⟨fun h0=>?_,fun h0=>?_⟩
       ·rw [decide_eq_true_eq] at h0;rw [if_pos h0] at hsn';unfold awS;simp only [go_sem,simprocAttr];have hst:=Ag (go:=bF p f) (xs:=ns.take (k+1)) (K:=K1) (l:=1) (ns.drop (k+1)) (by rw [hsn']);rw [List.take_append_drop,hsn'] at hst;rw [hst];refine aA ?_;simp only [go_sem,simprocAttr]<;>simp [rJ]
       ·rw [decide_eq_false_iff_not] at h0;rw [if_neg h0] at hsn';unfold awS;simp only [go_sem,simprocAttr];refine ⟨k+1,aA ?_,⟨by omega,by rw [hsn']⟩,by omega⟩;simp only [go_sem,simprocAttr];rw [hsn'];simp [aZ (show k<9223372036854775807 by omega),rJ]
     ·simp only [bxx] at hge;unfold awS;simp only [go_sem,simprocAttr];rw [List.take_of_length_le (show ns.length≤k by omega)] at hok;rw [List.take_of_length_le (show ns.length≤k by omega)];rw [hok,if_pos rfl];refine aA ?_;simp only [go_sem,simprocAttr,aD8]<;>simp
  ·obtain ⟨v,hg⟩:∃ v,Me n K=some v:=by
    cases h:Me n K with
    | none=>exact absurd (by unfold dJ;rw [h];rfl) hv
    | some v=>exact ⟨v,rfl⟩
   have hvv:dJ n K=v:=by unfold dJ;rw [hg];rfl
   have e0:bF p (f+1) n K=(max v 0,K):=by
    conv=>lhs;unfold bF
    rw [if_pos hv,hvv]
   rw [e0];simp only [go_sem,simprocAttr,Ra,hg,Option.map_some];refine brW (b:=true) (by rw [hvv] at hv;simpa using hv) ⟨fun _=>?_,fun h=>absurd h (by decide)⟩;unfold awS;simp only [go_sem,simprocAttr];refine aA ?_;simp only [go_sem,simprocAttr]<;>simp
open Go.RowKit
set_option maxRecDepth 4000
theorem aUh (f:FuncId):∀ (w:World) (E:Env) v,RdV w E (.t (.lit (.func (.func f) #[] #[]))) v→RdV w E (.clo f []) v:=by
 intro w E v h;obtain ⟨rfl,_⟩:=aG h;simp only [RdV];exact ⟨#[],rfl,by simp only [RdVs]⟩
theorem Aa {α : Type} [Inhabited α] {l:List α} {p : α → Bool} {k:Nat} (hk:k<l.length) (hi:∀ i,i<k→p (l.getD i default)=true) (h:p (l.getD k default)=false):l.findIdx (fun m => !p m)=k:=by
 rw [List.findIdx_eq hk];refine ⟨?_,fun j hj=>?_⟩
 ·rw [aK hk] at h;rw [h];rfl
 ·have:=hi j hj;rw [aK (by omega)] at this;rw [this];rfl
theorem cEveryS (t:List ClipR) (hm:t.length≤maxLen):aS Tryz.prog 202 [.t (jX t), .clo 203 []] (aT (t.all kH)):=by
 refine aH Tryz.X202 Tryz.func202 rfl Tryz.ntmps202 (by rw [Tryz.results202]) (aD _ ?_);simp only [go_sem,simprocAttr];refine aE (fun (k:Nat) σ => bD 9 (aC k) (aW [6,10,11,12,13,14,15,16,17] (aX σ))) (fun k=>k≤t.length ∧ ∀ i,i<k→kH (t.getD i default)=true) (fun k=>t.length - k) 0 (aA ?_) ⟨Nat.zero_le _,by omega⟩ ?_
 ·simp only [go_sem,simprocAttr]<;>simp
 ·rintro k ⟨hk,hi⟩;refine aD _ ?_;simp only [go_sem,simprocAttr];refine ⟨fun hlt=>?_,fun hge=>?_⟩
  ·simp only [bxx] at hlt;unfold awS;simp only [go_sem,simprocAttr];refine ⟨⟨by omega,by omega⟩,?_⟩;refine mQ (aTv _) rfl ?_;simp only [go_sem,simprocAttr];refine ⟨fun h2=>?_,fun h2=>?_⟩
   ·unfold awS;simp only [go_sem,simprocAttr];rw [cM (d:=default) (p:=kH) (k:=k) (by omega) (nt h2)]
   ·unfold awS;simp only [go_sem,simprocAttr];refine ⟨k+1,aA ?_,⟨by omega,upto hi (nf h2)⟩,by omega⟩;simp only [go_sem,simprocAttr]<;>simp [cJ (show k<t.length by omega) hm]
  ·simp only [bxx] at hge;unfold awS;simp only [go_sem,simprocAttr];rw [bS (d:=default) (p:=kH) (fun i h2=>hi i (by omega))]
theorem aU1 (t:List ClipR) (hm:t.length≤maxLen):aS Tryz.prog 202 [.t (jX t), .t (.lit (.func (.func 203) #[] #[]))] (aT (t.all kH)) :=
 wB (.cons pL (.cons (aUh _) .nil)) (cEveryS t hm)
theorem cAud (s:SequenceR) (c:ClipR):aS Tryz.prog 204 [pN c, .elem 9 (SequenceR.c s) [SequenceR.c s] 0 0] (aT (uT s.channels c)):=by
 refine aH Tryz.X204 Tryz.func204 rfl Tryz.ntmps204 (by rw [Tryz.results204]) (aD _ ?_);simp only [go_sem,simprocAttr,Fh,SequenceR.c];refine ⟨_,aP6 c s.channels,?_⟩;simp only [go_sem,simprocAttr]
theorem cEveryA (s:SequenceR) (t:List ClipR) (hm:t.length≤maxLen):aS Tryz.prog 202 [.t (jX t), .clo 204 [.elem 9 (SequenceR.c s) [SequenceR.c s] 0 0]] (aT (t.all (uT s.channels))):=by
 refine aH Tryz.X202 Tryz.func202 rfl Tryz.ntmps202 (by rw [Tryz.results202]) (aD _ ?_);simp only [go_sem,simprocAttr];refine aE (fun (k:Nat) σ => bD 9 (aC k) (aW [6,10,11,12,13,14,15,16,17] (aX σ))) (fun k=>k≤t.length ∧ ∀ i,i<k→(uT s.channels) (t.getD i default)=true) (fun k=>t.length - k) 0 (aA ?_) ⟨Nat.zero_le _,by omega⟩ ?_
 ·simp only [go_sem,simprocAttr]<;>simp
 ·rintro k ⟨hk,hi⟩;refine aD _ ?_;simp only [go_sem,simprocAttr];refine ⟨fun hlt=>?_,fun hge=>?_⟩
  ·simp only [bxx] at hlt;unfold awS;simp only [go_sem,simprocAttr];refine ⟨⟨by omega,by omega⟩,?_⟩;refine mQ (cAud s _) rfl ?_;simp only [go_sem,simprocAttr];refine ⟨fun h2=>?_,fun h2=>?_⟩
   ·unfold awS;simp only [go_sem,simprocAttr];rw [cM (d:=default) (p:=(uT s.channels)) (k:=k) (by omega) (nt h2)]
   ·unfold awS;simp only [go_sem,simprocAttr];refine ⟨k+1,aA ?_,⟨by omega,upto hi (nf h2)⟩,by omega⟩;simp only [go_sem,simprocAttr]<;>simp [cJ (show k<t.length by omega) hm]
  ·simp only [bxx] at hge;unfold awS;simp only [go_sem,simprocAttr];rw [bS (d:=default) (p:=(uT s.channels)) (fun i h2=>hi i (by omega))]
theorem cIdxM (l:List MediumR) (h:∀ m∈l,m.fit) (hm:l.length≤1000000):aS Tryz.prog 195 [.t (jW l), .clo 141 []] (aC (if l.all dX then -1 else (l.findIdx fun m => !dX m:Nat))):=by
 refine aH Tryz.X195 Tryz.func195 rfl Tryz.ntmps195 (by rw [Tryz.results195]) (aD _ ?_);simp only [go_sem,simprocAttr];refine aE (fun (k:Nat) σ => bD 8 (aC k) (aW [5,9,10,11,12,13,14,15,16,17,18] (aX σ))) (fun k=>k≤l.length ∧ ∀ i,i<k→dX (l.getD i default)=true) (fun k=>l.length - k) 0 (aA ?_) ⟨Nat.zero_le _,by omega⟩ ?_
 ·simp only [go_sem,simprocAttr]<;>simp
 ·rintro k ⟨hk,hi⟩;refine aD _ ?_;simp only [go_sem,simprocAttr];refine ⟨fun hlt=>?_,fun hge=>?_⟩
  ·simp only [bxx] at hlt;unfold awS;simp only [go_sem,simprocAttr];refine ⟨⟨by omega,by omega⟩,?_⟩;refine mQ (cPMed _ (h _ (aP (by omega)))) rfl ?_;simp only [go_sem,simprocAttr];refine ⟨fun h2=>?_,fun h2=>?_⟩
   ·unfold awS;simp only [go_sem,simprocAttr];rw [cM (d:=default) (p:=dX) (k:=k) (by omega) (nt h2),if_neg Bool.false_ne_true,Aa (by omega) hi (nt h2)]
   ·unfold awS;simp only [go_sem,simprocAttr];refine ⟨k+1,aA ?_,⟨by omega,upto hi (nf h2)⟩,by omega⟩;simp only [go_sem,simprocAttr]<;>simp [aZ (show k<9223372036854775807 by omega)]
  ·simp only [bxx] at hge;unfold awS;simp only [go_sem,simprocAttr];rw [bS (d:=default) (p:=dX) (fun i h2=>hi i (by omega)),if_pos rfl]
theorem cHasM (l:List MediumR) (h:∀ m∈l,m.fit) (hm:l.length≤1000000):aS Tryz.prog 140 [.t (jW l), .t (.lit (.func (.func 141) #[] #[]))] (aT (!l.all dX)):=by
 refine wB (.cons pL (.cons (aUh _) .nil)) (args:=[.t (jW l), .clo 141 []]) ?_;refine aH Tryz.X140 Tryz.func140 rfl Tryz.ntmps140 (by rw [Tryz.results140]) (aD _ ?_);simp only [go_sem,simprocAttr];refine ⟨_,cIdxM l h hm,?_⟩;simp only [go_sem,simprocAttr];cases l.all dX<;>simp<;>omega
def tY (s:SequenceR):Bool:=bB s.name&&wZ s.rate&&nP s.w&&nP s.h&&tP s.channels&&mU s.cues
def nJ (t:List ClipR):Bool:=dD t&&t.all kH
def qS (ch:Int) (t:List ClipR):Bool:=dD t&&t.all (uT ch)
def cX (s:SequenceR):Bool:=tY s&&s.video.all nJ&&s.sound.all (qS s.channels)
theorem wN {t:List ClipR} (h:dD t=true):t.length≤64:=by
 unfold dD at h;simp only [Bool.and_eq_true,decide_eq_true_eq] at h;exact h.1.1
theorem cMalS (s:SequenceR) (h:s.fit) (hv:s.video.length≤1000000) (hs:s.sound.length≤1000000):aS Tryz.prog 143 [jG s] (aT (!cX s)):=by
 refine aH Tryz.X143 Tryz.func143 rfl Tryz.ntmps143 (by rw [Tryz.results143]) (aD _ ?_);simp only [go_sem,simprocAttr];refine ⟨_,xW s.name,?_⟩;simp only [go_sem,simprocAttr];refine ⟨_,fun _=>aTw s.rate h.rate,?_⟩;simp only [go_sem,simprocAttr];refine ⟨_,fun _=>aTu s.w,?_⟩;simp only [go_sem,simprocAttr];refine ⟨_,fun _=>aTu s.h,?_⟩;simp only [go_sem,simprocAttr];refine ⟨_,fun _=>Lt s.channels,?_⟩;simp only [go_sem,simprocAttr];refine ⟨_,fun _=>aTy s.cues h.cues,?_⟩;simp only [go_sem,simprocAttr];refine brW (b := !tY s) ?_ ⟨fun hh=>?_,fun hh=>?_⟩
 ·unfold tY;simp only [Bool.not_and]
 ·unfold awS;simp only [go_sem,simprocAttr];unfold cX;rw [nt hh];rfl
 ·unfold awS;simp only [go_sem,simprocAttr];refine aE (fun (k:Nat) σ => bD 44 (aC k) (aW [4,45,46,47,48,49,50,51,52,53,54,55,56] (aX σ))) (fun k=>k≤s.video.length ∧ ∀ i,i<k→nJ (s.video.getD i default)=true) (fun k=>s.video.length - k) 0 (aA ?_) ⟨Nat.zero_le _,by omega⟩ ?_
  ·simp only [go_sem,simprocAttr]<;>simp
  ·rintro k ⟨hk,hi⟩;refine aD _ ?_;simp only [go_sem,simprocAttr];refine ⟨fun hlt=>?_,fun hge=>?_⟩
   ·simp only [bxx] at hlt;have hd:s.video.getD k []=s.video.getD k default:=rfl;have hmem:s.video.getD k default∈s.video:=aP (by omega);unfold awS;simp only [go_sem,simprocAttr,hd];refine ⟨⟨by omega,by omega⟩,_,aLk _ (h.video _ hmem),?_⟩;simp only [go_sem,simprocAttr];refine ⟨_,fun hg=>aU1 _ (Nat.le_trans (wN (by simpa using hg)) (by decide)),?_⟩;simp only [go_sem,simprocAttr];refine brW (b := !nJ (s.video.getD k default)) ?_ ⟨fun hc=>?_,fun hc=>?_⟩
    ·unfold nJ
     (try simp only [bne]);cases (dD (s.video.getD k default))<;>cases ((s.video.getD k default).all kH)<;>rfl
    ·unfold awS;simp only [go_sem,simprocAttr];unfold cX;rw [cM (d:=default) (p:=nJ) (k:=k) (by omega) (nt hc),Bool.and_false];rfl
    ·unfold awS;simp only [go_sem,simprocAttr];refine ⟨k+1,aA ?_,⟨by omega,upto hi (nf hc)⟩,by omega⟩;simp only [go_sem,simprocAttr]<;>simp [aZ (show k<9223372036854775807 by omega)]
   ·simp only [bxx] at hge;have hva:s.video.all nJ=true:=bS (d:=default) (p:=nJ) (fun i h2=>hi i (by omega));unfold awS;simp only [go_sem,simprocAttr];refine aE (fun (k:Nat) σ => bD 60 (aC k) (aW [6,61,62,63,64,65,66,67,68,69,70,71,72,73] (aX σ))) (fun k=>k≤s.sound.length ∧ ∀ i,i<k→qS s.channels (s.sound.getD i default)=true) (fun k=>s.sound.length - k) 0 (aA ?_) ⟨Nat.zero_le _,by omega⟩ ?_
    ·simp only [go_sem,simprocAttr]<;>simp
    ·rintro k ⟨hk,hi⟩;refine aD _ ?_;simp only [go_sem,simprocAttr];refine ⟨fun hlt=>?_,fun hge=>?_⟩
     ·simp only [bxx] at hlt;have hd:s.sound.getD k []=s.sound.getD k default:=rfl;have hmem:s.sound.getD k default∈s.sound:=aP (by omega);unfold awS;simp only [go_sem,simprocAttr,hd];refine ⟨⟨by omega,by omega⟩,_,aLk _ (h.sound _ hmem),?_⟩;simp only [go_sem,simprocAttr];refine ⟨_,fun hg=>cEveryA s _ (Nat.le_trans (wN (by simpa using hg)) (by decide)),?_⟩;simp only [go_sem,simprocAttr];refine brW (b := !qS s.channels (s.sound.getD k default)) ?_ ⟨fun hc=>?_,fun hc=>?_⟩
      ·unfold qS
       (try simp only [bne]);cases (dD (s.sound.getD k default))<;>cases ((s.sound.getD k default).all (uT s.channels))<;>rfl
      ·unfold awS;simp only [go_sem,simprocAttr];unfold cX;rw [cM (d:=default) (p:=qS s.channels) (k:=k) (by omega) (nt hc),Bool.and_false];rfl
      ·unfold awS;simp only [go_sem,simprocAttr];refine ⟨k+1,aA ?_,⟨by omega,upto hi (nf hc)⟩,by omega⟩;simp only [go_sem,simprocAttr]<;>simp [aZ (show k<9223372036854775807 by omega)]
     ·simp only [bxx] at hge;unfold awS;simp only [go_sem,simprocAttr];unfold cX;rw [nf hh,hva,bS (d:=default) (p:=qS s.channels) (fun i h2=>hi i (by omega))];rfl
theorem cIdxS (l:List SequenceR) (h:∀ m∈l,m.fit) (hm:l.length≤1000000) (hl:∀ s∈l,s.video.length≤1000000∧s.sound.length≤1000000):aS Tryz.prog 200 [.t (nL l), .clo 143 []] (aC (if l.all cX then -1 else (l.findIdx fun m => !cX m:Nat))):=by
 refine aH Tryz.X200 Tryz.func200 rfl Tryz.ntmps200 (by rw [Tryz.results200]) (aD _ ?_);simp only [go_sem,simprocAttr];refine aE (fun (k:Nat) σ => bD 8 (aC k) (aW [5,9,10,11,12,13,14,15,16,17,18] (aX σ))) (fun k=>k≤l.length ∧ ∀ i,i<k→cX (l.getD i default)=true) (fun k=>l.length - k) 0 (aA ?_) ⟨Nat.zero_le _,by omega⟩ ?_
 ·simp only [go_sem,simprocAttr]<;>simp
 ·rintro k ⟨hk,hi⟩;refine aD _ ?_;simp only [go_sem,simprocAttr];refine ⟨fun hlt=>?_,fun hge=>?_⟩
  ·simp only [bxx] at hlt;unfold awS;simp only [go_sem,simprocAttr];refine ⟨⟨by omega,by omega⟩,?_⟩;refine mQ (cMalS _ (h _ (aP (by omega))) (hl _ (aP (by omega))).1 (hl _ (aP (by omega))).2) rfl ?_;simp only [go_sem,simprocAttr];refine ⟨fun h2=>?_,fun h2=>?_⟩
   ·unfold awS;simp only [go_sem,simprocAttr];rw [cM (d:=default) (p:=cX) (k:=k) (by omega) (nt h2),if_neg Bool.false_ne_true,Aa (by omega) hi (nt h2)]
   ·unfold awS;simp only [go_sem,simprocAttr];refine ⟨k+1,aA ?_,⟨by omega,upto hi (nf h2)⟩,by omega⟩;simp only [go_sem,simprocAttr]<;>simp [aZ (show k<9223372036854775807 by omega)]
  ·simp only [bxx] at hge;unfold awS;simp only [go_sem,simprocAttr];rw [bS (d:=default) (p:=cX) (fun i h2=>hi i (by omega)),if_pos rfl]
theorem cHasS (l:List SequenceR) (h:∀ m∈l,m.fit) (hm:l.length≤1000000) (hl:∀ s∈l,s.video.length≤1000000∧s.sound.length≤1000000):aS Tryz.prog 142 [.t (nL l), .t (.lit (.func (.func 143) #[] #[]))] (aT (!l.all cX)):=by
 refine wB (.cons pL (.cons (aUh _) .nil)) (args:=[.t (nL l), .clo 143 []]) ?_;refine aH Tryz.X142 Tryz.func142 rfl Tryz.ntmps142 (by rw [Tryz.results142]) (aD _ ?_);simp only [go_sem,simprocAttr];refine ⟨_,cIdxS l h hm hl,?_⟩;simp only [go_sem,simprocAttr];cases l.all cX<;>simp<;>omega
def dQ (m:MediumR):Bool:=decide ((m.cues.length:Int)≤64)
def cW (s:SequenceR):Bool:=decide ((s.video.length:Int)≤8)&&decide ((s.sound.length:Int)≤8)&&decide ((s.cues.length:Int)≤64)
def cL (p:ProjR):Bool:=decide ((p.media.length:Int)≤16)&&decide ((p.seqs.length:Int)≤16)&&p.media.all dQ&&p.seqs.all cW
theorem mS (a b:Int):decide (a > b) = !decide (a≤b):=by
 by_cases h:a≤b
 ·rw [decide_eq_true h,decide_eq_false (by omega)];rfl
 ·rw [decide_eq_false h,decide_eq_true (by omega)];rfl
theorem cLarge (p:ProjR):aS Tryz.prog 139 [dT p] (aT (!cL p)):=by
 refine aH Tryz.X139 Tryz.func139 rfl Tryz.ntmps139 (by rw [Tryz.results139]) (aD _ ?_);simp only [go_sem,simprocAttr];refine brW (b := !(decide ((p.media.length:Int)≤16)&&decide ((p.seqs.length:Int)≤16))) ?_ ⟨fun hh=>?_,fun hh=>?_⟩
 ·rw [mS,mS,Bool.not_and]
 ·unfold awS;simp only [go_sem,simprocAttr];unfold cL;rw [nt hh];rfl
 ·have hh2:=nf hh;simp only [Bool.and_eq_true,decide_eq_true_eq] at hh2;unfold awS;simp only [go_sem,simprocAttr];refine aE (fun (k:Nat) σ => bD 20 (aC k) (aW [4,21,22,23,24,25,26,27,28] (aX σ))) (fun k=>k≤p.media.length ∧ ∀ i,i<k→dQ (p.media.getD i default)=true) (fun k=>p.media.length - k) 0 (aA ?_) ⟨Nat.zero_le _,by omega⟩ ?_
  ·simp only [go_sem,simprocAttr]<;>simp
  ·rintro k ⟨hk,hi⟩;refine aD _ ?_;simp only [go_sem,simprocAttr];refine ⟨fun hlt=>?_,fun hge=>?_⟩
   ·simp only [bxx] at hlt;unfold awS;simp only [go_sem,simprocAttr];refine ⟨⟨by omega,by omega⟩,?_⟩;refine brW (b := !dQ (p.media.getD k default)) ?_ ⟨fun hc=>?_,fun hc=>?_⟩
    ·unfold dQ;exact mS _ _
    ·unfold awS;simp only [go_sem,simprocAttr];unfold cL;rw [nf hh,cM (d:=default) (p:=dQ) (k:=k) (by omega) (nt hc)];rfl
    ·unfold awS;simp only [go_sem,simprocAttr];refine ⟨k+1,aA ?_,⟨by omega,upto hi (nf hc)⟩,by omega⟩;simp only [go_sem,simprocAttr]<;>simp [aZ (show k<9223372036854775807 by omega)]
   ·simp only [bxx] at hge;have hva:p.media.all dQ=true:=bS (d:=default) (p:=dQ) (fun i h2=>hi i (by omega));unfold awS;simp only [go_sem,simprocAttr];refine aE (fun (k:Nat) σ => bD 32 (aC k) (aW [6,33,34,35,36,37,38,39,40,41,42,43,44,45,46,47,48,49,50,51,52] (aX σ))) (fun k=>k≤p.seqs.length ∧ ∀ i,i<k→cW (p.seqs.getD i default)=true) (fun k=>p.seqs.length - k) 0 (aA ?_) ⟨Nat.zero_le _,by omega⟩ ?_
    ·simp only [go_sem,simprocAttr]<;>simp
    ·rintro k ⟨hk,hi⟩;refine aD _ ?_;simp only [go_sem,simprocAttr];refine ⟨fun hlt=>?_,fun hge=>?_⟩
     ·simp only [bxx] at hlt;unfold awS;simp only [go_sem,simprocAttr];refine ⟨⟨by omega,by omega⟩,?_⟩;refine brW (b := !cW (p.seqs.getD k default)) ?_ ⟨fun hc=>?_,fun hc=>?_⟩
      ·unfold cW;rw [mS,mS,mS,Bool.not_and,Bool.not_and]
      ·unfold awS;simp only [go_sem,simprocAttr];unfold cL;rw [nf hh,hva,cM (d:=default) (p:=cW) (k:=k) (by omega) (nt hc)];rfl
      ·unfold awS;simp only [go_sem,simprocAttr];refine ⟨k+1,aA ?_,⟨by omega,upto hi (nf hc)⟩,by omega⟩;simp only [go_sem,simprocAttr]<;>simp [aZ (show k<9223372036854775807 by omega)]
     ·simp only [bxx] at hge;unfold awS;simp only [go_sem,simprocAttr];unfold cL;rw [nf hh,hva,bS (d:=default) (p:=cW) (fun i h2=>hi i (by omega))];rfl
open Go.RowKit
set_option maxRecDepth 4000
def cF (p:ProjR):List SequenceR→KM→Bool×KM
 | [],K=>(true,K)
 | s::l,K=>if (bF p (p.seqs.length+1) s.name K).1=0 then (false,(bF p (p.seqs.length+1) s.name K).2) else cF p l (bF p (p.seqs.length+1) s.name K).2
theorem Ls (p:ProjR) (x:SequenceR):∀ (xs:List SequenceR) (K:KM),cF p (xs ++ [x]) K =
  if (cF p xs K).1=true then (if (bF p (p.seqs.length+1) x.name (cF p xs K).2).1=0 then (false,(bF p (p.seqs.length+1) x.name (cF p xs K).2).2) else (true,(bF p (p.seqs.length+1) x.name (cF p xs K).2).2)) else cF p xs K
 | [],K=>by by_cases h:(bF p (p.seqs.length+1) x.name K).1=0<;>simp [cF,h]
 | y::xs,K=>by
  simp only [List.cons_append,cF];split
  ·rfl
  ·exact Ls p x xs _
theorem Lr {p:ProjR}:∀ {xs:List SequenceR} {K:KM} (ys:List SequenceR),(cF p xs K).1=false→cF p (xs++ys) K=cF p xs K
 | [],K,ys,h=>by unfold cF at h;cases h
 | x::xs,K,ys,h=>by
  by_cases h0:(bF p (p.seqs.length+1) x.name K).1=0
  ·simp [cF,h0]
  ·simp only [List.cons_append,cF,if_neg h0] at h ⊢;exact Lr ys h
def Ad (K:KM) (s:SequenceR):Bool:=decide (dJ s.name K≤5)
def Ck (p:ProjR):Bool := !(decide (((Uv p.media).length:Int)<p.media.length)||decide (((Td p.seqs).length:Int)<p.seqs.length))
def bV (p:ProjR):Int :=
 if cL p=false then 5 else
 if (p.media.all dX&&p.seqs.all cX)=false then 1 else
 if Ck p=false then 8 else
 if p.seqs.all (jK p)=false then 7 else
 if (cF p p.seqs []).1=false then 16 else
 if p.seqs.all (Ad (cF p p.seqs []).2)=false then 18 else 0
theorem sG {l:List (List ClipR)} (h:∀ t∈l,t.length≤64):l.flatten.length≤64*l.length:=by
 induction l with
 | nil=>simp
 | cons t l ih =>
  have h1:=h t (by simp);have h2:=ih fun u hu=>h u (by simp [hu])
  simp only [List.flatten_cons,List.length_append,List.length_cons];omega
theorem Qq (kind:Int):∀ l:List ClipR,(dE kind l).length≤2*l.length
 | []=>by simp [dE]
 | c::l=>by
  have ih:=Qq kind l;rw [show c::l = [c]++l from rfl,Cu];simp only [List.length_append,List.length_cons,List.length_nil];have:(dE kind [c]).length≤2:=by
   unfold dE;rw [List.length_map];refine Nat.le_trans (List.length_filter_le _ _) ?_;simp
  omega
theorem Qv {kind:Int} {l:List ClipR} {x:ByteArray} (h:x∈dE kind l):∃ c∈l, ∃ s:SourceR,(s=c.a∨s=c.b)∧s.kind=kind∧s.name=x:=by
 unfold dE at h;obtain ⟨s,h1,rfl⟩:=List.mem_map.1 h;rw [List.mem_filter,List.mem_flatMap] at h1;obtain ⟨⟨c,hc,h2⟩,h3⟩:=h1;simp only [List.mem_cons,List.not_mem_nil,or_false] at h2;exact ⟨c,hc,s,h2,by simpa using h3,rfl⟩
theorem Hc {s:SequenceR} (h:cX s=true):∀ t∈s.video++s.sound,dD t=true:=by
 unfold cX at h;simp only [Bool.and_eq_true,List.all_eq_true] at h;intro t ht;rcases List.mem_append.1 ht with ht | ht
 ·have:=h.1.2 t ht;unfold nJ at this;simp only [Bool.and_eq_true] at this;exact this.1
 ·have:=h.2 t ht;unfold qS at this;simp only [Bool.and_eq_true] at this;exact this.1
theorem aC5 {s:SourceR} (h:aY s=true):s.name.size≤maxLen:=by
 unfold aY at h;rw [Bool.or_eq_true] at h;rcases h with h | h
 ·unfold SourceR.isZ SourceR.eqb zSource at h;simp only [Bool.and_eq_true,beq_iff_eq] at h;rw [wD h.1.1.1.1.1.2];decide
 ·simp only [Bool.and_eq_true,bB,decide_eq_true_eq] at h;have:=h.1.1.1.1.1.2.1.2;unfold maxLen;omega
theorem aNz {c:ClipR} (h:cP c=true):aY c.a=true∧aY c.b=true :=
 ⟨(qN h).2.2.2.2.2.1,(qN h).2.2.2.2.2.2.1⟩
theorem aQk {s:SequenceR} (hS:cW s=true) (h:cX s=true):SeqOk s:=by
 have ht:=Hc h;have hl:∀ t∈s.video++s.sound,t.length≤64:=fun t h'=>wN (ht t h')
 unfold cW at hS;simp only [Bool.and_eq_true,decide_eq_true_eq] at hS;have hcl:(cQ s).length≤1024:=by
  have:=sG hl;rw [List.length_append] at this;unfold cQ;omega
 refine ⟨by omega,by omega,fun t h'=>Nat.le_trans (hl t h') (by decide),fun kind x hx=>?_,fun kind=>?_⟩
 ·obtain ⟨c,hc,src,h1,_,rfl⟩:=Qv hx;unfold cQ at hc;obtain ⟨t,h2,h3⟩:=List.mem_flatten.1 hc;have h4:=ht t h2;unfold dD at h4;simp only [Bool.and_eq_true,List.all_eq_true] at h4;have h5:=aNz (h4.1.2 c h3);rcases h1 with rfl | rfl
  ·exact aC5 h5.1
  ·exact aC5 h5.2
 ·have:=Qq kind (cQ s);omega
theorem Ev {p:ProjR} (hS:cL p=true) (h:(p.media.all dX&&p.seqs.all cX)=true) (hc:p.seqs.all (jK p)=true):ShownOk p:=by
 unfold cL at hS;simp only [Bool.and_eq_true,List.all_eq_true,decide_eq_true_eq] at hS h hc;refine ⟨fun s hs=>aQk (hS.2 s hs) (h.2 s hs),fun s hs x hx=>?_⟩;obtain ⟨c,hcm,src,h1,h2,rfl⟩:=Qv hx;have h3:=hc s hs;unfold jK at h3;rw [List.all_eq_true] at h3;have h4:=h3 c hcm;unfold eD at h4;rw [Bool.and_eq_true] at h4;have key:∀ src:SourceR,cU p src=true→src.kind=2→(eH p.seqs src.name).isSome=true:=fun src h5 h6=>by
  unfold cU at h5;rw [h6] at h5;cases h7:eH p.seqs src.name with
  | none=>rw [h7] at h5;simp at h5
  | some s=>rfl
 rcases h1 with rfl | rfl
 ·exact key _ h4.1 h2
 ·exact key _ h4.2 h2
set_option maxHeartbeats 4000000 in
theorem aTf (p:ProjR) (h:p.fit):aS Tryz.prog 70 [dT p] (aC (bV p)):=by
 refine aH Tryz.X70 Tryz.func70 rfl Tryz.ntmps70 (by rw [Tryz.results70]) (cG fun hf=>aD _ ?_);simp only [go_sem,↓reduceIte,Nat.reduceAdd,Nat.reduceSub,Nat.reduceLeDiff,reduceCtorEq];refine ⟨_,cLarge p,?_⟩;simp only [go_sem];refine ⟨fun h1=>?_,fun h1=>?_⟩
 ·unfold awS;simp only [go_sem,↓reduceIte,Nat.reduceLeDiff];exact ⟨sW,by unfold bV;rw [nt h1];rfl⟩
 ·have hS:=nf h1;have hS2:=hS;unfold cL at hS2;simp only [Bool.and_eq_true,decide_eq_true_eq,List.all_eq_true] at hS2;have hsl:∀ s∈p.seqs,s.video.length≤1000000∧s.sound.length≤1000000:=fun s hs=>by
   have h2:=hS2.2 s hs;unfold cW at h2;simp only [Bool.and_eq_true,decide_eq_true_eq] at h2;omega
  unfold awS;simp only [go_sem,↓reduceIte,reduceCtorEq];refine ⟨_,cHasM p.media h.media (by omega),?_⟩;simp only [go_sem,↓reduceIte,reduceCtorEq];refine ⟨_,fun _=>cHasS p.seqs h.seqs (by omega) hsl,?_⟩;simp only [go_sem,↓reduceIte];refine brW (b := !(p.media.all dX&&p.seqs.all cX)) ?_ ⟨fun h2=>?_,fun h2=>?_⟩
  ·rw [Bool.not_and]
  ·unfold awS;simp only [go_sem,↓reduceIte,Nat.reduceLeDiff];exact ⟨sW,by unfold bV;rw [hS,nt h2];rfl⟩
  ·have hO:=nf h2;unfold awS;simp only [go_sem,↓reduceIte,Nat.reduceAdd,Nat.reduceLeDiff,reduceCtorEq];refine mR (cCat p (by omega) (by omega)) rfl ?_;simp only [go_sem,↓reduceIte,Nat.reduceAdd,Nat.reduceLeDiff,reduceCtorEq];refine brW (b := !Ck p) ?_ ⟨fun h3=>?_,fun h3=>?_⟩
   ·unfold Ck;simp only [Bool.not_not]
   ·unfold awS;simp only [go_sem,↓reduceIte,Nat.reduceLeDiff,Nat.reduceEqDiff];exact ⟨sW,by unfold bV;rw [hS,hO,nt h3];rfl⟩
   ·have hU:=nf h3;unfold awS;simp only [go_sem,↓reduceIte,reduceCtorEq];refine aE (fun (k:Nat) σ => bD 43 (aC k) (aW [5,44,45,46,47,48,49,50,51] (aX σ))) (fun k=>k≤p.seqs.length ∧ ∀ i,i<k→jK p (p.seqs.getD i default)=true) (fun k=>p.seqs.length - k) 0 (aA ?_) ⟨Nat.zero_le _,by omega⟩ ?_
    ·simp only [go_sem,Nat.reduceLT,↓reduceIte,Nat.reduceLeDiff,Nat.reduceEqDiff,reduceCtorEq]<;>simp
    ·rintro k ⟨hk,hi⟩;refine aD _ ?_;simp only [go_sem,↓reduceIte,Nat.reduceEqDiff,reduceCtorEq];refine ⟨fun hlt=>?_,fun hge=>?_⟩
     ·simp only [decide_eq_true_eq] at hlt;have hmem:p.seqs.getD k default∈p.seqs:=aP (by omega);have hok:=aQk (hS2.2 _ hmem) (by rw [Bool.and_eq_true,List.all_eq_true,List.all_eq_true] at hO;exact hO.2 _ hmem);unfold awS;simp only [go_sem,↓reduceIte,Nat.reduceAdd,Nat.reduceLeDiff,Nat.reduceEqDiff];refine ⟨⟨by omega,by omega⟩,_,cCompl p _ hok.hv hok.hs hok.hm,?_⟩;simp only [go_sem];refine brW (b := !jK p (p.seqs.getD k default)) ?_ ⟨fun hc=>?_,fun hc=>?_⟩
      ·rfl
      ·unfold awS;simp only [go_sem,↓reduceIte,Nat.reduceLeDiff,Nat.reduceEqDiff];exact ⟨sW,by unfold bV;rw [hS,hO,hU,cM (d:=default) (p:=jK p) (k:=k) (by omega) (nt hc)];rfl⟩
      ·unfold awS;simp only [go_sem,↓reduceIte];refine ⟨k+1,aA ?_,⟨by omega,upto hi (nf hc)⟩,by omega⟩;simp only [go_sem,Nat.reduceLT,↓reduceIte,Nat.reduceLeDiff,Nat.reduceEqDiff,reduceCtorEq]<;>simp [aZ (show k<9223372036854775807 by omega)]
     ·simp only [decide_eq_false_iff_not] at hge;have hC:p.seqs.all (jK p)=true:=bS (d:=default) (p:=jK p) (fun i h2=>hi i (by omega));have hSh:=Ev hS hO hC;unfold awS;simp only [go_sem,↓reduceIte,Nat.reduceAdd,reduceCtorEq];refine aE (fun (k:Nat) σ => sP 3 (.map (kE (cF p (p.seqs.take k) []).2)) (bD 56 (aC k) (aW [8,57,58,59,60,61,62,63,64,65,66] (aX σ)))) (fun k=>k≤p.seqs.length∧(cF p (p.seqs.take k) []).1=true) (fun k=>p.seqs.length - k) 0 (aA ?_) ⟨Nat.zero_le _,rfl⟩ ?_
      ·simp only [go_sem,Nat.reduceLT,↓reduceIte,Nat.reduceLeDiff,Nat.reduceEqDiff,reduceCtorEq]<;>simp [cF,kE]
      ·rintro k ⟨hk,hok⟩;refine aD _ ?_;simp only [go_sem,↓reduceIte,Nat.reduceEqDiff,reduceCtorEq];refine ⟨fun hlt=>?_,fun hge=>?_⟩
       ·simp only [decide_eq_true_eq] at hlt;have hk':k<p.seqs.length:=by omega
        obtain ⟨s,hs⟩:∃ s,s=p.seqs.getD k default:=⟨_,rfl⟩
        have hmem:s∈p.seqs:=by rw [hs];exact aP hk'
        obtain ⟨r,hr⟩:∃ r,r=cF p (p.seqs.take k) []:=⟨_,rfl⟩
        have hsn:=Ls p s (p.seqs.take k) [];rw [← hr,if_pos (hr ▸ hok),hs, ← bE hk', ← hs] at hsn;rw [← hr];have hseq:(eH p.seqs s.name).isSome=true:=by
         cases h9:eH p.seqs s.name with
         | none=>exact absurd rfl (kC.1 h9 s hmem)
         | some _=>rfl
        have hun:unk p.seqs r.2<p.seqs.length+1:=Nat.lt_succ_of_le (List.length_filter_le _ _);unfold awS;simp only [go_sem,↓reduceIte,Nat.reduceAdd,Nat.reduceLeDiff,Nat.reduceEqDiff];rw [← hs];refine ⟨⟨by omega,by omega⟩,gK Tryz.X145 (cC (aU6 p hSh (p.seqs.length+1) s.name r.2 hseq hun) [3] rfl (by omega) (by decide) ?_ rfl rfl rfl rfl ?_)⟩
        ·simp only [go_sem,Nat.reduceLT,↓reduceIte,Nat.reduceEqDiff,(rJ id _).2,(rJ _ _).1]
        ·simp only [go_sem,Nat.reduceLT,↓reduceIte,Nat.reduceAdd,Nat.reduceSub,Nat.reduceEqDiff,reduceCtorEq];refine brW (b:=decide ((bF p (p.seqs.length+1) s.name r.2).1=0)) ?_ ⟨fun h0=>?_,fun h0=>?_⟩
         ·rfl
         ·rw [decide_eq_true_eq] at h0;rw [if_pos h0] at hsn;have hst:=Lr (p:=p) (xs:=p.seqs.take (k+1)) (K:=[]) (p.seqs.drop (k+1)) (by rw [hsn]);rw [List.take_append_drop,hsn] at hst;unfold awS;simp only [go_sem,↓reduceIte,Nat.reduceLeDiff,Nat.reduceEqDiff];exact ⟨sW,by unfold bV;rw [hS,hO,hU,hC,hst];rfl⟩
         ·rw [decide_eq_false_iff_not] at h0;rw [if_neg h0] at hsn;unfold awS;simp only [go_sem,↓reduceIte];refine ⟨k+1,aA ?_,⟨by omega,by rw [hsn]⟩,by omega⟩;simp only [go_sem,Nat.reduceLT,↓reduceIte,Nat.reduceLeDiff,Nat.reduceEqDiff,reduceCtorEq];rw [hsn];simp [aZ (show k<9223372036854775807 by omega),rJ]
       ·simp only [decide_eq_false_iff_not] at hge;rw [List.take_of_length_le (show p.seqs.length≤k by omega)] at hok;unfold awS;simp only [go_sem,↓reduceIte,reduceCtorEq];rw [List.take_of_length_le (show p.seqs.length≤k by omega)];obtain ⟨KK,hKK⟩:∃ KK,KK=(cF p p.seqs []).2:=⟨_,rfl⟩
        rw [← hKK];refine aE (fun (k:Nat) σ => bD 70 (aC k) (aW [10,71,72,73,74,75,76,77,78,79] (aX σ))) (fun k=>k≤p.seqs.length ∧ ∀ i,i<k→Ad KK (p.seqs.getD i default)=true) (fun k=>p.seqs.length - k) 0 (aA ?_) ⟨Nat.zero_le _,by omega⟩ ?_
        ·simp only [go_sem,Nat.reduceLT,↓reduceIte,Nat.reduceLeDiff,Nat.reduceEqDiff,reduceCtorEq]<;>simp
        ·rintro k ⟨hk,hi⟩;refine aD _ ?_;simp only [go_sem,↓reduceIte,Nat.reduceEqDiff,reduceCtorEq];refine ⟨fun hlt=>?_,fun hge=>?_⟩
         ·simp only [decide_eq_true_eq] at hlt;obtain ⟨s,hs⟩:∃ s,s=p.seqs.getD k default:=⟨_,rfl⟩
          unfold awS;rcases hg:Me s.name KK with _ | v
          all_goals
           simp only [go_sem,↓reduceIte,Nat.reduceAdd,Nat.reduceLeDiff,Nat.reduceEqDiff, ← hs,Ra,hg,Option.map_none,Option.map_some];refine ⟨⟨by omega,by omega⟩,?_⟩;refine brW (b := !Ad KK (p.seqs.getD k default)) ?_ ⟨fun hc=>?_,fun hc=>?_⟩
           ·rw [mS];unfold Ad dJ;rw [← hs,hg];rfl
           ·unfold awS;simp only [go_sem,↓reduceIte,Nat.reduceLeDiff,Nat.reduceEqDiff];exact ⟨sW,by unfold bV;rw [hS,hO,hU,hC,hok, ← hKK,cM (d:=default) (p:=Ad KK) (k:=k) (by omega) (nt hc)];rfl⟩
           ·unfold awS;simp only [go_sem,↓reduceIte];refine ⟨k+1,aA ?_,⟨by omega,upto hi (nf hc)⟩,by omega⟩;simp only [go_sem,Nat.reduceLT,↓reduceIte,Nat.reduceLeDiff,Nat.reduceEqDiff,reduceCtorEq]<;>simp [aZ (show k<9223372036854775807 by omega)]
         ·simp only [decide_eq_false_iff_not] at hge;unfold awS;simp only [go_sem,↓reduceIte,Nat.reduceLeDiff,Nat.reduceEqDiff];exact ⟨sW,by unfold bV;rw [hS,hO,hU,hC,hok, ← hKK,bS (d:=default) (p:=Ad KK) (fun i h2=>hi i (by omega))];rfl⟩
open Go.RowKit
set_option maxRecDepth 4000
abbrev nilV:V := .t (.lit (.slice none 0 0))
def aJv (L:List Int) (k:Nat):Int:=if k<L.length then L.getD k 0 else (k:Int)*7+3
def aB (L:List Int) (k:Nat) (n:Int):Int:=((aJv L k).tmod n+n).tmod n
theorem aBx (v:Int) {n:Int} (h1 : 1≤n) : -n<v.tmod n∧v.tmod n<n:=by
 have h3:=Int.tmod_lt_of_pos v (show 0<n by omega);have h4:=Int.tmod_lt_of_pos (-v) (show 0<n by omega);rw [Int.neg_tmod] at h4;omega
theorem aF {L:List Int} {k:Nat} {n:Int} (h1 : 1≤n) : 0≤aB L k n∧aB L k n<n:=by
 have h3:=aBx (aJv L k) h1;exact ⟨Int.tmod_nonneg _ (by omega),Int.tmod_lt_of_pos _ (by omega)⟩
theorem Vp {v n:Int} (h1 : 1≤n) (h2:n≤1048576):IntKind.i64.wrap (v.tmod n+n)=v.tmod n+n:=by
 have h3:=aBx v h1;exact wrap64 (by omega) (by omega)
abbrev tapeB (L:List Int) (k:Nat):List V:=[.t (bY L),aC (k:Int)]
theorem bK (L:List Int) (k:Nat) (n:Int) (hk:k≤1048576) (h1 : 1≤n) (h2:n≤1048576):wH Tryz.prog 28 [.t (bY L),aC k] [aC n] (aC (aB L k n)) [.t (bY L),aC ((k+1:Nat):Int)]:=by
 refine pH Tryz.X28 Tryz.func28 rfl Tryz.ntmps28 (by rw [Tryz.results28]) (cG fun hf=>aD _ ?_);have w1:IntKind.i64.wrap ((k:Int)*7)=(k:Int)*7:=wrap64 (by omega) (by omega);have w2:IntKind.i64.wrap ((k:Int)*7+3)=(k:Int)*7+3:=wrap64 (by omega) (by omega);have w3:IntKind.i64.wrap ((k:Int)+1)=(k:Int)+1:=wrap64 (by omega) (by omega);have hn0:n≠0:=by omega
 simp only [go_sem,simprocAttr];refine ⟨fun h=>?_,fun _=>?_⟩
 ·simp only [decide_eq_true_eq] at h;omega
 ·unfold awS;simp only [go_sem,simprocAttr,w1,w2];refine bZ [0,1,2,3,4,5,6,7,8,9] .done rfl (by kernel_rfl) (by kernel_rfl) (by decide) ?_;simp only [go_sem,simprocAttr];refine ⟨fun h=>?_,fun h=>?_⟩
  all_goals simp only [decide_eq_true_eq,decide_eq_false_iff_not,Int.ofNat_lt] at h
  ·unfold awS;simp only [go_sem,simprocAttr];refine bZ [0,1,2,3,4,5,6,7,8,9,10] .done rfl (by kernel_rfl) (by kernel_rfl) (by decide) ?_;simp only [go_sem,simprocAttr,w3,Vp h1 h2];refine ⟨⟨by omega,by omega⟩,hn0,hn0,?_,?_⟩
   ·simp [aB,aJv,if_pos h]
   ·simp
  ·unfold awS;simp only [go_sem,simprocAttr,w3,Vp h1 h2];refine ⟨hn0,hn0,?_,?_⟩
   ·simp [aB,aJv,if_neg h]
   ·simp
def dens:List Int:=[1,1,1,2,3,1001]
def ratR (p q:Int):RatR:=if p=0 then ⟨0,1⟩ else ⟨p / (Nat.gcd p.natAbs q.natAbs:Nat),q / (Nat.gcd p.natAbs q.natAbs:Nat)⟩
def Py (L:List Int) (k:Nat) (n:Int):RatR:=ratR (aB L k n) (dens.getD (aB L (k+1) 6).toNat 0)
theorem cRatT (L:List Int) (k:Nat) (n:Int) (hk:k≤1000000) (h1 : 1≤n) (h2:n≤1048576):wH Tryz.prog 175 [.t (bY L),aC k] [aC n] (Zf (Py L k n)) [.t (bY L),aC ((k+2:Nat):Int)]:=by
 refine pH Tryz.X175 Tryz.func175 rfl Tryz.ntmps175 (by rw [Tryz.results175]) (aD _ ?_);simp only [go_sem,simprocAttr];refine aR 10 .done rfl (by kernel_rfl) (by kernel_rfl) (by decide) ?_;simp only [go_sem,simprocAttr];refine gE (bK L k n (by omega) h1 h2) rfl rfl rfl ?_;simp only [go_sem,simprocAttr];refine gE (bK L (k+1) 6 (by omega) (by omega) (by omega)) rfl rfl rfl ?_;have t6:=aF (L:=L) (k:=k+1) (n:=6) (by omega);have t40:=aF (L:=L) (k:=k) (n:=n) (by omega);obtain ⟨P,hP⟩:∃ P:Nat,aB L k n=P:=⟨(aB L k n).toNat,by omega⟩
 obtain ⟨Q,hQ,hQ1,hQ2⟩:∃ Q:Nat,dens.getD (aB L (k+1) 6).toNat 0=(Q:Int)∧1≤Q∧Q≤1001:=by
  have:(aB L (k+1) 6).toNat=0∨(aB L (k+1) 6).toNat=1∨(aB L (k+1) 6).toNat=2∨(aB L (k+1) 6).toNat=3∨(aB L (k+1) 6).toNat=4∨(aB L (k+1) 6).toNat=5:=by omega
  rcases this with h | h | h | h | h | h<;>rw [h]
  ·exact ⟨1,rfl,by omega,by omega⟩
  ·exact ⟨1,rfl,by omega,by omega⟩
  ·exact ⟨1,rfl,by omega,by omega⟩
  ·exact ⟨2,rfl,by omega,by omega⟩
  ·exact ⟨3,rfl,by omega,by omega⟩
  ·exact ⟨1001,rfl,by omega,by omega⟩
 have hQ':=hQ;unfold dens at hQ';have hr:Py L k n=ratR P Q:=by unfold Py;rw [hP,hQ]
 rw [hr];simp only [go_sem,simprocAttr,hQ',hP];refine ⟨⟨by omega,by omega⟩,by omega,by kernel_rfl,?_⟩;refine aE (fun (x:Nat×Nat) σ => bD 7 (aC x.1) (bD 8 (aC x.2) σ)) (fun x=>Nat.gcd x.1 x.2=Nat.gcd P Q) (fun x=>x.2) (P,Q) (aA ?_) rfl ?_
 ·simp only [go_sem,simprocAttr]<;>simp
 ·rintro ⟨x,y⟩ hg;simp only at hg;refine aD _ ?_;simp only [go_sem,simprocAttr];refine brW (b := !decide (y=0)) ?_ ⟨fun hb=>?_,fun hb=>?_⟩
  ·rw [Bool.eq_iff_iff];simp only [bxx];omega
  ·unfold awS;simp only [go_sem,simprocAttr];have hy:y≠0:=by simpa using hb
   refine bZ [0,1,2,3,4,5] .done rfl (by kernel_rfl) (by kernel_rfl) (by decide) ?_;simp only [go_sem,simprocAttr];refine ⟨by omega,(y,x % y),aA ?_,?_,Nat.mod_lt _ (by omega)⟩
   ·simp only [go_sem,simprocAttr,qQ]<;>simp
   ·simp only;rw [← hg,Nat.gcd_comm x y,Nat.gcd_rec y x,Nat.gcd_comm]
  ·unfold awS;simp only [go_sem,simprocAttr];have hy:y=0:=by simpa using hb
   subst hy;rw [Nat.gcd_zero_right] at hg;subst hg;have hg0 : 0<Nat.gcd P Q:=Nat.gcd_pos_of_pos_right _ (by omega);refine brW (b:=decide (P=0)) ?_ ⟨fun h0=>?_,fun h0=>?_⟩
   ·rw [Bool.eq_iff_iff];simp only [bxx];omega
   ·unfold awS;simp only [go_sem,simprocAttr];have hp0:P=0:=by simpa using h0
    subst hp0;rfl
   ·have hp0:P≠0:=by simpa using h0
    have k1:P / Nat.gcd P Q≤P:=Nat.div_le_self _ _;have k2:Q / Nat.gcd P Q≤Q:=Nat.div_le_self _ _;unfold awS;simp only [go_sem,simprocAttr];refine aR 8 .done rfl (by kernel_rfl) (by kernel_rfl) (by decide) ?_;simp only [go_sem,simprocAttr,uZ,Jy (n:=P / Nat.gcd P Q) (by omega),Jy (n:=Q / Nat.gcd P Q) (by omega)];refine ⟨by omega,by omega,by kernel_rfl,?_⟩;unfold ratR;rw [if_neg (by omega)];rfl
def speeds:List (Int×Int):=[(1,1),(1,1),(1,1),(0,1),(-1,1),(1,2),(2,1),(800,1001),(-3,2)]
def Et (L:List Int) (k:Nat):RatR:=⟨(speeds.getD (aB L k 9).toNat (0,0)).1,(speeds.getD (aB L k 9).toNat (0,0)).2⟩
theorem cSpeed (L:List Int) (k:Nat) (hk:k≤1000000):wH Tryz.prog 39 [.t (bY L),aC k] [] (Zf (Et L k)) [.t (bY L),aC ((k+1:Nat):Int)]:=by
 refine pH Tryz.X39 Tryz.func39 rfl Tryz.ntmps39 (by rw [Tryz.results39]) (aD _ ?_);simp only [go_sem,simprocAttr];refine aQ (bK L k 9 (by omega) (by omega) (by omega)) rfl rfl rfl ?_;have t9:=aF (L:=L) (k:=k) (n:=9) (by omega);simp only [go_sem,simprocAttr];exact ⟨⟨by omega,by omega⟩,by omega,rfl⟩
def dF (p:ByteArray) (i:Int):ByteArray:=p++Utf8.encode (48+i)
theorem Tq (p:ByteArray) (i:Int) (h0 : 0≤i) (h1:i<64) (hp:p.size≤1000):aS Tryz.prog 41 [bT p,aC i] (bT (dF p i)):=by
 refine aH Tryz.X41 Tryz.func41 rfl Tryz.ntmps41 (by rw [Tryz.results41]) (aD _ ?_);simp only [go_sem,simprocAttr];have e:IntKind.i32.wrap (IntKind.i64.wrap (48+i))=48+i:=by
  rw [wrap64 (by omega) (by omega)];have e1:(2:Int) ^ IntKind.i32.bits=4294967296:=by decide
  have e2:(2:Int) ^ (IntKind.i32.bits - 1)=2147483648:=by decide
  unfold IntKind.wrap;simp only [IntKind.signed,e1,e2,Bool.true_and,decide_eq_true_eq];split<;>omega
 have hz:=Lh (48+i);rw [e];refine ⟨?_,rfl⟩;have:IntKind.i64.max=9223372036854775807:=by decide
 rw [this];omega
def Yc:List ClipR→Nat→Int→Int×Int×Bool
 | [],_,_=>(0,0,false)
 | c::l,i,n=>if n<c.len then (i,n,true) else Yc l (i+1) (n - c.len)
abbrev vfind (r:Int×Int×Bool):V := .tup [aC r.1,aC r.2.1,aT r.2.2]
def findT (t:List ClipR) (n:Int):Int×Int×Bool:=if dD t=true∧0≤n then Yc t 0 n else (0,0,false)
abbrev vwide (z:Int):V := .agg [aT (decide (z<0)),yF 0,yF ((z.natAbs:Nat):Int)]
open Go.RowKit
set_option maxRecDepth 4000
def toQ (r:RatR):Rat:=mkRat r.num r.den.toNat
def ofQ (q:Rat):RatR:=⟨q.num,q.den⟩
open Go.RowKit
set_option maxRecDepth 4000
abbrev vqe (q:Rat):V := .tup [Zf (ofQ q),aC 0]
open Go.RowKit
set_option maxRecDepth 4000
def wayQ (s:SourceR) (n:Int):Rat:=toQ ⟨n,1⟩*toQ s.speed
def movedQ (s:SourceR) (n:Int):Rat:=toQ s.pos+wayQ s n
def Hy (s:SourceR) (n:Int):SourceR:=if s.isZ=true then s else { s with pos:=ofQ (movedQ s n) }
structure SrcOk (s:SourceR) (p d:Nat):Prop where
 kind:s.kind=1∨s.kind=2
 name:bB s.name=true
 pos:jH s.pos=true
 speed:jH s.speed=true
 wpos:jD s.pos 1099511627776=true
 wspeed:jD s.speed 1024=true
 hp:s.pos.den=p
 hd:s.speed.den=d
 p1 : 1≤p
 d1 : 1≤d
 lcm:Nat.lcm p d≤65536
 ple:p≤65536
 dle:d≤65536
 pnum:s.pos.num.natAbs≤1099511627776*p
 snum:s.speed.num.natAbs≤1024*d
theorem aQb {s:SourceR} (hv:aY s=true) (hz:s.isZ=false):∃ p d,SrcOk s p d:=by
 unfold aY at hv;rw [hz,Bool.false_or] at hv;simp only [Bool.and_eq_true,Bool.or_eq_true,beq_iff_eq,decide_eq_true_eq] at hv;obtain ⟨⟨⟨⟨⟨⟨h1,h2⟩,h3⟩,h4⟩,h5⟩,h6⟩,h7⟩:=hv;have d1:=jS h3;have d2:=jS h4;obtain ⟨p,hp⟩:=Dq (n:=s.pos.den) (by omega);obtain ⟨d,hd⟩:=Dq (n:=s.speed.den) (by omega);have hl:=aS6 h3 h4 h7;unfold Md at h7;have h5':=h5;have h6':=h6;unfold jD at h5' h6';simp only [decide_eq_true_eq] at h5' h6';rw [hp,hd] at h7;simp only [Int.natAbs_natCast] at h7;exact ⟨p,d,h1,h2,h3,h4,h5,h6,hp,hd,by omega,by omega,h7,by omega,by omega,by omega,by omega⟩
open Go.RowKit
set_option maxRecDepth 4000
def numB (s:SourceR) (n:Int) (p d:Nat):Int:=s.pos.num*((Nat.lcm p d / p:Nat):Int)+n*s.speed.num*((Nat.lcm p d / d:Nat):Int)
open Go.RowKit
set_option maxRecDepth 4000
def aDe (s:SourceR):Bool:=s.isZ||jD s.pos 1099511627776
theorem aU4 (xs:List Int) (hl:xs.length≤65536):aS Tryz.prog 119 [.t (bY xs)] (.t (bY xs)):=by
 refine dS Tryz.X119 Tryz.func119 rfl Tryz.ntmps119 (by rw [Tryz.results119]) (aD _ ?_);simp only [go_sem,simprocAttr];intro b hn;refine ⟨fun hb=>?_,fun hb=>?_⟩
 ·have e:List.map Cj xs = []:=hn hb;unfold awS;simp only [go_sem,simprocAttr];rw [e];exact Wt
 ·unfold awS;simp only [go_sem,simprocAttr];refine ⟨⟨Nat.le_trans hl (by decide),by omega⟩,cR ?_ rfl⟩;simp only [go_sem,simprocAttr]<;>rfl
theorem cCopy (c:ClipR) (hl:c.chan.length≤65536):aS Tryz.prog 193 [pN c] (pN c):=by
 refine aH Tryz.X193 Tryz.func193 rfl Tryz.ntmps193 (by rw [Tryz.results193]) (aD _ ?_);simp only [go_sem,simprocAttr];exact ⟨Nat.le_trans hl (by decide),by omega⟩
open Go.RowKit
set_option maxRecDepth 4000
def aPd:ClipR:=⟨0,0,zSource,zSource,0,0,0,⟨#[]⟩,0,[]⟩
def shK (k:Int):Bool:=k==2||k==3
def advR (c:ClipR) (n:Int):ClipR := { c with len:=c.len - n,a:=Hy c.a n,b:=Hy c.b n,off:=if shK c.kind=true then c.off+n else c.off }
def advOk (c:ClipR) (n:Int):Bool:=cP c&&decide (0≤n)&&decide (n<c.len)
def advC (c:ClipR) (n:Int):ClipR×Int:=if advOk c n=true then (if (aDe (Hy c.a n)&&aDe (Hy c.b n))=true then (advR c n,0) else (aPd,2)) else (aPd,1)
abbrev vce (r:ClipR×Int):V := .tup [pN r.1,aC r.2]
def zVs:List V:=[aC 0,aC 0,aC 0,bT ⟨#[]⟩,aC 0,aC 0,aC 0,aC 0,aT false,aC 0,bT ⟨#[]⟩,aC 0,aC 0,aC 0,aC 0,aT false,aC 0,aC 0,aC 0,bT ⟨#[]⟩,aC 0, .t (.lit (.slice none 0 0))]
open Go.RowKit
set_option maxRecDepth 4000
abbrev vcb (c:ClipR) (b:Bool):V := .tup [pN c,aT b]
def shiftR (c:ClipR) (n:Int):ClipR := { c with a:=Hy c.a n,b:=Hy c.b n,off:=if shK c.kind=true then c.off+n else c.off }
def headOk (c:ClipR) (n:Int):Bool:=cP c&&decide (1≤n)&&decide (n≤c.len)
def headC (c:ClipR) (n:Int):ClipR×Int:=if headOk c n=true then ({ c with len:=n },0) else (aPd,1)
open Go.RowKit
set_option maxRecDepth 4000
def intsEq (a b:List Int):Bool:=a==b
theorem Rr {a b:List Int} {k:Nat} (h1:k<a.length) (h2:a.getD k 0≠b.getD k 0):(a==b)=false:=by
 rw [beq_eq_false_iff_ne];rintro rfl;exact h2 rfl
theorem Le {a b:List Int} (hl:a.length=b.length) (h:∀ i,i<a.length→a.getD i 0=b.getD i 0):(a==b)=true:=by
 rw [beq_iff_eq];refine List.ext_getElem hl fun i h1 h2=>?_
 have:=h i h1;rw [List.getD_eq_getElem?_getD,List.getD_eq_getElem?_getD,List.getElem?_eq_getElem h1,List.getElem?_eq_getElem h2] at this;simpa using this
theorem cEqual (a b:List Int):aS Tryz.prog 267 [.t (bY a), .t (bY b)] (aT (a==b)):=by
 refine aH Tryz.X267 Tryz.func267 rfl Tryz.ntmps267 (by rw [Tryz.results267]) (cG fun hf=>aD _ ?_);simp only [go_sem,simprocAttr,eB] at hf;have hla:a.length≤maxLen:=by first | exact hf.1 | exact hf.1.1 | exact hf.2.1
 simp only [go_sem,simprocAttr];refine ⟨fun h=>?_,fun h=>?_⟩
 ·simp only [bxx] at h;unfold awS;simp only [go_sem,simprocAttr];have:(a==b)=false:=by
   rw [beq_eq_false_iff_ne];rintro rfl;exact h rfl
  rw [this]
 ·have hl:a.length=b.length:=by simp only [bne_eq_false_iff_eq] at h;omega
  unfold awS;simp only [go_sem,simprocAttr];refine aE (fun (k:Nat) σ => bD 13 (aC k) σ) (fun k=>k≤a.length ∧ ∀ i,i<k→a.getD i 0=b.getD i 0) (fun k=>a.length - k) 0 (aA ?_) ⟨Nat.zero_le _,by omega⟩ ?_
  ·simp only [go_sem,simprocAttr]<;>rfl
  ·rintro k ⟨hk,hi⟩;refine aD _ ?_;simp only [go_sem,simprocAttr];refine ⟨fun hlt=>?_,fun hge=>?_⟩
   ·simp only [bxx] at hlt;unfold awS;simp only [go_sem,simprocAttr];refine bZ [0,1,2,3,4,5,6,7,8] .done rfl (by kernel_rfl) (by kernel_rfl) (by decide) ?_;simp only [go_sem,simprocAttr];refine ⟨⟨by omega,by omega⟩,⟨by omega,by omega⟩,?_⟩;refine ⟨fun h2=>?_,fun h2=>?_⟩
    ·unfold awS;simp only [go_sem,simprocAttr];rw [Rr (k:=k) (by omega) (by simpa using h2)]
    ·unfold awS;simp only [go_sem,simprocAttr];refine ⟨k+1,aA ?_,⟨by omega,upto hi (by simpa using h2)⟩,by omega⟩;simp only [go_sem,simprocAttr]<;>simp [cJ (show k<a.length by omega) hla]
   ·simp only [bxx] at hge;unfold awS;simp only [go_sem,simprocAttr];rw [Le hl (fun i h2=>hi i (by omega))]
def ClipR.eqb (a b:ClipR):Bool:=a.len==b.len&&a.kind==b.kind&&SourceR.eqb a.a b.a&&SourceR.eqb a.b b.b&&a.off==b.off&&a.total==b.total&&a.param==b.param&&(a.text.toList==b.text.toList)&&a.gain==b.gain&&(a.chan==b.chan)
theorem ClipR.eqb_chan {a b:ClipR} (h:(a.chan==b.chan)=false):a.eqb b=false:=by
 unfold ClipR.eqb;rw [h,Bool.and_false]
theorem aP3 (a b:ClipR):aS Tryz.prog 194 [pN a,pN b] (aT (a.eqb b)):=by
 refine aH Tryz.X194 Tryz.func194 rfl Tryz.ntmps194 (by rw [Tryz.results194]) (cG fun hf=>aD _ ?_);simp only [go_sem,simprocAttr,eB] at hf;have hla:a.chan.length≤maxLen:=hf.1.2.2.2.2.2.2.2.2.2.2.2.2.2.2.2.2.2.2.2.2.2.1;simp only [go_sem,simprocAttr];refine ⟨fun h=>?_,fun h=>?_⟩
 ·simp only [bxx] at h;unfold awS;simp only [go_sem,simprocAttr];rw [ClipR.eqb_chan];rw [beq_eq_false_iff_ne];intro e;rw [e] at h;exact h rfl
 ·have hl:a.chan.length=b.chan.length:=by simp only [bne_eq_false_iff_eq] at h;omega
  unfold awS;simp only [go_sem,simprocAttr];refine aE (fun (k:Nat) σ => bD 5 (aC k) σ) (fun k=>k≤a.chan.length ∧ ∀ i,i<k→a.chan.getD i 0=b.chan.getD i 0) (fun k=>a.chan.length - k) 0 (aA ?_) ⟨Nat.zero_le _,by omega⟩ ?_
  ·simp only [go_sem,simprocAttr]
   first | rfl | simp
  ·rintro k ⟨hk,hi⟩;refine aD _ ?_;simp only [go_sem,simprocAttr];refine ⟨fun hlt=>?_,fun hge=>?_⟩
   ·simp only [bxx] at hlt;unfold awS;simp only [go_sem,simprocAttr];refine bZ [0,1,2,3,4,5,6,7,8,9,10] .done rfl (by kernel_rfl) (by kernel_rfl) (by decide) ?_;simp only [go_sem,simprocAttr];refine ⟨⟨by omega,by omega⟩,⟨by omega,by omega⟩,?_⟩;refine ⟨fun h2=>?_,fun h2=>?_⟩
    ·unfold awS;simp only [go_sem,simprocAttr];rw [ClipR.eqb_chan (Rr (k:=k) (by omega) (by simpa using h2))]
    ·unfold awS;simp only [go_sem,simprocAttr];refine ⟨k+1,aA ?_,⟨by omega,upto hi (by simpa using h2)⟩,by omega⟩;simp only [go_sem,simprocAttr]<;>simp [cJ (show k<a.chan.length by omega) hla]
   ·simp only [bxx] at hge;have hch:(a.chan==b.chan)=true:=Le hl (fun i h2=>hi i (by omega));unfold awS;simp only [go_sem,simprocAttr];refine ⟨_,fun _=>tK a.a b.a,_,fun _=>tK a.b b.b,?_⟩;try simp only [go_sem,simprocAttr,List.append,List.append_eq,List.cons_append,List.nil_append]
    unfold ClipR.eqb;rw [hch,Bool.and_true]
theorem SourceR.eqb_iff {a b:SourceR}:a.eqb b=true ↔ a=b:=by
 unfold SourceR.eqb;simp only [Bool.and_eq_true,beq_iff_eq];refine ⟨fun ⟨⟨⟨⟨⟨⟨h1,h2⟩,h3⟩,h4⟩,h5⟩,h6⟩,h7⟩=>?_,fun h=>by rw [h];exact ⟨⟨⟨⟨⟨⟨rfl,rfl⟩,rfl⟩,rfl⟩,rfl⟩,rfl⟩,rfl⟩⟩;obtain ⟨k,n,⟨p1,p2⟩,⟨q1,q2⟩,m⟩:=a;obtain ⟨k',n',⟨p1',p2'⟩,⟨q1',q2'⟩,m'⟩:=b;simp only at h1 h2 h3 h4 h5 h6 h7;rw [h1,wD h2,h3,h4,h5,h6,h7]
theorem ClipR.eqb_iff {a b:ClipR}:a.eqb b=true ↔ a=b:=by
 unfold ClipR.eqb;simp only [Bool.and_eq_true,beq_iff_eq,SourceR.eqb_iff];refine ⟨fun ⟨⟨⟨⟨⟨⟨⟨⟨⟨h1,h2⟩,h3⟩,h4⟩,h5⟩,h6⟩,h7⟩,h8⟩,h9⟩,h10⟩=>?_,fun h=>by rw [h];exact ⟨⟨⟨⟨⟨⟨⟨⟨⟨rfl,rfl⟩,rfl⟩,rfl⟩,rfl⟩,rfl⟩,rfl⟩,rfl⟩,rfl⟩,rfl⟩⟩;cases a;cases b;simp only at h1 h2 h3 h4 h5 h6 h7 h8 h9 h10;rw [h1,h2,h3,h4,h5,h6,h7,wD h8,h9,h10]
open Go.RowKit
set_option maxRecDepth 4000
structure Mild (c:ClipR):Prop where
 fit:c.fit
 chan:c.chan.length≤65536
 a:aY c.a=true
 b:aY c.b=true
 len : 0≤c.len∧c.len≤2147483647
 off:shK c.kind=true → -2147483648≤c.off∧c.off≤2147483648
def aT9 (p q:ClipR):Bool:=if (p.kind==0&&q.kind==0)=true then true else q.eqb { shiftR p p.len with len:=q.len }
def aLv:List ClipR→Int→List ClipR
 | [],_=>[]
 | [c],n=>[{ c with len:=c.len+n }]
 | c::d::l,n=>c::aLv (d::l) n
def packB (t:List ClipR) (k:Nat):Bool:=decide (0<k)&&aT9 (t.getD (k - 1) default) (t.getD k default)
def aHb (t:List ClipR):Nat→List ClipR
 | 0=>[]
 | k+1=>if packB t k=true then aLv (aHb t k) (t.getD k default).len else aHb t k ++ [t.getD k default]
def packP (t:List ClipR):List ClipR:=aHb t t.length
abbrev rL (l:List ClipR):Blk := .row 103 22 (ClipR.c default) (aL (l.map ClipR.c))
open Go.RowKit
set_option maxRecDepth 4000
theorem aSb {s:SourceR} (h:s.kind≠0):s.isZ=false:=by
 unfold SourceR.isZ;rw [Bool.eq_false_iff,ne_eq,SourceR.eqb_iff];rintro rfl;exact h rfl
open Go.RowKit
set_option maxRecDepth 4000
def packT (t:List ClipR):List ClipR:=if dD t=true then packP t else []
def gapLast (o:List ClipR):Bool:=decide (0<o.length)&&(o.getD (o.length - 1) default).kind==0
def cleanL (o:List ClipR):List ClipR:=if gapLast o=true then o.take (o.length - 1) else o
def normT (t:List ClipR):List ClipR:=cleanL (packT t)
def bA:ByteArray:=⟨#[97]⟩
def awS1:SourceR:=⟨1,⟨#[97]⟩,⟨10,1⟩,⟨1,2⟩,false⟩
def awC1:ClipR:=⟨3,1,awS1,zSource,0,0,0,⟨#[]⟩,0,[]⟩
def awG (n:Int) (k:Int):ClipR:=⟨n,k,zSource,zSource,0,0,0,⟨#[]⟩,0,[]⟩
theorem i0:I64 0:=⟨by decide,by decide⟩
theorem Db:zSource.fit:=⟨⟨by decide,by decide⟩,⟨⟨by decide,by decide⟩,⟨by decide,by decide⟩⟩,⟨⟨by decide,by decide⟩,⟨by decide,by decide⟩⟩⟩
def bH (L:List Int) (k:Nat) (m s:Int):SourceR×Nat :=
 if (aB L k 8==0||m+s==0)=true then (zSource,k+1)
 else if ((aB L k 8==1||m==0)&&decide (s > 0))=true then
  (⟨2,dF ⟨#[115]⟩ (aB L (k+5) s),Py L (k+1) 40,Et L (k+3),aB L (k+4) 5==0⟩,k+6)
 else if 0<m then (⟨1,dF ⟨#[109]⟩ (aB L (k+5) m),Py L (k+1) 40,Et L (k+3),aB L (k+4) 5==0⟩,k+6)
 else (zSource,k+5)
theorem fR (L:List Int) (k:Nat) (m s:Int):(bH L k m s).2≤k+6:=by
 unfold bH;split
 ·simp
 ·split
  ·simp
  ·split<;>simp
theorem qM (L:List Int) (k:Nat) (m s:Int) (hk:k≤900000) (hm : 0≤m∧m≤9) (hs : 0≤s∧s≤9) :
  wH Tryz.prog 99 [.t (bY L),aC k] [aC m,aC s] (wK (bH L k m s).1) [.t (bY L),aC ((bH L k m s).2:Int)]:=by
 refine pH Tryz.X99 Tryz.func99 rfl Tryz.ntmps99 (by rw [Tryz.results99]) (aD _ ?_);simp only [go_sem,simprocAttr];refine aQ (bK L k 8 (by omega) (by omega) (by omega)) rfl rfl rfl ?_;simp only [go_sem,simprocAttr,wrap64 (x:=m+s) (by omega) (by omega)];have n8:=aF (L:=L) (k:=k) (n:=8) (by omega);refine ⟨fun h0=>?_,fun h0=>?_⟩
 ·unfold awS;simp only [go_sem,simprocAttr];have e:bH L k m s=(zSource,k+1):=by unfold bH;rw [if_pos h0]
  rw [e];exact ⟨rfl,rfl⟩
 ·have h0' : ¬ (aB L k 8==0||m+s==0)=true:=by rw [h0];simp
  unfold awS;simp only [go_sem,simprocAttr];refine aQ (cRatT L (k+1) 40 (by omega) (by omega) (by omega)) rfl rfl rfl ?_;simp only [go_sem,simprocAttr];refine aQ (cSpeed L (k+1+2) (by omega)) rfl rfl rfl ?_;simp only [go_sem,simprocAttr];refine aQ (bK L (k+1+2+1) 5 (by omega) (by omega) (by omega)) rfl rfl rfl ?_;simp only [go_sem,simprocAttr];refine ⟨fun h1=>?_,fun h1=>?_⟩
  ·have hs0 : 0<s:=by simp only [Bool.and_eq_true,decide_eq_true_eq] at h1;exact h1.2
   unfold awS;simp only [go_sem,simprocAttr];refine aQ (bK L (k+1+2+1+1) s (by omega) (by omega) (by omega)) rfl rfl rfl ?_;have ns:=aF (L:=L) (k:=k+1+2+1+1) (n:=s) (by omega);simp only [go_sem,simprocAttr];refine ⟨_,Tq ⟨#[115]⟩ (aB L (k+1+2+1+1) s) ns.1 (by omega) (by decide),?_⟩;simp only [go_sem,simprocAttr];unfold bH;rw [if_neg h0',if_pos h1];exact ⟨rfl,rfl⟩
  ·have h1' : ¬ ((aB L k 8==1||m==0)&&decide (s > 0))=true:=by rw [h1];simp
   unfold awS;simp only [go_sem,simprocAttr];refine ⟨fun h2=>?_,fun h2=>?_⟩
   ·have hm0 : 0<m:=by simpa using h2
    unfold awS;simp only [go_sem,simprocAttr];refine aQ (bK L (k+1+2+1+1) m (by omega) (by omega) (by omega)) rfl rfl rfl ?_;have ns:=aF (L:=L) (k:=k+1+2+1+1) (n:=m) (by omega);simp only [go_sem,simprocAttr];refine ⟨_,Tq ⟨#[109]⟩ (aB L (k+1+2+1+1) m) ns.1 (by omega) (by decide),?_⟩;simp only [go_sem,simprocAttr];unfold bH;rw [if_neg h0',if_neg h1',if_pos hm0];exact ⟨rfl,rfl⟩
   ·have hm0 : ¬ 0<m:=by simpa using h2
    unfold awS;simp only [go_sem,simprocAttr];unfold bH;rw [if_neg h0',if_neg h1',if_neg hm0];exact ⟨rfl,rfl⟩
def kinds:List Int:=[1,1,1,0,2,3,4,5]
def texts:List ByteArray:=[⟨#[65]⟩,⟨#[82,69,69,76,32,55]⟩,⟨#[116,104,101,32,101,110,100,46]⟩,⟨#[49,50,58,51,48]⟩]
def cB (L:List Int) (k:Nat) (m s:Int):ClipR×Nat :=
 let len:=1+aB L k 9
 let kind:=kinds.getD (aB L (k+1) 8).toNat 0
 if kind=0 then (⟨len,0,zSource,zSource,0,0,0,⟨#[]⟩,0,[]⟩,k+2)
 else
  let a:=bH L (k+2) m s
  if kind=2∨kind=3 then
   let b:=bH L a.2 m s
   let off:=aB L b.2 3
   let total:=off+len+aB L (b.2+1) 3
   if kind=3 then (⟨len,kind,a.1,b.1,off,total,aB L (b.2+2) 4,⟨#[]⟩,0,[]⟩,b.2+3)
   else (⟨len,kind,a.1,b.1,off,total,0,⟨#[]⟩,0,[]⟩,b.2+2)
  else if kind=4 then
   let b:=bH L a.2 m s
   (⟨len,kind,a.1,b.1,0,0,aB L b.2 256,⟨#[]⟩,0,[]⟩,b.2+1)
  else if kind=5 then (⟨len,kind,a.1,zSource,0,0,0,texts.getD (aB L a.2 4).toNat ⟨#[]⟩,0,[]⟩,a.2+1)
  else (⟨len,kind,a.1,zSource,0,0,0,⟨#[]⟩,0,[]⟩,a.2)
abbrev aG8 (c:ClipR):V := .agg [aC c.len,aC c.kind,aC c.a.kind,bT c.a.name,aC c.a.pos.num,aC c.a.pos.den,aC c.a.speed.num,aC c.a.speed.den,aT c.a.smooth,
 aC c.b.kind,bT c.b.name,aC c.b.pos.num,aC c.b.pos.den,aC c.b.speed.num,aC c.b.speed.den,aT c.b.smooth,aC c.off,aC c.total,aC c.param,bT c.text,aC c.gain, .t (.lit (.slice none 0 0))]
theorem cClipZ (L:List Int) (k:Nat) (m s:Int) (hk:k≤800000) (hm : 0≤m∧m≤9) (hs : 0≤s∧s≤9) :
  wH Tryz.prog 38 [.t (bY L),aC k] [aC m,aC s] (aG8 (cB L k m s).1) [.t (bY L),aC ((cB L k m s).2:Int)]:=by
 refine pH Tryz.X38 Tryz.func38 rfl Tryz.ntmps38 (by rw [Tryz.results38]) (aD _ ?_);simp only [go_sem,simprocAttr];refine aQ (bK L k 9 (by omega) (by omega) (by omega)) rfl rfl rfl ?_;have n9:=aF (L:=L) (k:=k) (n:=9) (by omega);simp only [go_sem,simprocAttr,wrap64 (x:=1+aB L k 9) (by omega) (by omega)];refine aQ (bK L (k+1) 8 (by omega) (by omega) (by omega)) rfl rfl rfl ?_;have n8:=aF (L:=L) (k:=k+1) (n:=8) (by omega);simp only [go_sem,simprocAttr];refine ⟨⟨by omega,by omega⟩,by omega,?_⟩;obtain ⟨kd,hkd⟩:∃ kd,kinds.getD (aB L (k+1) 8).toNat 0=kd:=⟨_,rfl⟩
 have hkd':=hkd;unfold kinds at hkd';rw [hkd'];have hl0 : 1≤1+aB L k 9∧1+aB L k 9≤9:=by omega
 generalize hlen : 1+aB L k 9=len at hl0;refine ⟨fun h0=>?_,fun h0=>?_⟩
 ·have e0:kd=0:=by simpa using h0
  have e:cB L k m s=(⟨len,0,zSource,zSource,0,0,0,⟨#[]⟩,0,[]⟩,k+2):=by unfold cB;simp only [hkd,hlen,e0,if_true]
  rw [e];unfold awS;simp only [go_sem,simprocAttr];rw [e0];try exact ⟨rfl,rfl⟩
 ·have e0 : ¬ kd=0:=by simpa using h0
  unfold awS;simp only [go_sem,simprocAttr];refine aQ (qM L (k+2) m s (by omega) hm hs) rfl rfl rfl ?_;obtain ⟨⟨a,ka⟩,ha⟩:∃ a,bH L (k+2) m s=a:=⟨_,rfl⟩
  have hka:=fR L (k+2) m s;rw [ha] at hka ⊢;simp only at hka;have hk5:kd=1∨kd=2∨kd=3∨kd=4∨kd=5:=by
   have:(aB L (k+1) 8).toNat=0∨(aB L (k+1) 8).toNat=1∨(aB L (k+1) 8).toNat=2∨(aB L (k+1) 8).toNat=3∨(aB L (k+1) 8).toNat=4∨(aB L (k+1) 8).toNat=5∨(aB L (k+1) 8).toNat=6∨(aB L (k+1) 8).toNat=7:=by omega
   rcases this with h | h | h | h | h | h | h | h<;>rw [h] at hkd'<;>simp at hkd'<;>omega
  clear hkd';rcases hk5 with rfl | rfl | rfl | rfl | rfl
  ·have e:cB L k m s=(⟨len,1,a,zSource,0,0,0,⟨#[]⟩,0,[]⟩,ka):=by unfold cB;simp only [hkd,hlen,ha];first | rfl | simp
   rw [e];simp only [go_sem,simprocAttr]
  ·have e:cB L k m s=(let b:=bH L ka m s; (⟨len,2,a,b.1,aB L b.2 3,aB L b.2 3+len+aB L (b.2+1) 3,0,⟨#[]⟩,0,[]⟩,b.2+2)):=by unfold cB;simp only [hkd,hlen,ha];first | rfl | simp
   rw [e];simp only [go_sem,simprocAttr];refine aQ (qM L ka m s (by omega) hm hs) rfl rfl rfl ?_;obtain ⟨⟨b,kb⟩,hb⟩:∃ b,bH L ka m s=b:=⟨_,rfl⟩
   have hkb:=fR L ka m s;rw [hb] at hkb ⊢;simp only at hkb;simp only [go_sem,simprocAttr];refine aQ (bK L kb 3 (by omega) (by omega) (by omega)) rfl rfl rfl ?_;have o3:=aF (L:=L) (k:=kb) (n:=3) (by omega);simp only [go_sem,simprocAttr];refine aR 10 .done rfl (by kernel_rfl) (by kernel_rfl) (by decide) ?_;simp only [go_sem,simprocAttr];refine gE (bK L (kb+1) 3 (by omega) (by omega) (by omega)) rfl rfl rfl ?_;have p3:=aF (L:=L) (k:=kb+1) (n:=3) (by omega);simp only [go_sem,simprocAttr,wrap64 (x:=aB L kb 3+len) (by omega) (by omega),wrap64 (x:=aB L kb 3+len+aB L (kb+1) 3) (by omega) (by omega)]
   first | (refine id ?_;kernel_rfl) | (change _=_;kernel_rfl) | rfl
  ·have e:cB L k m s=(let b:=bH L ka m s; (⟨len,3,a,b.1,aB L b.2 3,aB L b.2 3+len+aB L (b.2+1) 3,aB L (b.2+2) 4,⟨#[]⟩,0,[]⟩,b.2+3)):=by unfold cB;simp only [hkd,hlen,ha];first | rfl | simp
   rw [e];simp only [go_sem,simprocAttr];refine aQ (qM L ka m s (by omega) hm hs) rfl rfl rfl ?_;obtain ⟨⟨b,kb⟩,hb⟩:∃ b,bH L ka m s=b:=⟨_,rfl⟩
   have hkb:=fR L ka m s;rw [hb] at hkb ⊢;simp only at hkb;simp only [go_sem,simprocAttr];refine aQ (bK L kb 3 (by omega) (by omega) (by omega)) rfl rfl rfl ?_;have o3:=aF (L:=L) (k:=kb) (n:=3) (by omega);simp only [go_sem,simprocAttr];refine aR 10 .done rfl (by kernel_rfl) (by kernel_rfl) (by decide) ?_;simp only [go_sem,simprocAttr];refine gE (bK L (kb+1) 3 (by omega) (by omega) (by omega)) rfl rfl rfl ?_;have p3:=aF (L:=L) (k:=kb+1) (n:=3) (by omega);simp only [go_sem,simprocAttr,wrap64 (x:=aB L kb 3+len) (by omega) (by omega),wrap64 (x:=aB L kb 3+len+aB L (kb+1) 3) (by omega) (by omega)];refine ⟨by kernel_rfl,?_⟩;refine aQ (bK L (kb+1+1) 4 (by omega) (by omega) (by omega)) rfl rfl rfl ?_;simp only [go_sem,simprocAttr]
  ·have e:cB L k m s=(let b:=bH L ka m s; (⟨len,4,a,b.1,0,0,aB L b.2 256,⟨#[]⟩,0,[]⟩,b.2+1)):=by unfold cB;simp only [hkd,hlen,ha];first | rfl | simp
   rw [e];simp only [go_sem,simprocAttr];refine aQ (qM L ka m s (by omega) hm hs) rfl rfl rfl ?_;obtain ⟨⟨b,kb⟩,hb⟩:∃ b,bH L ka m s=b:=⟨_,rfl⟩
   have hkb:=fR L ka m s;rw [hb] at hkb ⊢;simp only at hkb;simp only [go_sem,simprocAttr];refine aQ (bK L kb 256 (by omega) (by omega) (by omega)) rfl rfl rfl ?_;simp only [go_sem,simprocAttr]
  ·have e:cB L k m s=(⟨len,5,a,zSource,0,0,0,texts.getD (aB L ka 4).toNat ⟨#[]⟩,0,[]⟩,ka+1):=by unfold cB;simp only [hkd,hlen,ha];first | rfl | simp
   rw [e];simp only [go_sem,simprocAttr];refine aQ (bK L ka 4 (by omega) (by omega) (by omega)) rfl rfl rfl ?_;have t4:=aF (L:=L) (k:=ka) (n:=4) (by omega);simp only [go_sem,simprocAttr];exact ⟨⟨by omega,by omega⟩,by omega,rfl⟩
theorem Lm (L:List Int) (k:Nat) (m s:Int):(cB L k m s).1.chan = []:=by
 unfold cB;simp only;split
 ·rfl
 ·split
  ·split<;>rfl
  ·split
   ·rfl
   ·split<;>rfl
theorem Yn (L:List Int) (k:Nat) (m s:Int):(cB L k m s).2≤k+17:=by
 have h1:=fR L (k+2) m s;have h2:=fR L (bH L (k+2) m s).2 m s;unfold cB;simp only;split
 ·simp
 ·split
  ·split<;>simp only<;>omega
  ·split
   ·simp only;omega
   ·split<;>simp only<;>omega
theorem aFx {c:ClipR} (h:c.chan = []):∀ (w:World) (E:Env) v,RdV w E (aG8 c) v→RdV w E (pN c) v:=by
 refine as_agg ?_;refine ⟨.inl rfl, .inl rfl, .inl rfl, .inl rfl, .inl rfl, .inl rfl, .inl rfl, .inl rfl, .inl rfl, .inl rfl, .inl rfl, .inl rfl, .inl rfl, .inl rfl, .inl rfl, .inl rfl, .inl rfl, .inl rfl, .inl rfl, .inl rfl, .inl rfl, .inr ⟨rfl,1,Cj 0,?_⟩,trivial⟩;rw [h];rfl
theorem cClip (L:List Int) (k:Nat) (m s:Int) (hk:k≤800000) (hm : 0≤m∧m≤9) (hs : 0≤s∧s≤9) :
  wH Tryz.prog 38 [.t (bY L),aC k] [aC m,aC s] (pN (cB L k m s).1) [.t (bY L),aC ((cB L k m s).2:Int)] :=
 Mu (aFx (Lm L k m s)) (cClipZ L k m s hk hm hs)
open Go.RowKit
set_option maxRecDepth 4000
def Ws (r q:RatR):Bool:=jH r&&jH q&&jD r 1099511627776&&jD q 1024&&decide (Nat.lcm r.den.natAbs q.den.natAbs≤65536)&&decide (r.num.natAbs≤100000)&&decide (r.den.natAbs≤100000)&&decide (q.num.natAbs≤100000)&&decide (q.den.natAbs≤100000)
theorem rat_ok:((List.range 40).all fun p=>(List.range 6).all fun j=>(List.range 9).all fun i=>Ws (ratR (p:Int) (dens.getD j 0)) ⟨(speeds.getD i (0,0)).1,(speeds.getD i (0,0)).2⟩)=true:=by kernel_rfl
theorem name_ok:((List.range 9).all fun i=>bB (dF ⟨#[115]⟩ (i:Int))&&bB (dF ⟨#[109]⟩ (i:Int)))=true:=by kernel_rfl
theorem En (L:List Int) (k k':Nat):Ws (Py L k 40) (Et L k')=true:=by
 have h1:=aF (L:=L) (k:=k) (n:=40) (by omega);have h2:=aF (L:=L) (k:=k+1) (n:=6) (by omega);have h3:=aF (L:=L) (k:=k') (n:=9) (by omega);have h:=rat_ok;rw [List.all_eq_true] at h;have h4:=h (aB L k 40).toNat (by simp;omega);rw [List.all_eq_true] at h4;have h5:=h4 (aB L (k+1) 6).toNat (by simp;omega);rw [List.all_eq_true] at h5;have h6:=h5 (aB L k' 9).toNat (by simp;omega);unfold Py Et;rwa [Int.toNat_of_nonneg h1.1] at h6
theorem Ar (i:Int) (h0 : 0≤i) (h1:i<9):bB (dF ⟨#[115]⟩ i)=true∧bB (dF ⟨#[109]⟩ i)=true:=by
 have h:=name_ok;rw [List.all_eq_true] at h;have h4:=h i.toNat (by simp;omega);rw [Int.toNat_of_nonneg h0,Bool.and_eq_true] at h4;exact h4
theorem aQa {kd:Int} {nm:ByteArray} {r q:RatR} {sm:Bool} (hk:kd=1∨kd=2) (hn:bB nm=true) (h:Ws r q=true):aY ⟨kd,nm,r,q,sm⟩=true∧(⟨kd,nm,r,q,sm⟩:SourceR).fit:=by
 unfold Ws at h;simp only [Bool.and_eq_true,decide_eq_true_eq] at h;obtain ⟨⟨⟨⟨⟨⟨⟨⟨h1,h2⟩,h3⟩,h4⟩,h5⟩,h6⟩,h7⟩,h8⟩,h9⟩:=h;refine ⟨?_,?_,⟨⟨?_,?_⟩,⟨?_,?_⟩⟩,⟨⟨?_,?_⟩,⟨?_,?_⟩⟩⟩
 ·unfold aY Md;simp only [h1,h2,h3,h4,hn,decide_eq_true h5,Bool.and_true];rcases hk with rfl | rfl<;>simp
 ·simp only;rcases hk with rfl | rfl<;>exact ⟨by decide,by decide⟩
 all_goals simp only;omega
theorem Yz:zSource.isZ=true:=by kernel_rfl
theorem aBf:aY zSource=true:=by unfold aY;rw [Yz];rfl
theorem fQ (L:List Int) (k:Nat) (m s:Int) (hm:m≤9) (hs:s≤9):aY (bH L k m s).1=true∧(bH L k m s).1.fit:=by
 unfold bH;split
 ·exact ⟨aBf,Db⟩
 ·split
  ·rename_i h1;simp only [Bool.and_eq_true,decide_eq_true_eq] at h1;have:=aF (L:=L) (k:=k+5) (n:=s) (by omega);exact aQa (.inr rfl) (Ar _ this.1 (by omega)).1 (En L _ _)
  ·split
   ·rename_i h1;have:=aF (L:=L) (k:=k+5) (n:=m) (by omega);exact aQa (.inl rfl) (Ar _ this.1 (by omega)).2 (En L _ _)
   ·exact ⟨aBf,Db⟩
theorem text_ok:((List.range 4).all fun i=>jM (texts.getD i ⟨#[]⟩))=true:=by kernel_rfl
theorem bQ {n:Int} (h0 : -1000000≤n) (h1:n≤1000000):I64 n:=⟨by omega,by omega⟩
theorem Ym (L:List Int) (k:Nat) (m s:Int) (hm:m≤9) (hs:s≤9):cP (cB L k m s).1=true∧(cB L k m s).1.fit:=by
 have n9:=aF (L:=L) (k:=k) (n:=9) (by omega);have n8:=aF (L:=L) (k:=k+1) (n:=8) (by omega);obtain ⟨kd,hkd⟩:∃ kd,kinds.getD (aB L (k+1) 8).toNat 0=kd:=⟨_,rfl⟩
 have hk5:kd=0∨kd=1∨kd=2∨kd=3∨kd=4∨kd=5:=by
  have:(aB L (k+1) 8).toNat=0∨(aB L (k+1) 8).toNat=1∨(aB L (k+1) 8).toNat=2∨(aB L (k+1) 8).toNat=3∨(aB L (k+1) 8).toNat=4∨(aB L (k+1) 8).toNat=5∨(aB L (k+1) 8).toNat=6∨(aB L (k+1) 8).toNat=7:=by omega
  unfold kinds at hkd;rcases this with h | h | h | h | h | h | h | h<;>rw [h] at hkd<;>simp at hkd<;>omega
 obtain ⟨len,hlen⟩:∃ len,1+aB L k 9=len:=⟨_,rfl⟩
 have hl : 1≤len∧len≤9:=by omega
 obtain ⟨va,fa⟩:=fQ L (k+2) m s hm hs;obtain ⟨vb,fb⟩:=fQ L (bH L (k+2) m s).2 m s hm hs;generalize ha:bH L (k+2) m s=a at va fa vb fb;generalize hb:bH L a.2 m s=b at vb fb;have o3:=aF (L:=L) (k:=b.2) (n:=3) (by omega);have p3:=aF (L:=L) (k:=b.2+1) (n:=3) (by omega);have q4:=aF (L:=L) (k:=b.2+2) (n:=4) (by omega);have q256:=aF (L:=L) (k:=b.2) (n:=256) (by omega);have t4:=aF (L:=L) (k:=a.2) (n:=4) (by omega);have ht:=text_ok;rw [List.all_eq_true] at ht;have ht4:=ht (aB L a.2 4).toNat (by simp;omega);have zz:aY zSource=true:=aBf;have ez:zSource.isZ=true:=Yz;have base:∀ (kk:Int) (x y:SourceR) (o t p:Int) (tx:ByteArray),aY x=true→aY y=true→pK ⟨len,kk,x,y,o,t,p,tx,0,[]⟩=true:=fun kk x y o t p tx hx hy=>by
  unfold pK;simp only [hx,hy,decide_eq_true hl.1,decide_eq_true (by omega:len≤2147483647),Bool.and_true];rfl
 have fit:∀ (kk:Int) (x y:SourceR) (o t p:Int) (tx:ByteArray),x.fit→y.fit → -1000000≤kk→kk≤1000000 → -1000000≤o→o≤1000000 → -1000000≤t→t≤1000000 → -1000000≤p→p≤1000000→(⟨len,kk,x,y,o,t,p,tx,0,[]⟩:ClipR).fit:=fun kk x y o t p tx hx hy h1 h2 h3 h4 h5 h6 h7 h8 =>
  ⟨bQ (by simp only;omega) (by simp only;omega),bQ h1 h2,hx,hy,bQ h3 h4,bQ h5 h6,bQ h7 h8,i0⟩
 unfold cB;simp only [hkd,hlen,ha,hb];rcases hk5 with rfl | rfl | rfl | rfl | rfl | rfl
 ·refine ⟨?_,fit _ _ _ _ _ _ _ Db Db (by omega) (by omega) (by omega) (by omega) (by omega) (by omega) (by omega) (by omega)⟩;show cP ⟨len,0,zSource,zSource,0,0,0,⟨#[]⟩,0,[]⟩=true
  unfold cP;rw [base _ _ _ _ _ _ _ zz zz];simp [cN,dG,emp,ez]
 ·refine ⟨?_,fit _ _ _ _ _ _ _ fa Db (by omega) (by omega) (by omega) (by omega) (by omega) (by omega) (by omega) (by omega)⟩;show cP ⟨len,1,a.1,zSource,0,0,0,⟨#[]⟩,0,[]⟩=true
  unfold cP;rw [base _ _ _ _ _ _ _ va zz];simp [cN,dG,emp,ez]
 ·refine ⟨?_,fit _ _ _ _ _ _ _ fa fb (by omega) (by omega) (by omega) (by omega) (by omega) (by omega) (by omega) (by omega)⟩;show cP ⟨len,2,a.1,b.1,_,_,0,⟨#[]⟩,0,[]⟩=true
  unfold cP;rw [base _ _ _ _ _ _ _ va vb];simp [cN,gT,emp];omega
 ·refine ⟨?_,fit _ _ _ _ _ _ _ fa fb (by omega) (by omega) (by omega) (by omega) (by omega) (by omega) (by omega) (by omega)⟩;show cP ⟨len,3,a.1,b.1,_,_,_,⟨#[]⟩,0,[]⟩=true
  unfold cP;rw [base _ _ _ _ _ _ _ va vb];simp [cN,gT,emp];omega
 ·refine ⟨?_,fit _ _ _ _ _ _ _ fa fb (by omega) (by omega) (by omega) (by omega) (by omega) (by omega) (by omega) (by omega)⟩;show cP ⟨len,4,a.1,b.1,0,0,_,⟨#[]⟩,0,[]⟩=true
  unfold cP;rw [base _ _ _ _ _ _ _ va vb];simp [cN,dG,emp];omega
 ·refine ⟨?_,fit _ _ _ _ _ _ _ fa Db (by omega) (by omega) (by omega) (by omega) (by omega) (by omega) (by omega) (by omega)⟩;show cP ⟨len,5,a.1,zSource,0,0,0,_,0,[]⟩=true
  unfold cP;rw [base _ _ _ _ _ _ _ va zz];simp only [cN,ez,ht4];rfl
theorem kindOk_cases {c:ClipR} (h:cN c=true):c.kind=0∨c.kind=1∨c.kind=2∨c.kind=3∨c.kind=4∨c.kind=5:=by have:=Ga h;omega
theorem aE7 {c d:ClipR} (h:cN c=true) (hk:d.kind=c.kind) (ha:c.a.isZ=true→d.a.isZ=true) (hb:c.b.isZ=true→d.b.isZ=true) (hp:d.param=c.param) (ht:d.text=c.text) (hg:d.gain=c.gain) (hc:d.chan=c.chan)
  (hn:shK c.kind=false→dG c=true→dG d=true) (hs:shK c.kind=true→gT c=true→gT d=true):cN d=true:=by
 rcases kindOk_cases h with e | e | e | e | e | e
 ·rw [Rk e] at h;rw [Rk (hk.trans e),hp,ht,hg,hc];rw [e] at hn hs;simp only [Bool.and_eq_true] at h ⊢;obtain ⟨⟨⟨⟨⟨⟨x1,x2⟩,x3⟩,x4⟩,x5⟩,x6⟩,x7⟩:=h;exact ⟨⟨⟨⟨⟨⟨ha x1,hb x2⟩,hn rfl x3⟩,x4⟩,x5⟩,x6⟩,x7⟩
 ·rw [Xu e] at h;rw [Xu (hk.trans e),hp,ht];rw [e] at hn hs;simp only [Bool.and_eq_true] at h ⊢;obtain ⟨⟨⟨x2,x3⟩,x4⟩,x5⟩:=h;exact ⟨⟨⟨hb x2,hn rfl x3⟩,x4⟩,x5⟩
 ·rw [aEa e] at h;rw [aEa (hk.trans e),hp,ht];rw [e] at hn hs;simp only [Bool.and_eq_true] at h ⊢;obtain ⟨⟨x3,x4⟩,x5⟩:=h;exact ⟨⟨hs rfl x3,x4⟩,x5⟩
 ·rw [aE9 e] at h;rw [aE9 (hk.trans e),hp,ht];rw [e] at hn hs;simp only [Bool.and_eq_true] at h ⊢;obtain ⟨⟨⟨x3,x4⟩,x5⟩,x6⟩:=h;exact ⟨⟨⟨hs rfl x3,x4⟩,x5⟩,x6⟩
 ·rw [aE8 e] at h;rw [aE8 (hk.trans e),hp,ht];rw [e] at hn hs;simp only [Bool.and_eq_true] at h ⊢;obtain ⟨⟨⟨x3,x4⟩,x5⟩,x6⟩:=h;exact ⟨⟨⟨hn rfl x3,x4⟩,x5⟩,x6⟩
 ·rw [Xt e] at h;rw [Xt (hk.trans e),hp,ht];rw [e] at hn hs;simp only [Bool.and_eq_true] at h ⊢;obtain ⟨⟨⟨x2,x3⟩,x4⟩,x5⟩:=h;exact ⟨⟨⟨hb x2,hn rfl x3⟩,x4⟩,x5⟩
theorem aPz {d:ClipR} (h1 : 1≤d.len) (h2:d.len≤2147483647) (h3 : 0≤d.gain) (h4:d.gain≤65536) (h5:fF d.chan=true) (h6:aY d.a=true) (h7:aY d.b=true) (h8:cN d=true):cP d=true:=by
 unfold cP pK;rw [h5,h6,h7,h8,decide_eq_true h1,decide_eq_true h2,decide_eq_true h3,decide_eq_true h4];rfl
theorem aDq {c d:ClipR} (h1:d.off=c.off) (h2:d.total=c.total) (h:dG c=true):dG d=true:=by unfold dG at h ⊢; rw [h1,h2];exact h
def aGs (s:SourceR):Prop:=s.isZ=true∨(s.pos.num.natAbs≤1000000∧s.speed.num.natAbs≤1000000)
open Go.RowKit
set_option maxRecDepth 4000
def pkA (c:ClipR):List ClipR→List ClipR
 | []=>[c]
 | q::l=>if aT9 c q=true then pkA { c with len:=c.len+q.len } l else c::pkA q l
def pk:List ClipR→List ClipR
 | []=>[]
 | c::l=>pkA c l
def Src2 (c:ClipR):Prop:=aY c.a=true∧aY c.b=true
def NoC:List ClipR→Prop
 | []=>True
 | [_]=>True
 | c::d::l=>aT9 c d=false∧NoC (d::l)
section
variable {t:List ClipR} (hv:dD t=true) (hfit:∀ c∈t,c.fit)
include hv hfit
end
section
variable {t:List ClipR} (hv:dD t=true) (hfit:∀ c∈t,c.fit)
include hv hfit
end
open Go.RowKit
set_option maxRecDepth 4000
def Ty (s:SourceR):Prop:=s.pos.num.natAbs≤100000∧s.pos.den.natAbs≤100000∧s.speed.num.natAbs≤100000
theorem Eu:Ty zSource:=⟨by decide,by decide,by decide⟩
theorem Kp {r q:RatR} (h:Ws r q=true) {kd:Int} {nm:ByteArray} {sm:Bool}:Ty ⟨kd,nm,r,q,sm⟩:=by
 unfold Ws at h;simp only [Bool.and_eq_true,decide_eq_true_eq] at h;exact ⟨h.1.1.1.2,h.1.1.2,h.1.2⟩
theorem Ke (L:List Int) (k:Nat) (m s:Int):Ty (bH L k m s).1:=by
 unfold bH;split
 ·exact Eu
 ·split
  ·exact Kp (En L _ _)
  ·split
   ·exact Kp (En L _ _)
   ·exact Eu
theorem xT (L:List Int) (k:Nat) (m s:Int):Ty (cB L k m s).1.a∧Ty (cB L k m s).1.b∧1≤(cB L k m s).1.len∧(cB L k m s).1.len≤9:=by
 have n9:=aF (L:=L) (k:=k) (n:=9) (by omega);have hl : 1≤1+aB L k 9∧1+aB L k 9≤9:=by omega
 have h1:=Ke L (k+2) m s;have h2:=Ke L (bH L (k+2) m s).2 m s;unfold cB;simp only;split
 ·exact ⟨Eu,Eu,hl⟩
 ·split
  ·split<;>exact ⟨h1,h2,hl⟩
  ·split
   ·exact ⟨h1,h2,hl⟩
   ·split<;>exact ⟨h1,Eu,hl⟩
def one1:RatR:=⟨1,1⟩
def Hk (c:ClipR):Bool:=(c.kind != 2)&&(c.kind != 3)&&c.a.speed.eqb one1&&c.b.isZ
def fY (c:ClipR) (n:Int):ClipR := { c with len:=n,a := { c.a with pos := { c.a.pos with num:=c.a.pos.num+c.len*c.a.pos.den } } }
def fB (L:List Int) (k:Nat) (m s:Int):List ClipR×Nat :=
 if aB L (cB L k m s).2 4=0 then
  (if Hk (cB L k m s).1=true then [(cB L k m s).1,fY (cB L k m s).1 (1+aB L ((cB L k m s).2+1) 4)] else [(cB L k m s).1],(cB L k m s).2+2)
 else ([(cB L k m s).1],(cB L k m s).2+1)
def pP (L:List Int) (m s:Int):Nat→Nat→List ClipR×Nat
 | 0,k=>([],k)
 | n+1,k=>((fB L k m s).1++(pP L m s n (fB L k m s).2).1,(pP L m s n (fB L k m s).2).2)
def qP (L:List Int) (k:Nat) (m s most:Int):List ClipR×Nat:=pP L m s (aB L k (most+1)).toNat (k+1)
def trackT (L:List Int):List ClipR:=(qP L 0 3 2 9).1
structure Nice (c:ClipR):Prop where
 ok:cP c=true
 fit:c.fit
 sa:aGs c.a
 sb:aGs c.b
 l9:c.len≤9
 chan:c.chan = []
theorem aK0 {s:SourceR} (h:Ty s):aGs s := .inr ⟨by have:=h.1;omega,by have:=h.2.2;omega⟩
theorem aFb (L:List Int) (k:Nat) (m s:Int) (hm:m≤9) (hs:s≤9):Nice (cB L k m s).1:=by
 obtain ⟨h1,h2⟩:=Ym L k m s hm hs;obtain ⟨h3,h4,h5,h6⟩:=xT L k m s;exact ⟨h1,h2,aK0 h3,aK0 h4,h6,Lm L k m s⟩
theorem aGm {c:ClipR} (h:Hk c=true):c.kind≠2∧c.kind≠3∧c.a.speed=one1∧c.b.isZ=true:=by
 unfold Hk at h;simp only [Bool.and_eq_true,bne_iff_ne,ne_eq] at h;obtain ⟨⟨⟨h1,h2⟩,h3⟩,h4⟩:=h;refine ⟨h1,h2,?_,h4⟩;unfold RatR.eqb at h3;simp only [Bool.and_eq_true,beq_iff_eq] at h3;cases hsp:c.a.speed with
 | mk n d =>
  rw [hsp] at h3;obtain ⟨h5,h6⟩:=h3;simp only [one1] at h5 h6;rw [h5,h6];rfl
theorem aGk {c:ClipR} (h:Nice c) (hs:Ty c.a) (hb:Hk c=true) {n:Int} (n0 : 1≤n) (n1:n≤4):Nice (fY c n):=by
 obtain ⟨k2,k3,hsp,hbz⟩:=aGm hb;obtain ⟨v1,v2,v3,v4,v5,v6,v7,v8⟩:=qN h.ok;have hz:c.a.isZ=false:=by
  rw [Bool.eq_false_iff];intro hz;have e:=SourceR.eqb_iff.1 hz;rw [e] at hsp;cases hsp
 obtain ⟨p,d,ok⟩:=aQb v6 hz;obtain ⟨q1,q2,q3⟩:=hs;have hl9:=h.l9;have hp:=ok.hp;have p1:=ok.p1;have hpd:c.a.pos.den.natAbs=p:=by rw [hp,Int.natAbs_natCast]
 rw [hpd] at q2;have hb1 : 0≤c.len*c.a.pos.den∧c.len*c.a.pos.den≤900000:=by
  rw [hp];have:c.len*(p:Int)≤9*100000:=Int.mul_le_mul (by omega) (by omega) (by omega) (by omega);exact ⟨Int.mul_nonneg (by omega) (by omega),by omega⟩
 have hk:c.a.kind≠0:=by rcases ok.kind with h | h<;>omega
 have hz2:(fY c n).a.isZ=false:=aSb hk;have hg:Nat.gcd (c.a.pos.num+c.len*c.a.pos.den).natAbs c.a.pos.den.natAbs=1:=by
  have h1:=ok.pos;unfold jH at h1;simp only [Bool.and_eq_true,decide_eq_true_eq] at h1;have h2:Int.gcd (c.a.pos.num+c.len*c.a.pos.den) c.a.pos.den=Int.gcd c.a.pos.num c.a.pos.den:=Int.gcd_add_mul_right_left _ _ _;exact h2.trans h1.2
 have hva:aY (fY c n).a=true:=by
  unfold aY;rw [hz2];have e1:jH (fY c n).a.pos=true:=by
   unfold jH;have f1 : 1≤(fY c n).a.pos.den:=by show 1≤c.a.pos.den;omega
   have f2 : -9223372036854775808<(fY c n).a.pos.num:=by show _<c.a.pos.num+c.len*c.a.pos.den;omega
   rw [decide_eq_true f1,decide_eq_true f2];exact decide_eq_true hg
  have e2:jD (fY c n).a.pos 1099511627776=true:=by
   unfold jD;refine decide_eq_true ?_;show ((c.a.pos.num+c.len*c.a.pos.den).natAbs:Int)≤1099511627776*c.a.pos.den
   omega
  have e3:decide (Md (fY c n).a≤65536)=true:=by
   have:Md (fY c n).a=Nat.lcm p d:=by unfold Md fY;simp only;rw [hpd,ok.hd,Int.natAbs_natCast]
   rw [this];exact decide_eq_true ok.lcm
  have e4:jH (fY c n).a.speed=true:=ok.speed;have e5:jD (fY c n).a.speed 1024=true:=ok.wspeed;have e6:bB (fY c n).a.name=true:=ok.name;rw [e1,e2,e3,e4,e5,e6];have e7:(fY c n).a.kind=1∨(fY c n).a.kind=2:=ok.kind;rcases e7 with h | h<;>simp [h]
 have hok:cP (fY c n)=true:=by
  refine aPz n0 (by show n≤_;omega) v3 v4 v5 hva v7 ?_;refine aE7 v8 rfl (fun h=>?_) (fun h=>h) rfl rfl rfl rfl (fun hs hn=>aDq (c:=c) rfl rfl hn) (fun hs hn=>?_)
  ·rw [hz] at h;cases h
  ·unfold shK at hs;have:c.kind=2∨c.kind=3:=by simpa using hs
   omega
 refine ⟨hok,⟨⟨by show _≤n;omega,by show n≤_;omega⟩,h.fit.kind,⟨h.fit.a.kind,⟨⟨?_,?_⟩,h.fit.a.pos.den⟩,h.fit.a.speed⟩,h.fit.b,h.fit.off,h.fit.total,h.fit.param,h.fit.gain⟩, .inr ⟨?_,?_⟩,h.sb,by show n≤9;omega,h.chan⟩
 ·show _≤c.a.pos.num+c.len*c.a.pos.den;omega
 ·show c.a.pos.num+c.len*c.a.pos.den≤_;omega
 ·show (c.a.pos.num+c.len*c.a.pos.den).natAbs≤_;omega
 ·show c.a.speed.num.natAbs≤_;omega
theorem uJ (L:List Int) (k:Nat) (m s:Int) (hm:m≤9) (hs:s≤9):(∀ c∈(fB L k m s).1,Nice c)∧(fB L k m s).1.length≤2∧(fB L k m s).2≤k+19∧1≤(fB L k m s).1.length:=by
 have h1:=aFb L k m s hm hs;have h2:=(xT L k m s).1;have h3:=Yn L k m s;have h4:=aF (L:=L) (k:=(cB L k m s).2+1) (n:=4) (by omega);unfold fB;split
 ·split
  ·rename_i hb;refine ⟨fun c hc=>?_,by simp,by simp only;omega,by simp⟩;simp only [List.mem_cons,List.not_mem_nil,or_false] at hc;rcases hc with rfl | rfl
   ·exact h1
   ·exact aGk h1 h2 hb (by omega) (by omega)
  ·refine ⟨fun c hc=>?_,by simp,by simp only;omega,by simp⟩;simp only [List.mem_cons,List.not_mem_nil,or_false] at hc;rw [hc];exact h1
 ·refine ⟨fun c hc=>?_,by simp,by simp only;omega,by simp⟩;simp only [List.mem_cons,List.not_mem_nil,or_false] at hc;rw [hc];exact h1
theorem Kc (L:List Int) (m s:Int) (hm:m≤9) (hs:s≤9):∀ (n k:Nat),(∀ c∈(pP L m s n k).1,Nice c)∧(pP L m s n k).1.length≤2*n
 | 0,k=>⟨fun c hc=>by simp [pP] at hc,by simp [pP]⟩
 | n+1,k=>by
  obtain ⟨h1,h2⟩:=Kc L m s hm hs n (fB L k m s).2;obtain ⟨h3,h4,_,_⟩:=uJ L k m s hm hs;simp only [pP];refine ⟨fun c hc=>?_,by simp only [List.length_append];omega⟩;rcases List.mem_append.1 hc with hc | hc
  ·exact h3 c hc
  ·exact h1 c hc
theorem Hh:∀ (l:List ClipR),(∀ c∈l,c.len≤9)→rE l≤9*l.length
 | [],_=>by simp [rE]
 | c::l,h=>by
  have h1:=Hh l fun d hd=>h d (by simp [hd])
  have h2:=h c (by simp);simp only [rE,List.length_cons];omega
theorem aBw (L:List Int) (k:Nat) (m s most:Int) (hm:m≤9) (hs:s≤9) (h0 : 0≤most) (h9:most≤9):(∀ c∈(qP L k m s most).1,Nice c)∧(qP L k m s most).1.length≤18:=by
 obtain ⟨h1,h2⟩:=Kc L m s hm hs (aB L k (most+1)).toNat (k+1);have h3:=aF (L:=L) (k:=k) (n:=most+1) (by omega);exact ⟨h1,by unfold qP;omega⟩
theorem aBm {t:List ClipR} (h:∀ c∈t,Nice c) (hl:t.length≤64):dD t=true:=by
 have h1:=Hh t fun c hc=>(h c hc).l9
 unfold dD;rw [decide_eq_true hl,decide_eq_true (by omega:rE t≤2147483647),List.all_eq_true.2 fun c hc=>(h c hc).ok];rfl
open Go.RowKit
set_option maxRecDepth 4000
abbrev StT (L:List Int) (c:Nat) (es:List ClipR) (k:Nat) (σ : St):St :=
 {fr:=(σ.fr.set 9 (.own 1)).set 10 (aC c),h:=[(1,rL es),(0, .box [.t (bY L),aC k])],nx:=2 }
open Go.RowKit
set_option maxRecDepth 4000
def eqT:List ClipR→List ClipR→Bool
 | [],[]=>true
 | c::l,d::m=>c.eqb d&&eqT l m
 | _,_=>false
theorem Ms:∀ {a b:List ClipR},eqT a b=true ↔ a=b
 | [],[]=>by simp [eqT]
 | c::l,[]=>by simp [eqT]
 | [],d::m=>by simp [eqT]
 | c::l,d::m=>by simp only [eqT,Bool.and_eq_true,ClipR.eqb_iff,Ms,List.cons.injEq]
theorem aSw (a:List ClipR):eqT a a=true:=Ms.2 rfl
theorem aSx {a b:List ClipR} (h:a≠b):eqT a b=false:=by rw [Bool.eq_false_iff,ne_eq,Ms];exact h
theorem eqT_len {a b:List ClipR} (h:a.length≠b.length):eqT a b=false:=aSx fun e=>h (by rw [e])
theorem eqT_hit {a b:List ClipR} {k:Nat} (h2:(a.getD k default).eqb (b.getD k default)=false):eqT a b=false:=by
 refine aSx ?_;rintro rfl;rw [Bool.eq_false_iff,ne_eq,ClipR.eqb_iff] at h2;exact h2 rfl
theorem aSy {a b:List ClipR} (hl:a.length=b.length) (h:∀ i,i<a.length→(a.getD i default).eqb (b.getD i default)=true):eqT a b=true:=by
 rw [Ms];refine List.ext_getElem hl fun i h1 h2=>?_
 have:=ClipR.eqb_iff.1 (h i h1);rw [aK h1,aK h2] at this;exact this
theorem cREqual (a b:List ClipR):aS Tryz.prog 137 [.t (jX a), .t (jX b)] (aT (eqT a b)):=by
 refine aH Tryz.X137 Tryz.func137 rfl Tryz.ntmps137 (by rw [Tryz.results137]) (cG fun hf=>aD _ ?_);simp only [go_sem,simprocAttr,eB] at hf;have hla:a.length≤maxLen:=by first | exact hf.1 | exact hf.1.1 | exact hf.2.1
 simp only [go_sem,simprocAttr];refine ⟨fun h=>?_,fun h=>?_⟩
 ·simp only [bxx] at h;unfold awS;simp only [go_sem,simprocAttr];rw [eqT_len (by omega)]
 ·have hl:a.length=b.length:=by simp only [bne_eq_false_iff_eq] at h;omega
  unfold awS;simp only [go_sem,simprocAttr];refine aE (fun (k:Nat) σ => bD 5 (aC k) σ) (fun k=>k≤a.length ∧ ∀ i,i<k→(a.getD i default).eqb (b.getD i default)=true) (fun k=>a.length - k) 0 (aA ?_) ⟨Nat.zero_le _,by omega⟩ ?_
  ·simp only [go_sem,simprocAttr]<;>rfl
  ·rintro k ⟨hk,hi⟩;refine aD _ ?_;simp only [go_sem,simprocAttr];refine ⟨fun hlt=>?_,fun hge=>?_⟩
   ·simp only [bxx] at hlt;unfold awS;simp only [go_sem,simprocAttr];refine bZ [0,1,2,3,4,5,6,7,8,9] .done rfl (by kernel_rfl) (by kernel_rfl) (by decide) ?_;simp only [go_sem,simprocAttr];refine ⟨⟨by omega,by omega⟩,⟨by omega,by omega⟩,?_⟩;refine ⟨_,aP3 _ _,?_⟩;simp only [go_sem,simprocAttr];refine ⟨fun h2=>?_,fun h2=>?_⟩
    ·unfold awS;simp only [go_sem,simprocAttr];rw [eqT_hit (k:=k) (by simpa using h2)]
    ·unfold awS;simp only [go_sem,simprocAttr];refine ⟨k+1,aA ?_,⟨by omega,upto hi (by simpa using h2)⟩,by omega⟩;simp only [go_sem,simprocAttr]<;>simp [cJ (show k<a.length by omega) hla]
   ·simp only [bxx] at hge;unfold awS;simp only [go_sem,simprocAttr];rw [aSy hl (fun i h2=>hi i (by omega))]
def sameT (a b:List ClipR):Bool:=dD a&&dD b&&eqT (normT a) (normT b)
