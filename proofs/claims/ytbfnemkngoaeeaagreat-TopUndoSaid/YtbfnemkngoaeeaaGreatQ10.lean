/- Proved here: The contract of the function that cuts an interval out of a track. -/
import Derived.Test.YtbfnemkngoaeeaaGreatQ09
set_option linter.unusedSimpArgs false
set_option linter.unusedVariables false
set_option linter.unusedSectionVars false
set_option linter.unnecessarySimpa false
namespace Go.Proofs.YtbfnemkngoaeeaaGreat
open Go.RowKit
set_option maxRecDepth 4000
theorem Pe:aN3 Tryz.prog 182:=by
 refine ⟨Tryz.X182,fun cap w=>callsDIn_of_wpSIn Tryz.func182 rfl trivial fun c₀ cs hu=>?_⟩;have k1 : 2<cap.size+(4 - cap.size):=by omega
 have k2 : 3<cap.size+(4 - cap.size):=by omega
 have k3 : 2<max 4 cap.size:=by omega
 have k4 : 3<max 4 cap.size:=by omega
 apply wpSIn_seq;apply wpSIn_region;simp [wpOpsSIn,Fence.wide,go_sem,recoverD,hu,Tryz.ntmps182,Exit.thenS,k1,k2,k3,k4];refine wpSIn_cond (t:=false) (by simp [Act.eval,k2,k4]) ?_;refine wpSIn_of_wpIn rfl (wpIn_skip ?_);refine ⟨rfl, .returning,by rw [← hu], .tuple #[],?_,⟨_,rfl⟩,rfl,rfl⟩;simp [results,Tryz.results182,go_sem]
def mA (n:Int):ClipR:=⟨n,0,zSource,zSource,0,0,0,⟨#[]⟩,0,[]⟩
def nT:List ClipR→Int→List ClipR×Int
 | [],n=>([],n)
 | c::l,n=>if n=0 then ([],0) else ({ c with len:=min c.len n }::(nT l (n - min c.len n)).1,(nT l (n - min c.len n)).2)
def fH (r:List ClipR×Int):List ClipR:=if 0<r.2 then r.1 ++ [mA r.2] else r.1
def advD (D:List ClipR) (o:Int):List ClipR:=cV (D.getD 0 default) o::D.drop 1
def cW (t:List ClipR) (a n:Int):List ClipR :=
 if ((dZ t 0 a).2.2&&decide (0<n))=true then fH (nT (advD (t.drop (dZ t 0 a).1.toNat) (dZ t 0 a).2.1) n) else fH ([],n)
theorem pN:∀ x:List T,aGc x x
 | []=>trivial
 | x::xs=>⟨.inl rfl,pN xs⟩
theorem aFm (r:Int):aGc [.lit (.int .i64 r), .lit (.int .i64 0), .lit (.int .i64 0), .lit (.string ⟨#[]⟩), .lit (.int .i64 0), .lit (.int .i64 0), .lit (.int .i64 0), .lit (.int .i64 0), .lit (.bool false),
  .lit (.int .i64 0), .lit (.string ⟨#[]⟩), .lit (.int .i64 0), .lit (.int .i64 0), .lit (.int .i64 0), .lit (.int .i64 0), .lit (.bool false), .lit (.int .i64 0), .lit (.int .i64 0), .lit (.int .i64 0), .lit (.string ⟨#[]⟩), .lit (.int .i64 0), .lit (.slice none 0 0)] (ClipR.c (mA r)) :=
 ⟨.inl rfl, .inl rfl, .inl rfl, .inl rfl, .inl rfl, .inl rfl, .inl rfl, .inl rfl, .inl rfl, .inl rfl, .inl rfl, .inl rfl, .inl rfl, .inl rfl, .inl rfl, .inl rfl, .inl rfl, .inl rfl, .inl rfl, .inl rfl, .inl rfl, .inr ⟨rfl,_,_,rfl⟩,trivial⟩
theorem aK3 {k:Nat} {d:List T}:∀ (w:World) (E:Env) v,RdV w E (.t (.lit (.slice none 0 0))) v→RdV w E (.t (.list k d [])) v:=by
 intro w E v h;simp only [RdV] at h ⊢;cases h;exact .list _ _ _ none 0 (Nat.zero_le _) (Nat.zero_le _) (fun _=>rfl) (by simp) (by simp) (by simp)
theorem zV {x y:List T} (h:aGc x y):∀ {xs:List (List T)},Cw (xs ++ [x]) (xs ++ [y])
 | []=>⟨h,trivial⟩
 | z::xs=>⟨pN z,zV h⟩
theorem aEv (t:List ClipR):tQ (vte (t,0)) (.tup [.own 0,aA 0]) [(0,tB t)]:=by
 refine ⟨?_,fun w E v h=>?_⟩
 ·simp only [go_sem,simprocAttr]
 ·simp only [go_sem,simprocAttr] at h;exact h
theorem cCutIO (t:List ClipR) (a b:Int) (hfit:∀ c∈t,c.fit) (hv:bB t=true) (h0 : 0≤a) (h1:a≤b) (h2:b≤100000)
  (hadv:∀ i o,i<t.length→0≤o→o<(t.getD i default).len→dZ t 0 a=((i:Int),o,true)→Ua (t.getD i default) o=(cV (t.getD i default) o,0))
  (hin:(dZ t 0 a).2.2=true → ∃ i:Nat, ∃ o:Int,dZ t 0 a=((i:Int),o,true)∧i<t.length∧0≤o∧o<(t.getD i default).len)
  (hT:Trk (cW t a (b - a))) (hTf:∀ c∈cW t a (b - a),c.fit) (h64:(sE (cW t a (b - a))).length≤64) :
  CIO Tryz.prog 106 0 [] [.t (aM t),aA a,aA b] (.tup [.own 0,aA 0]) [(0,tB (sE (cW t a (b - a))))] 1:=by
 refine kQ Tryz.X106 Tryz.func106 rfl Tryz.ntmps106 (by rw [Tryz.results106]) (aC _ ?_);simp only [go_sem,simprocAttr];refine ⟨_,kX t hfit,?_⟩;simp only [go_sem,simprocAttr];obtain ⟨t64,tv,ttot⟩:=mU hv;have hv':=hv;unfold bB at hv';simp only [Bool.and_eq_true,List.all_eq_true] at hv';have hg:(!bB t||decide (a<0)||decide (b<a)||decide (b > 2147483647))=false:=by
  rw [hv,decide_eq_false (by omega),decide_eq_false (by omega),decide_eq_false (by omega)];rfl
 simp only [go_sem,simprocAttr,hg];refine ⟨fun h=>h.elim,?_⟩;unfold awS;simp only [go_sem,simprocAttr,wrap64 (x:=b - a) (by omega) (by omega)];refine ⟨_,cPfind t a ⟨by omega,by omega⟩ hv'.1.2 t64,?_⟩;obtain ⟨n,hn⟩:∃ n,n=b - a:=⟨_,rfl⟩
 have hn0 : 0≤n∧n≤100000:=by omega
 rw [← hn] at hT hTf h64 ⊢;rw [if_pos h0];simp only [go_sem,simprocAttr];obtain ⟨R,hR⟩:∃ R,R=cW t a n:=⟨_,rfl⟩
 rw [← hR] at hT hTf h64 ⊢;have hend:∀ r:List ClipR×Int,fH r=R→True:=fun _ _=>trivial
 refine ⟨fun hok=>?_,fun hno=>?_⟩
 ·have hok2:(dZ t 0 a).2.2=true∧0<n:=by simpa using hok
  obtain ⟨i,o,hf,hi,ho0,ho1⟩:=hin hok2.1;have hcl:=aL (tv i hi);have ha:=hadv i o hi ho0 ho1 hf;have hRe:R=fH (nT (cV (t.getD i default) o::t.drop (i+1)) n):=by
   rw [hR];unfold cW advD;rw [hok,if_pos rfl,hf];simp only [Int.toNat_natCast];rw [gX hi];rfl
  obtain ⟨c0,hc0⟩:∃ c0,c0=t.getD i default:=⟨_,rfl⟩
  obtain ⟨D,hD⟩:∃ D,D=t.drop i:=⟨_,rfl⟩
  have hDl:D.length=t.length - i:=by rw [hD,List.length_drop]
  rw [hf];unfold awS;simp only [go_sem,simprocAttr,Int.toNat_natCast];refine ⟨⟨by omega,by omega⟩,?_⟩;have hsl:List.drop i (List.take t.length (List.map ClipR.c t))=List.map ClipR.c D:=by rw [List.take_of_length_le (by simp), ← List.map_drop,hD]
  rw [hsl,List.length_map];obtain ⟨E,hE⟩:∃ E,E=cV (t.getD i default) o::t.drop (i+1):=⟨_,rfl⟩
  have hEl:E.length=D.length:=by rw [hE,hDl,List.length_cons,List.length_drop];omega
  have hDE:∀ k,k<D.length→k≠0→D.getD k default=E.getD k default:=fun k hk h=>by
   obtain ⟨k,rfl⟩:∃ k',k=k'+1:=⟨k - 1,by omega⟩
   rw [hE,hD,gX hi];rfl
  have hD0:D.getD 0 default=t.getD i default:=by rw [hD,gX hi];rfl
  have hE0:E.getD 0 default=cV (t.getD i default) o:=by rw [hE];rfl
  have hEv:∀ k,k<E.length→1≤(E.getD k default).len∧(E.getD k default).len≤2147483647:=fun k hk=>by
   rcases Nat.eq_zero_or_pos k with h | h
   ·subst h;rw [hE0];exact ⟨by show 1≤(t.getD i default).len - o;omega,by show (t.getD i default).len - o≤_;omega⟩
   ·rw [← hDE k (by omega) (by omega)];refine aL (hv'.1.2 _ (List.mem_of_mem_drop (i:=i) ?_));rw [← hD];exact aP (by omega)
  rw [← hE] at hRe;refine aJ (fun (x:Nat×List ClipR×Int) σ => { fr:=(((dD [13,14,52,53,54,55,56,57,58,59,60,61,62,63,64,65,66,67,68,69,70,71,72,73,74,75,76,77,78,79,80,81,82,83,84,85,86,87,88,89,90,91,92,93,94,95] σ).fr.set 8 (aA x.2.2)).set 9 (.own 2)).set 51 (aA x.1),h:=[(2,tB x.2.1),(1, .box [aA 0]),(0, .box [.t (.lit (.slice none 0 0))])],nx:=3,df := σ.df })
   (fun x=>x.1≤D.length∧x.2.1.length=x.1∧0≤x.2.2∧x.2.2≤n∧(x.2.1++(nT (E.drop x.1) x.2.2).1,(nT (E.drop x.1) x.2.2).2)=nT E n) (fun x=>D.length - x.1) (0,[],n) (aT [(2,none),(1,some 1),(0,some 0)] ?_) ⟨Nat.zero_le _,rfl,hn0.1,Int.le_refl _,rfl⟩ ?_
  ·simp only [go_sem,simprocAttr]<;>simp [aS]
  ·rintro ⟨k,O,r⟩ ⟨hk,hO,hr0,hrn,hcut⟩;simp only at hk hO hr0 hrn hcut;refine aC _ ?_;simp only [go_sem,simprocAttr];refine ⟨fun hlt=>?_,fun hge=>?_⟩
   ·simp only [bxx] at hlt;have hkE:k<E.length:=by omega
    have hke:=hEv k hkE;rw [gX hkE] at hcut;unfold awS;simp only [go_sem,simprocAttr];refine ⟨⟨by omega,by omega⟩,?_⟩;refine ⟨fun hz=>?_,fun hz=>?_⟩
    ·have hz:r=0:=by simpa using hz
     subst hz;have hRf:R=fH (O,0):=by
      rw [hRe, ← hcut];unfold nT;simp
     have hR2:R=O:=by rw [hRf];rfl
     subst hR2;unfold awS;simp only [go_sem,simprocAttr];refine ⟨fun h=>absurd h (by decide),fun _=>?_⟩;unfold awS;simp only [go_sem,simprocAttr];refine qP Tryz.X181 ?_;simp only [go_sem,simprocAttr];refine cQ (La R hTf hT) [] rfl (by omega) (by decide) ?_ rfl rfl rfl rfl ?_
     ·simp only [go_sem,simprocAttr]
     simp only [go_sem,simprocAttr,List.getElem?_nil];refine ⟨fun h=>absurd h (by first | (simp;done) | (simp;omega) | trace_state),fun _=>?_⟩;unfold awS;simp only [go_sem,simprocAttr];refine ⟨Pe,aT [(0,some 4)] ?_⟩;simp only [go_sem,simprocAttr];simp
    ·have hz:r≠0:=by simpa using hz
     have hcut':(O ++ { E.getD k default with len:=min (E.getD k default).len r }::(nT (E.drop (k+1)) (r - min (E.getD k default).len r)).1,(nT (E.drop (k+1)) (r - min (E.getD k default).len r)).2)=nT E n:=by
      rw [← hcut]
      conv=>rhs;unfold nT
      rw [if_neg hz]
     have hmin : 1≤min (E.getD k default).len r∧min (E.getD k default).len r≤r:=by omega
     obtain ⟨m,hm⟩:∃ m,m=min (E.getD k default).len r:=⟨_,rfl⟩
     unfold awS;simp only [go_sem,simprocAttr];refine ⟨fun hk0=>?_,fun hk0=>?_⟩
     ·have hk0:k=0:=by simpa using hk0
      subst hk0;unfold awS;simp only [go_sem,simprocAttr,hD0];refine ⟨_,aT5 (t.getD i default) o (hfit _ (aP hi)) ⟨by omega,by omega⟩,?_⟩;rw [ha];simp only [go_sem,simprocAttr];rw [hE0] at hcut' hmin hm;rw [← hm] at hcut' hmin ⊢;refine ⟨⟨by unfold maxLen;omega,by omega⟩,(0+1,O ++ [{ cV (t.getD i default) o with len:=m }],r - m),aT [(2,some 5),(1,some 1),(0,some 0)] ?_,⟨by simp only;omega,by simp only [List.length_append,List.length_cons,List.length_nil];omega,by simp only;omega,by simp only;omega,by simp only;rw [← hcut'];simp⟩,by simp only;omega⟩;simp only [go_sem,simprocAttr,wrap64 (x:=r - m) (by omega) (by omega)]<;>simp
      first | rfl | exact ⟨rfl,rfl⟩ | exact ⟨rfl,by decide⟩ | trace_state
     ·have hk0:k≠0:=by simpa using hk0
      rw [hDE k (by omega) hk0];unfold awS;simp only [go_sem,simprocAttr];rw [← hm] at hcut' hmin ⊢;refine ⟨⟨by unfold maxLen;omega,by omega⟩,(k+1,O ++ [{ E.getD k default with len:=m }],r - m),aT [(2,some 5),(1,some 1),(0,some 0)] ?_,⟨by simp only;omega,by simp only [List.length_append,List.length_cons,List.length_nil];omega,by simp only;omega,by simp only;omega,by simp only;rw [← hcut'];simp⟩,by simp only;omega⟩;simp only [go_sem,simprocAttr,wrap64 (x:=r - m) (by omega) (by omega),dC (show k<9223372036854775807 by omega)]<;>simp
      first | rfl | exact ⟨rfl,rfl⟩ | exact ⟨rfl,by decide⟩ | trace_state
   ·simp only [bxx] at hge;have hRf:R=fH (O,r):=by
     rw [hRe, ← hcut,List.drop_of_length_le (by omega)];simp [nT]
    unfold awS;simp only [go_sem,simprocAttr];refine brW (b:=decide (0<r)) ?_ ⟨fun hr=>?_,fun hr=>?_⟩
    ·rfl
    ·have hR2:R=O ++ [mA r]:=by rw [hRf];unfold fH;rw [if_pos (by simpa using hr)]
     unfold awS;simp only [go_sem,simprocAttr];refine ⟨⟨by unfold maxLen;omega,by omega⟩,?_⟩;have e:List.map ClipR.c O ++ [ClipR.c (mA r)]=List.map ClipR.c R:=by rw [hR2,List.map_append];rfl
     refine qP Tryz.X181 ?_;simp only [go_sem,simprocAttr];refine cQ (r := .own 0) (m:=0) (h:=[]) (h':=[(0,tB (sE R))]) (n':=1) (aDm (.cons (Eu (zV (xs:=List.map ClipR.c O) (aFm r))) .nil) (by rw [e];exact La R hTf hT)) [] rfl (by omega) (by decide) ?_ rfl rfl rfl rfl ?_
     ·simp only [go_sem,simprocAttr]
     simp only [go_sem,simprocAttr,List.getElem?_nil];refine ⟨fun h=>absurd h (by first | (simp;done) | (simp;omega) | trace_state),fun _=>?_⟩;unfold awS;simp only [go_sem,simprocAttr];refine ⟨Pe,aT [(0,some 5)] ?_⟩;simp only [go_sem,simprocAttr];simp
    ·have hR2:R=O:=by rw [hRf];unfold fH;rw [if_neg (by simpa using hr)]
     subst hR2;unfold awS;simp only [go_sem,simprocAttr];refine qP Tryz.X181 ?_;simp only [go_sem,simprocAttr];refine cQ (La R hTf hT) [] rfl (by omega) (by decide) ?_ rfl rfl rfl rfl ?_
     ·simp only [go_sem,simprocAttr]
     simp only [go_sem,simprocAttr,List.getElem?_nil];refine ⟨fun h=>absurd h (by first | (simp;done) | (simp;omega) | trace_state),fun _=>?_⟩;unfold awS;simp only [go_sem,simprocAttr];refine ⟨Pe,aT [(0,some 3)] ?_⟩;simp only [go_sem,simprocAttr];simp
 ·have hRf:R=fH ([],n):=by
   rw [hR];unfold cW;have : ¬ ((dZ t 0 a).2.2&&decide (0<n))=true:=by simpa using hno
   rw [if_neg this]
  unfold awS;simp only [go_sem,simprocAttr];refine brW (b:=decide (0<n)) ?_ ⟨fun hr=>?_,fun hr=>?_⟩
  ·rfl
  ·have hR2:R = [mA n]:=by rw [hRf];unfold fH;rw [if_pos (by simpa using hr)];rfl
   unfold awS;simp only [go_sem,simprocAttr];have e : [ClipR.c (mA n)]=List.map ClipR.c R:=by rw [hR2];rfl
   refine ⟨by decide,?_⟩;refine qP Tryz.X181 ?_;simp only [go_sem,simprocAttr];refine cQ (r := .own 0) (m:=0) (h:=[]) (h':=[(0,tB (sE R))]) (n':=1) (aDm (.cons (Eu (zV (xs:=[]) (aFm n))) .nil) (by rw [List.nil_append,e];exact La R hTf hT)) [] rfl (by omega) (by decide) ?_ rfl rfl rfl rfl ?_
   ·simp only [go_sem,simprocAttr]
   simp only [go_sem,simprocAttr,List.getElem?_nil];refine ⟨fun h=>absurd h (by first | (simp;done) | (simp;omega) | trace_state),fun _=>?_⟩;unfold awS;simp only [go_sem,simprocAttr];refine ⟨Pe,aT [(0,some 4)] ?_⟩;simp only [go_sem,simprocAttr];simp
  ·have hR2:R = []:=by rw [hRf];unfold fH;rw [if_neg (by simpa using hr)]
   subst hR2;unfold awS;simp only [go_sem,simprocAttr];refine ⟨_,aSj,?_⟩;simp only [go_sem,simprocAttr];refine ⟨fun h=>absurd h (by first | (simp;done) | (simp;omega) | trace_state),fun _=>?_⟩;unfold awS;simp only [go_sem,simprocAttr];refine ⟨Pe,aT [(0,none)] ?_⟩;simp only [go_sem,simprocAttr];rfl
theorem cCut1 (t:List ClipR) (a b:Int) (hfit:∀ c∈t,c.fit) (hv:bB t=true) (h0 : 0≤a) (h1:a≤b) (h2:b≤100000)
  (hadv:∀ i o,i<t.length→0≤o→o<(t.getD i default).len→dZ t 0 a=((i:Int),o,true)→Ua (t.getD i default) o=(cV (t.getD i default) o,0))
  (hin:(dZ t 0 a).2.2=true → ∃ i:Nat, ∃ o:Int,dZ t 0 a=((i:Int),o,true)∧i<t.length∧0≤o∧o<(t.getD i default).len)
  (hT:Trk (cW t a (b - a))) (hTf:∀ c∈cW t a (b - a),c.fit) (h64:(sE (cW t a (b - a))).length≤64) :
  aK Tryz.prog 106 [.t (aM t),aA a,aA b] (vte (sE (cW t a (b - a)),0)):=by
 have h:=cCutIO t a b hfit hv h0 h1 h2 hadv hin hT hTf h64;exact aA4 h (aEv _)
open Go.RowKit
set_option maxRecDepth 4000
theorem Hx {s:SourceR} (hv:aY s=true):aR s 0=s:=by
 unfold aR;split
 ·rfl
 ·rename_i hb;obtain ⟨p,d,ok⟩:=jN hv (by simpa using hb);have h1:=vV ok.pos;have e:bM s 0=toQ s.pos:=by
   unfold bM jF;have z:toQ ⟨0,1⟩=0:=by unfold toQ;rfl
   rw [z,Rat.zero_mul,Rat.add_zero]
  rw [e];have:ofQ (toQ s.pos)=s.pos:=by
   unfold ofQ;rw [h1.1,h1.2]
  rw [this]
theorem Gx {c:ClipR} (hv:aN c=true):cV c 0=c:=by
 obtain ⟨v1,v2,v3,v4,v5,v6,v7,v8⟩:=bF hv;unfold cV;rw [Hx v6,Hx v7];have e1:c.len - 0=c.len:=by omega
 have e2:(if shK c.kind=true then c.off+0 else c.off)=c.off:=by split<;>omega
 rw [e1,e2]
def one (c:ClipR) (k:Int):ClipR := { cV c k with len:=1 }
def frC (c:ClipR):List ClipR:=(List.range c.len.toNat).map fun k:Nat=>one c (k:Int)
def fr (l:List ClipR):List ClipR:=l.flatMap frC
theorem mP (a b:List ClipR):fr (a++b)=fr a++fr b:=List.flatMap_append ..
theorem fX (c:ClipR) (l:List ClipR):fr (c::l)=frC c++fr l:=rfl
theorem fA (c:ClipR):(frC c).length=c.len.toNat:=by unfold frC;simp
theorem wW:∀ {l:List ClipR},(∀ c∈l,1≤c.len)→((fr l).length:Int)=totL l
 | [],_=>rfl
 | c::l,h=>by
  have ih:=wW (l:=l) fun d hd=>h d (by simp [hd])
  have h1:=h c (by simp);rw [fX,List.length_append,fA];simp only [totL];omega
theorem one_len (c:ClipR) (m k:Int):one { c with len:=m } k=one c k:=rfl
theorem Yu {c:ClipR} (hv:aN c=true) (a k:Int):one (cV c a) k=one c (a+k):=by
 unfold one;rw [aDy hv]
theorem range_add (a b:Nat) (f:Nat→ClipR):(List.range (a+b)).map f=(List.range a).map f++(List.range b).map fun k=>f (a+k):=by
 rw [List.range_add,List.map_append,List.map_map];rfl
theorem Qu (c:ClipR) (m:Int) (h:m≤c.len):frC { c with len:=m }=(frC c).take m.toNat:=by
 unfold frC;rw [← List.map_take,List.take_range];simp only;rw [Nat.min_eq_left (by omega)];rfl
theorem Qv {c:ClipR} (hv:aN c=true) {o:Int} (h0 : 0≤o) (h1:o≤c.len):frC (cV c o)=(frC c).drop o.toNat:=by
 have e:c.len.toNat=o.toNat+(c.len - o).toNat:=by omega
 unfold frC;rw [e,range_add,List.drop_left' (by simp)];show (List.range (c.len - o).toNat).map _=_
 refine List.map_congr_left fun k _=>?_
 rw [Yu hv];congr 1;omega
theorem aRe {c q:ClipR} (hc:aN c=true) (hq:aN q=true) (h:eL c q=true):frC { c with len:=c.len+q.len }=frC c++frC q:=by
 have e:=(Ww hc hq).1 h;have l1:=aL hc;have l2:=aL hq;have e2:(c.len+q.len).toNat=c.len.toNat+q.len.toNat:=by omega
 unfold frC;simp only;rw [e2,range_add];congr 1;refine List.map_congr_left fun k _=>?_
 have e3:q = { cV c c.len with len:=q.len }:=e;have e4:one q (k:Int)=one (cV c c.len) (k:Int):=by
  rw [e3];rfl
 rw [one_len,e4,Yu hc];congr 1;omega
theorem aFp:∀ (l:List ClipR) (c:ClipR),aN c=true→(∀ d∈l,aN d=true)→c.len+totL l≤2147483647→fr (pkA c l)=frC c++fr l
 | [],c,_,_,_=>by simp [pkA,fr]
 | q::l,c,hc,hl,ht=>by
  have hq:=hl q (by simp);have hl2:∀ d∈l,aN d=true:=fun d hd=>hl d (by simp [hd])
  have h0:=cL l fun d hd=>(aL (hl2 d hd)).1
  have hc1:=aL hc;have hq1:=aL hq;simp only [totL] at ht;rw [pkA];split
  ·rename_i hcc;rw [aFp l _ (Zg hc hq hcc (by omega)) hl2 (by simp only;omega),aRe hc hq hcc,fX,List.append_assoc]
  ·rw [fX,aFp l q hq hl2 (by omega),fX]
theorem fr_pk {l:List ClipR} (h:∀ d∈l,aN d=true) (ht:totL l≤2147483647):fr (pk l)=fr l:=by
 cases l with
 | nil=>rfl
 | cons c l=>exact aFp l c (h c (by simp)) (fun d hd=>h d (by simp [hd])) (by simpa [totL] using ht)
structure Gd (m:Int) (c:ClipR):Prop where
 ok:aN c=true
 fit:c.fit
 pl:∀ k,0≤k→k≤m→bU (aR c.a k)=true∧bU (aR c.b k)=true
theorem yV {m m':Int} {c:ClipR} (h:Gd m c) (hm:m'≤m):Gd m' c:=⟨h.ok,h.fit,fun k h0 h1=>h.pl k h0 (by omega)⟩
theorem aRa {m:Int} {c:ClipR} (h:Gd m c) {o:Int} (h0 : 0≤o) (h1:o<c.len) (h2:o≤m):Gd (m - o) (cV c o):=by
 obtain ⟨v1,v2,v3,v4,v5,v6,v7,v8⟩:=bF h.ok;refine ⟨advR_ok h.ok h0 h1 (h.pl o h0 h2).1 (h.pl o h0 h2).2,aTj h.fit h.ok h0 h1,fun k k0 k1=>?_⟩;show bU (aR (aR c.a o) k)=true∧bU (aR (aR c.b o) k)=true
 rw [jQ v6,jQ v7];exact h.pl (o+k) (by omega) (by omega)
theorem gd_len {m:Int} {c:ClipR} (h:Gd m c) {n:Int} (h0 : 1≤n) (h1:n≤c.len):Gd m { c with len:=n }:=by
 have:=aL h.ok;exact ⟨aR5 h.ok h0 h1,aA0 h.fit (by omega) (by omega),h.pl⟩
theorem Zs (m n:Int) (h0 : 1≤n) (h1:n≤2147483647):Gd m (mA n):=by
 have ez:zSource.isZ=true:=Ez;refine ⟨?_,⟨⟨by show _≤n;omega,by show n≤_;omega⟩,i0,xN,xN,i0,i0,i0,i0⟩,fun k _ _=>?_⟩
 ·unfold aN pR mA;simp only [Uc,decide_eq_true h0,decide_eq_true h1,Bool.and_true];simp [cF,eN,emp,ez,fU]
 ·show bU (aR zSource k)=true∧bU (aR zSource k)=true
  rw [sK ez];exact ⟨by unfold bU;rw [ez];rfl,by unfold bU;rw [ez];rfl⟩
theorem Pb {m:Int} {c:ClipR} (h:Gd m c) {k:Int} (h0 : 0≤k) (h1:k≤m) (h2:m≤2147483648):Ub (one c k):=by
 obtain ⟨v1,v2,v3,v4,v5,v6,v7,v8⟩:=bF h.ok;exact ⟨rR v6 (by omega) (h.pl k h0 h1).1,rR v7 (by omega) (h.pl k h0 h1).2⟩
theorem aMg (c:ClipR) (n m:Int):eL { c with len:=n } { cV c n with len:=m }=true:=by
 unfold eL;split
 ·rfl
 ·exact ClipR.eqb_iff.2 rfl
theorem aPu {m:Int} (hm:m≤100000):∀ (n:Nat) {c:ClipR} (xs ys:List ClipR),Gd m c→c.len=n→c.len≤m+1→(∀ d∈xs,Ub d)→pk (xs++frC c++ys)=pk (xs++c::ys)
 | 0,c,xs,ys,h,hn,_,_=>by have:=aL h.ok;omega
 | 1,c,xs,ys,h,hn,_,_=>by
  have e:frC c = [c]:=by
   unfold frC;rw [hn];show [one c ((0:Nat):Int)] = [c]
   unfold one;rw [show ((0:Nat):Int)=0 from rfl,Gx h.ok,show (1:Int)=c.len by omega]
  rw [e];simp
 | n+2,c,xs,ys,h,hn,hl,hx=>by
  have hm1 : 1≤m:=by omega
  have hb:=aRa h (o:=1) (by omega) (by omega) hm1;have e:frC c=one c 0::frC (cV c 1):=by
   have h1:=Qv h.ok (o:=1) (by omega) (by omega);rw [h1];unfold frC;rw [show c.len.toNat=(n+1)+1 by omega,List.range_succ_eq_map];simp only [List.map_cons,List.map_map];rfl
  have ih:=aPu (m:=m - 1) (by omega) (n+1) (c:=cV c 1) (xs ++ [one c 0]) ys hb (by show c.len - 1=_;omega) (by show c.len - 1≤_;omega) (fun d hd=>by
   rcases List.mem_append.1 hd with hd | hd
   ·exact hx d hd
   ·simp only [List.mem_cons,List.not_mem_nil,or_false] at hd;rw [hd];exact Pb h (by omega) (by omega) (by omega))
  have e1:xs++frC c++ys=xs ++ [one c 0]++frC (cV c 1)++ys:=by rw [e];simp
  rw [e1,ih];have e2:xs ++ [one c 0]++cV c 1::ys=xs++one c 0::cV c 1::ys:=by simp
  rw [e2];have e3:one c 0 = { c with len:=1 }:=by unfold one;rw [Gx h.ok]
  rw [e3];exact aPs rfl (aMg c 1 (c.len - 1)) (by show 1+(c.len - 1)=c.len;omega) ys xs hx
theorem aPv {m:Int} (hm:m≤100000):∀ (l xs:List ClipR),(∀ c∈l,Gd m c∧c.len≤m+1)→(∀ d∈xs,Ub d)→pk (xs++fr l)=pk (xs++l)
 | [],xs,_,_=>by simp [fr]
 | c::l,xs,hl,hx=>by
  obtain ⟨h1,h2⟩:=hl c (by simp);have hlen:=aL h1.ok;have hs:∀ d∈frC c,Ub d:=fun d hd=>by
   unfold frC at hd;obtain ⟨k,hk,rfl⟩:=List.mem_map.1 hd;rw [List.mem_range] at hk;exact Pb h1 (by omega) (by omega) (by omega)
  have ih:=aPv hm l (xs++frC c) (fun d hd=>hl d (by simp [hd])) (fun d hd=>(List.mem_append.1 hd).elim (hx d) (hs d));rw [fX, ← List.append_assoc,ih,aPu hm c.len.toNat xs l h1 (by omega) h2 hx]
open Go.RowKit
set_option maxRecDepth 4000
theorem aJe:∀ (E:List ClipR) (n:Int),(∀ c∈E,1≤c.len)→0≤n→fr (nT E n).1=(fr E).take n.toNat∧(nT E n).2=n - min n (totL E)∧(nT E n).1.length≤E.length ∧ ∀ d∈(nT E n).1, ∃ c∈E, ∃ m,1≤m∧m≤c.len∧d = { c with len:=m }
 | [],n,_,hn=>⟨by simp [nT,fr],by simp only [nT,totL];omega,by simp [nT],fun d hd=>by simp [nT] at hd⟩
 | c::l,n,h,hn=>by
  have h1:=h c (by simp);have h2:∀ d∈l,1≤d.len:=fun d hd=>h d (by simp [hd])
  have h0:=cL l h2;unfold nT;split
  ·rename_i hz;subst hz;refine ⟨by simp [fr],?_,by simp,fun d hd=>by simp at hd⟩;simp only [totL];omega
  ·rename_i hz;obtain ⟨a1,a2,a3,a4⟩:=aJe l (n - min c.len n) h2 (by omega);have hm : 1≤min c.len n∧min c.len n≤c.len:=by omega
   refine ⟨?_,?_,by simp only [List.length_cons];omega,fun d hd=>?_⟩
   ·rw [fX,fX,a1,Qu c _ hm.2,List.take_append,fA];rcases Int.le_total c.len n with hle | hle
    ·have e3:(frC c).take c.len.toNat=frC c:=List.take_of_length_le (by rw [fA];exact Nat.le_refl _);have e4:(frC c).take n.toNat=frC c:=List.take_of_length_le (by rw [fA];omega);have e5:(n - c.len).toNat=n.toNat - c.len.toNat:=by omega
     rw [Int.min_eq_left hle,e3,e4,e5]
    ·rw [Int.min_eq_right hle];have e1:(n - n).toNat=0:=by omega
     have e2:n.toNat - c.len.toNat=0:=by omega
     rw [e1,e2]
   ·simp only [totL];rw [a2];clear a1 a2 a3 a4 hm;simp only [Int.min_def]
    repeat' split
    all_goals omega
   ·rcases List.mem_cons.1 hd with rfl | hd
    ·exact ⟨c,by simp,_,hm.1,hm.2,rfl⟩
    ·obtain ⟨c',h3,h4⟩:=a4 d hd;exact ⟨c',by simp [h3],h4⟩
theorem findL_fr:∀ (t:List ClipR) (i:Nat) (a:Int),(∀ c∈t,aN c=true)→0≤a →
  ((dZ t i a).2.2=true ∧ ∃ (j:Nat) (o:Int),dZ t i a=(((i+j:Nat):Int),o,true)∧j<t.length∧0≤o∧o<(t.getD j default).len∧o≤a∧fr (cV (t.getD j default) o::t.drop (j+1))=(fr t).drop a.toNat)∨((dZ t i a).2.2=false∧totL t≤a)
 | [],i,a,_,ha => .inr ⟨rfl,by simpa [totL] using ha⟩
 | c::l,i,a,h,ha=>by
  have hc:=h c (by simp);have h1:=aL hc;rw [sU];split
  ·rename_i hlt;refine .inl ⟨rfl,0,a,rfl,by simp,ha,hlt,Int.le_refl _,?_⟩;show fr (cV c a::l)=_
   rw [fX,fX,Qv hc ha (by omega),List.drop_append,fA];have e:a.toNat - c.len.toNat=0:=by omega
   rw [e,List.drop_zero]
  ·rename_i hlt;rcases findL_fr l (i+1) (a - c.len) (fun d hd=>h d (by simp [hd])) (by omega) with ⟨g1,j,o,g2,g3,g4,g5,g6,g7⟩ | ⟨g1,g2⟩
   ·refine .inl ⟨g1,j+1,o,?_,by simp only [List.length_cons];omega,g4,?_,by omega,?_⟩
    ·rw [g2];congr 1;omega
    ·simpa using g5
    ·have e1:(c::l).getD (j+1) default=l.getD j default:=by simp
     have e2:(c::l).drop (j+1+1)=l.drop (j+1):=rfl;have e3:(frC c).drop a.toNat = []:=List.drop_of_length_le (by rw [fA];omega);have e4:(a - c.len).toNat=a.toNat - c.len.toNat:=by omega
     rw [e1,e2,g7,fX,List.drop_append,fA,e3,List.nil_append,e4]
   ·exact .inr ⟨g1,by simp only [totL];omega⟩
theorem Zz (r:Int):frC (mA r)=List.replicate r.toNat (mA 1):=by
 have e:∀ k:Int,one (mA r) k=mA 1:=fun k=>by
  unfold one cV mA;simp only [sK Ez];rfl
 unfold frC;simp only [e];rw [List.map_const',List.length_range];rfl
def tE (l:List ClipR) (a n:Nat):List ClipR:=(l.drop a).take n++List.replicate (n - ((l.drop a).take n).length) (mA 1)
theorem Wj {r:List ClipR×Int} (n:Nat) (h1:(fr r.1).length+r.2.toNat=n):fr (fH r)=fr r.1++List.replicate (n - (fr r.1).length) (mA 1):=by
 unfold fH;split
 ·rw [mP];congr 1;show frC (mA r.2) ++ []=_
  rw [List.append_nil,Zz];congr 1;omega
 ·have:n - (fr r.1).length=0:=by omega
  rw [this];simp
theorem aMf {m:Int} {t:List ClipR} (hg:∀ c∈t,Gd m c) {a n:Int} (ha : 0≤a) (ham:a≤m) (hn : 0≤n) (hn2:n≤100000) :
  (∀ d∈cW t a n,Gd (m - a) d)∧(cW t a n).length≤t.length+1∧fr (cW t a n)=tE (fr t) a.toNat n.toNat:=by
 have hv:∀ c∈t,aN c=true:=fun c hc=>(hg c hc).ok
 have h1:∀ c∈t,1≤c.len:=fun c hc=>(aL (hv c hc)).1
 have hfl:=wW h1;rcases findL_fr t 0 a hv ha with ⟨g1,j,o,g2,g3,g4,g5,g6,g7⟩ | ⟨g1,g2⟩
 ·rw [Nat.zero_add] at g2;have hgj:=hg _ (aP (d:=default) g3)
  by_cases hz : 0<n
  ·have e:cW t a n=fH (nT (cV (t.getD j default) o::t.drop (j+1)) n):=by
    unfold cW advD;rw [g1,decide_eq_true hz,g2];simp only [Bool.and_self,if_true,Int.toNat_natCast];rw [gX g3];rfl
   obtain ⟨E,hE⟩:∃ E,E=cV (t.getD j default) o::t.drop (j+1):=⟨_,rfl⟩
   have hEg:∀ c∈E,Gd (m - a) c:=fun c hc=>by
    rw [hE] at hc;rcases List.mem_cons.1 hc with rfl | hc
    ·exact yV (aRa hgj g4 g5 (by omega)) (by omega)
    ·exact yV (hg c (List.mem_of_mem_drop hc)) (by omega)
   have hEl:E.length≤t.length:=by rw [hE,List.length_cons,List.length_drop];omega
   have hE1:∀ c∈E,1≤c.len:=fun c hc=>(aL (hEg c hc).ok).1
   obtain ⟨c1,c2,c3,c4⟩:=aJe E n hE1 hn;have hEf:=wW hE1;rw [← hE] at e g7;rw [e];have c4':∀ d∈(nT E n).1,Gd (m - a) d:=fun d hd=>by
    obtain ⟨c,hc,k,k1,k2,rfl⟩:=c4 d hd;exact gd_len (hEg c hc) k1 k2
   have hlen:(fr (nT E n).1).length+(nT E n).2.toNat=n.toNat:=by
    rw [c1,List.length_take,c2];omega
   refine ⟨fun d hd=>?_,?_,?_⟩
   ·unfold fH at hd;split at hd
    ·rename_i hp;rcases List.mem_append.1 hd with hd | hd
     ·exact c4' d hd
     ·simp only [List.mem_cons,List.not_mem_nil,or_false] at hd;rw [hd];exact Zs _ _ (by omega) (by omega)
    ·exact c4' d hd
   ·unfold fH;split
    ·rw [List.length_append];simp only [List.length_cons,List.length_nil];omega
    ·omega
   ·rw [Wj n.toNat hlen,c1,g7];rfl
  ·have hz0:n=0:=by omega
   subst hz0;have e:cW t a 0 = []:=by
    unfold cW fH;simp
   rw [e];exact ⟨fun d hd=>(by cases hd),by simp,by simp [fr,tE]⟩
 ·have e:cW t a n=fH ([],n):=by
   unfold cW;rw [g1];simp
  rw [e];have hdrop:(fr t).drop a.toNat = []:=List.drop_of_length_le (by omega);refine ⟨fun d hd=>?_,?_,?_⟩
  ·unfold fH at hd;split at hd
   ·simp only [List.nil_append,List.mem_cons,List.not_mem_nil,or_false] at hd;rename_i hp;simp only at hp;rw [hd];exact Zs _ _ (by omega) (by omega)
   ·cases hd
  ·unfold fH;split<;>simp
  ·rw [Wj n.toNat (by simp [fr])];unfold tE;rw [hdrop];simp [fr]
theorem aF0 {m:Int}:∀ (l:List ClipR) (c:ClipR),Gd m c→(∀ d∈l,Gd m d)→c.len+totL l≤2147483647 → ∀ d∈pkA c l,Gd m d
 | [],c,hc,_,_,d,hd=>by
  simp only [pkA,List.mem_cons,List.not_mem_nil,or_false] at hd;rw [hd];exact hc
 | q::l,c,hc,hl,ht,d,hd=>by
  have hq:=hl q (by simp);have hl2:∀ d∈l,Gd m d:=fun d hd=>hl d (by simp [hd])
  have h0:=cL l fun d hd=>(aL (hl2 d hd).ok).1
  have hc1:=aL hc.ok;have hq1:=aL hq.ok;simp only [totL] at ht;rw [pkA] at hd;split at hd
  ·rename_i hcc;exact aF0 l _ ⟨Zg hc.ok hq.ok hcc (by omega),aA0 hc.fit (by omega) (by omega),hc.pl⟩ hl2 (by simp only;omega) d hd
  ·rcases List.mem_cons.1 hd with hd | hd
   ·rw [hd];exact hc
   ·exact aF0 l q hq hl2 (by omega) d hd
theorem aPt {m:Int} {l:List ClipR} (h:∀ d∈l,Gd m d) (ht:totL l≤2147483647):∀ d∈pk l,Gd m d:=by
 cases l with
 | nil=>intro d hd;simp [pk] at hd
 | cons c l=>exact aF0 l c (h c (by simp)) (fun d hd=>h d (by simp [hd])) (by simpa [totL] using ht)
theorem pJ:∀ {l:List ClipR},(∀ c∈l,1≤c.len) → ∀ c∈l,c.len≤totL l
 | [],_,d,hd=>by cases hd
 | c::l,h,d,hd=>by
  have h1:=h c (by simp);have h2:∀ d∈l,1≤d.len:=fun d hd=>h d (by simp [hd])
  have h0:=cL l h2;simp only [totL];rcases List.mem_cons.1 hd with rfl | hd
  ·omega
  ·have:=pJ h2 d hd;omega
structure CutOk (m:Int) (X:List ClipR) (F:List ClipR):Prop where
 gd:∀ d∈X,Gd m d
 tr:bB X=true
 fr:fr X=F
 tot:totL X=(F.length:Int)
theorem aS0 {m:Int} {X F:List ClipR} (h1:∀ d∈X,Gd m d) (h2:X.length≤64) (h3:fr X=F) (h4:F.length≤100000):CutOk m X F:=by
 have h5:=wW (l:=X) fun c hc=>(aL (h1 c hc).ok).1
 rw [h3] at h5;exact ⟨h1,zJ h2 (fun c hc=>(h1 c hc).ok) (by omega),h3,h5.symm⟩
theorem Rq {m:Int} {X F:List ClipR} (h:CutOk m X F):CutOk m (pk X) F:=by
 obtain ⟨t1,t2,t3⟩:=cZ h.tr;refine ⟨aPt h.gd t3,zJ (Nat.le_trans (eT X) t1) (fun c hc=>(aPt h.gd t3 c hc).ok) (by rw [aPr];exact t3),by rw [fr_pk t2 t3];exact h.fr,by rw [aPr];exact h.tot⟩
theorem gU (l:List ClipR) (a n:Nat):(tE l a n).length=n:=by
 unfold tE;rw [List.length_append,List.length_replicate,List.length_take];omega
theorem fJ {m:Int} {t F:List ClipR} (h:CutOk m t F) (hl:t.length≤60) {a n:Int} (ha : 0≤a) (ham:a≤m) (hn : 0≤n) (hn2:n≤1000):CutOk (m - a) (cW t a n) (tE F a.toNat n.toNat)∧(cW t a n).length≤t.length+1:=by
 obtain ⟨c1,c2,c3⟩:=aMf h.gd ha ham hn (by omega);rw [h.fr] at c3;exact ⟨aS0 c1 (by omega) c3 (by rw [gU];omega),c2⟩
theorem Bs {m:Int} {t F:List ClipR} (h:CutOk m t F) (hl:t.length≤60) (hF:F.length≤1000) (a b:Int) (ha : 0≤a) (ham:a≤m) (hm:m≤1000) (hb:a≤b) (hb2:b≤1000) (hlm:totL t≤m) :
  aK Tryz.prog 106 [.t (aM t),aA a,aA b] (vte (pk (cW t a (b - a)),0)):=by
 obtain ⟨k1,k2⟩:=fJ h hl ha ham (n:=b - a) (by omega) (by omega);obtain ⟨t1,t2,t3⟩:=cZ k1.tr;have hf:∀ c∈cW t a (b - a),c.fit:=fun c hc=>(k1.gd c hc).fit
 have hT:Trk (cW t a (b - a)):=uG (by omega) t2 t3;have e:=Ny k1.tr hf;have hv:=(cZ h.tr).2.1;have h1:∀ c∈t,1≤c.len:=fun c hc=>(aL (hv c hc)).1
 have hc:=cCut1 t a b (fun c hc=>(h.gd c hc).fit) h.tr ha hb (by omega) (fun i o hi o0 o1 hfi=>by
   have hg:=h.gd _ (aP (d:=default) hi);have hle:=pJ h1 _ (aP (d:=default) hi);have hp:=hg.pl o o0 (by omega);exact advC_ok hg.ok o0 o1 hp.1 hp.2) (fun hin=>by
   rcases findL_fr t 0 a hv ha with ⟨_,j,o,g2,g3,g4,g5,_,_⟩ | ⟨g1,_⟩
   ·rw [Nat.zero_add] at g2;exact ⟨j,o,g2,g3,g4,g5⟩
   ·rw [g1] at hin;cases hin) hT hf (by rw [e];exact Nat.le_trans (eT _) t1)
 rw [e] at hc;exact hc
def Fg (p:ProjR) (ts:List (List ClipR)) (n:Nat):List ExprR:=(List.range n).map fun k:Nat=>aNk p ts k
theorem aAp (p:ProjR) (ts:List (List ClipR)) (n:Nat):(Fg p ts n).length=n:=by unfold Fg;simp
def seenB (u:List ClipR) (i:Int):Bool:=(dZ u 0 i).2.2&&((u.getD (dZ u 0 i).1.toNat default).kind != 0)
open Go.RowKit
set_option maxRecDepth 4000
theorem aCc (s:SourceR):bM s 0=toQ s.pos:=by
 unfold bM jF;have z:toQ ⟨0,1⟩=0:=by unfold toQ;rfl
 rw [z,Rat.zero_mul,Rat.add_zero]
theorem Nv (R:ExprR→ExprR) (F:SourceR→Int→ExprR) (hF:∀ s s':SourceR,s.kind=s'.kind→s.name=s'.name→F s=F s') {s:SourceR} (hv:aY s=true) (k:Int) (hv':aY (aR s k)=true):fC R F (aR s k) 0=fC R F s k:=by
 by_cases hz:s.isZ=true
 ·have e:aR s k=s:=by unfold aR;rw [if_pos hz]
  have h0:s.kind=0:=yS hz;rw [e];unfold fC;rw [if_pos h0,if_pos h0]
 ·have e:aR s k = { s with pos:=ofQ (bM s k) }:=by unfold aR;rw [if_neg hz]
  obtain ⟨p,d,ok⟩:=jN hv (by simpa using hz);have hk:(aR s k).kind≠0:=by
   rw [e];rcases ok.kind with h | h<;>(show s.kind≠0;omega)
  obtain ⟨p',d',ok'⟩:=Zd hv' hk;have hq:bM (aR s k) 0=bM s k:=by
   rw [aCc,e];exact Kk _
  have hsm:(aR s k).smooth=s.smooth:=by rw [e]
  have hFF:F (aR s k)=F s:=hF _ _ (by rw [e]) (by rw [e]);rw [Nw R F ok' 0,Nw R F ok k,hq,hsm,hFF]
theorem aLt (p:ProjR) (G:ByteArray→Int→ExprR) (s s':SourceR) (h1:s.kind=s'.kind) (h2:s.name=s'.name):kU p G s=kU p G s':=by
 funext i;unfold kU;rw [h1,h2]
theorem aS9 (R:ExprR→ExprR) (F:SourceR→Int→ExprR) (hF:∀ s s':SourceR,s.kind=s'.kind→s.name=s'.name→F s=F s') {m:Int} {c:ClipR} (h:Gd m c) {k:Int} (h0 : 0≤k) (h1:k≤m) (h2:m≤2147483648) (hk:c.kind≠0):mQ R F (one c k) 0=mQ R F c k:=by
 obtain ⟨v1,v2,v3,v4,v5,v6,v7,v8⟩:=bF h.ok;have hs:=Pb h h0 h1 h2;have ha:fC R F (aR c.a k) 0=fC R F c.a k:=Nv R F hF v6 k (rR v6 (by omega) (h.pl k h0 h1).1);have hb:fC R F (aR c.b k) 0=fC R F c.b k:=Nv R F hF v7 k (rR v7 (by omega) (h.pl k h0 h1).2);unfold mQ one cV;simp only;rw [ha,hb]
 by_cases k1:c.kind=1
 ·rw [if_pos k1,if_pos k1]
 ·rw [if_neg k1,if_neg k1]
  by_cases k5:c.kind=5
  ·rw [if_pos k5,if_pos k5]
  ·rw [if_neg k5,if_neg k5]
   by_cases k4:c.kind=4
   ·rw [if_pos k4,if_pos k4]
   ·rw [if_neg k4,if_neg k4];have hsh:shK c.kind=true:=by
     have:c.kind=2∨c.kind=3:=by
      have v8':=v8;unfold cF at v8'
      by_cases q2:c.kind=2
      ·exact .inl q2
      ·by_cases q3:c.kind=3
       ·exact .inr q3
       ·exfalso;rw [if_neg hk,if_neg k1,if_neg q2,if_neg q3,if_neg k4,if_neg k5] at v8';cases v8'
     unfold shK;rcases this with e | e<;>rw [e]<;>rfl
    rw [if_pos hsh];congr 2;omega
def frE (p:ProjR) (x:ClipR):ExprR:=if x.kind=0 then hZ else mQ eM (kU p (nY eM p 4)) x 0
def aM3 (p:ProjR) (l:List ClipR) (i:Int):ExprR:=if i<0 then hZ else match l[i.toNat]? with
 | some x=>frE p x
 | none=>hZ
theorem hit_fr {t:List ClipR} (hv:∀ c∈t,aN c=true) {a:Int} (h0 : 0≤a) :
  (∃ c o,c∈t∧0≤o∧o<c.len∧o≤a∧(fr t)[a.toNat]? = some (one c o)∧Az t a=if c.kind=0 then none else some (c,o))∨((fr t)[a.toNat]? = none∧Az t a=none):=by
 have hl:∀ c∈t,1≤c.len:=fun c hc=>(aL (hv c hc)).1
 rcases findL_fr t 0 a hv h0 with ⟨g1,j,o,g2,g3,g4,g5,g6,g7⟩ | ⟨g1,g2⟩
 ·refine .inl ⟨t.getD j default,o,aP g3,g4,g5,g6,?_,?_⟩
  ·have e:(fr t)[a.toNat]? = ((fr t).drop a.toNat)[0]? := by rw [List.getElem?_drop];rfl
   rw [e, ← g7,fX];obtain ⟨r,hr⟩:∃ r,((t.getD j default).len - o).toNat=r+1:=⟨((t.getD j default).len - o).toNat - 1,by omega⟩
   have e2:frC (cV (t.getD j default) o)=one (cV (t.getD j default) o) 0::(List.range r).map fun k:Nat=>one (cV (t.getD j default) o) ((k+1:Nat):Int):=by
    unfold frC;show (List.range ((t.getD j default).len - o).toNat).map _=_
    rw [hr,List.range_succ_eq_map,List.map_cons,List.map_map];rfl
   rw [e2,Yu (hv _ (aP g3)),Int.add_zero];rfl
  ·unfold Az;rw [g2];have e3:((0+j:Nat):Int).toNat=j:=by omega
   simp only [e3]
   by_cases hk:(t.getD j default).kind=0
   ·rw [if_pos hk,if_neg (fun h=>h.2.2 hk)]
   ·rw [if_neg hk,if_pos ⟨h0,trivial,hk⟩]
 ·refine .inr ⟨?_,?_⟩
  ·have:=wW hl;exact List.getElem?_eq_none (by omega)
  ·unfold Az;rw [if_neg (fun h=>by rw [g1] at h;cases h.2.1)]
theorem trk_fr {p:ProjR} {m:Int} (hm:m≤2147483648) {t:List ClipR} (hg:∀ c∈t,Gd m c∧c.len≤m+1) (i:Int):aNk p [t] i=aM3 p (fr t) i:=by
 unfold aNk aM3;show Bc _ _ (uX i [t])=_
 by_cases hi:i<0
 ·rw [if_pos hi];have:uX i [t]=none:=by
   show (match Az t i with | some r=>some r | none=>none)=none
   unfold Az;rw [if_neg (fun h=>absurd h.1 (by omega))]
  rw [this];rfl
 ·rw [if_neg hi];have ht:uX i [t]=Az t i:=by
   show (match Az t i with | some r=>some r | none=>none)=_
   cases Az t i<;>rfl
  rw [ht];rcases hit_fr (fun c hc=>(hg c hc).1.ok) (Int.not_lt.1 hi) with ⟨c,o,h1,h2,h3,h4,h5,h6⟩ | ⟨h5,h6⟩
  ·rw [h5,h6];unfold frE;have hk:(one c o).kind=c.kind:=rfl
   by_cases hz:c.kind=0
   ·simp only [hk];rw [if_pos hz,if_pos hz];rfl
   ·simp only [hk];rw [if_neg hz,if_neg hz];have:=(hg c h1).2;exact (aS9 eM _ (aLt p _) (hg c h1).1 h2 (by omega) hm hz).symm
  ·rw [h5,h6];rfl
open Go.RowKit
set_option maxRecDepth 4000
structure CliP (p:ProjR) (c:ClipR):Prop where
 sil:mZ c=true
 a:SrcP p c.a
 b:SrcP p c.b
theorem zS {p:ProjR} {s:SourceR} (h:s.kind=0):SrcP p s:=⟨fun h1=>absurd h1 (by omega),fun h1=>absurd h1 (by omega)⟩
theorem vX {p:ProjR} {s:SourceR} (h:SrcP p s) (k:Int):SrcP p (aR s k):=by
 unfold aR;split
 ·exact h
 ·exact ⟨h.m1,h.s2⟩
theorem Rz {p:ProjR} {c:ClipR} (h:CliP p c) (k:Int):CliP p (cV c k):=⟨h.sil,vX h.a k,vX h.b k⟩
theorem aDk {p:ProjR} {c:ClipR} (h:CliP p c) (n:Int):CliP p { c with len:=n }:=⟨h.sil,h.a,h.b⟩
theorem Ry (p:ProjR) (n:Int):CliP p (mA n):=⟨rfl,zS rfl,zS rfl⟩
theorem aSa (p:ProjR):CliP p default:=⟨rfl,zS rfl,zS rfl⟩
theorem aJf {p:ProjR}:∀ (E:List ClipR) (n:Int),(∀ c∈E,CliP p c) → ∀ d∈(nT E n).1,CliP p d
 | [],_,_,d,hd=>by cases hd
 | c::l,n,h,d,hd=>by
  unfold nT at hd;split at hd
  ·cases hd
  ·rcases List.mem_cons.1 hd with rfl | hd
   ·exact aDk (h c (by simp)) _
   ·exact aJf l _ (fun x hx=>h x (by simp [hx])) d hd
theorem Wm {p:ProjR} {r:List ClipR×Int} (h:∀ c∈r.1,CliP p c):∀ d∈fH r,CliP p d:=by
 intro d hd;unfold fH at hd;split at hd
 ·rcases List.mem_append.1 hd with hd | hd
  ·exact h d hd
  ·rw [List.mem_singleton.1 hd];exact Ry p _
 ·exact h d hd
theorem cut_cl {p:ProjR} {t:List ClipR} (h:∀ c∈t,CliP p c) (a n:Int):∀ d∈cW t a n,CliP p d:=by
 unfold cW;split
 ·refine Wm (aJf _ _ fun c hc=>?_);unfold advD at hc;have hD:∀ x∈t.drop (dZ t 0 a).1.toNat,CliP p x:=fun x hx=>h x (List.mem_of_mem_drop hx)
  generalize t.drop (dZ t 0 a).1.toNat=D at hc hD;rcases List.mem_cons.1 hc with rfl | hc
  ·refine Rz ?_ _;cases D with
   | nil=>exact aSa p
   | cons x D=>exact hD x (by simp)
  ·exact hD c (List.mem_of_mem_drop hc)
 ·exact Wm fun c hc=>(by cases hc)
theorem aF1 {p:ProjR}:∀ (l:List ClipR) (c:ClipR),CliP p c→(∀ d∈l,CliP p d) → ∀ d∈pkA c l,CliP p d
 | [],c,hc,_,d,hd=>by
  rw [List.mem_singleton.1 hd];exact hc
 | q::l,c,hc,hl,d,hd=>by
  rw [pkA] at hd;split at hd
  ·exact aF1 l _ (aDk hc _) (fun x hx=>hl x (by simp [hx])) d hd
  ·rcases List.mem_cons.1 hd with rfl | hd
   ·exact hc
   ·exact aF1 l q (hl q (by simp)) (fun x hx=>hl x (by simp [hx])) d hd
theorem pk_cl {p:ProjR} {l:List ClipR} (h:∀ d∈l,CliP p d):∀ d∈pk l,CliP p d:=by
 cases l with
 | nil=>intro d hd;cases hd
 | cons c l=>exact aF1 l c (h c (by simp)) fun d hd=>h d (by simp [hd])
theorem trkP_cl {p:ProjR} {t:List ClipR} (h:TrkP p t):∀ c∈t,CliP p c:=fun c hc=>⟨(h.cl c hc).2.1,(h.cl c hc).2.2.1,(h.cl c hc).2.2.2⟩
theorem trkP_mk {p:ProjR} {t:List ClipR} (h1:bB t=true) (h2:∀ c∈t,c.fit) (h3:∀ c∈t,CliP p c):TrkP p t:=⟨h1,fun c hc=>⟨h2 c hc,(h3 c hc).sil,(h3 c hc).a,(h3 c hc).b⟩⟩
theorem frE_gap (p:ProjR):frE p (mA 1)=hZ:=rfl
open Go.RowKit
set_option maxRecDepth 4000
theorem Dd {p:ProjR} {m:Int} {t F:List ClipR} (h:CutOk m t F) (ht:TrkP p t) (hl:t.length≤60) {a n:Int} (ha : 0≤a) (ham:a≤m) (hn : 0≤n) (hn2:n≤1000):CutOk (m - a) (pk (cW t a n)) (tE F a.toNat n.toNat)∧(pk (cW t a n)).length≤t.length+1 ∧ ∀ c∈pk (cW t a n),CliP p c:=by
 obtain ⟨h1,h2⟩:=fJ h hl ha ham hn hn2;refine ⟨Rq h1,?_,pk_cl (cut_cl (trkP_cl ht) a n)⟩;have:=eT (cW t a n);omega
open Go.RowKit
set_option maxRecDepth 4000
def aTv (G:List ClipR):Prop := ∀ x∈G,x.kind=0
theorem aRy {c:ClipR} (h:c.kind=0):aTv (frC c):=fun x hx=>by
 unfold frC at hx;obtain ⟨k,_,rfl⟩:=List.mem_map.1 hx;exact h
theorem aSc (o:List ClipR):∃ G,aTv G∧fr o=fr (jU o)++G:=by
 cases hg:nL o with
 | false=>exact ⟨[],fun x hx=>(by cases hx),by rw [aSb hg,List.append_nil]⟩
 | true =>
  have e:jU o=o.take (o.length - 1):=by unfold jU;rw [if_pos hg]
  rw [e];rcases List.eq_nil_or_concat o with rfl | ⟨i,c,rfl⟩
  ·exact ⟨[],fun x hx=>(by cases hx),rfl⟩
  ·rw [List.concat_eq_append] at *;rw [Zu] at hg;have e2:(i ++ [c]).take ((i ++ [c]).length - 1)=i:=by simp
   rw [e2,mP];refine ⟨fr [c],?_,rfl⟩;show aTv (frC c ++ [])
   rw [List.append_nil];exact aRy (by simpa using hg)
def Zv (p:ProjR) (F:List ClipR) (n:Nat):List ExprR:=(List.range n).map fun k:Nat=>aM3 p F k
theorem frsE_at (p:ProjR) (F:List ClipR) (k:Nat):aM3 p F (k:Int)=match F[k]? with
  | some x=>frE p x
  | none=>hZ:=by
 unfold aM3;rw [if_neg (by omega),Int.toNat_natCast]
 all_goals (cases F[k]? <;> rfl)
open Go.RowKit
set_option maxRecDepth 4000
theorem trkL_fr {p:ProjR} {m:Int} (hm:m≤2147483648) {t:List ClipR} (hg:∀ c∈t,Gd m c∧c.len≤m+1) (n:Nat):Fg p [t] n=Zv p (fr t) n:=by
 unfold Fg Zv;exact List.map_congr_left fun k _=>trk_fr hm hg k
def gB (N:List ClipR) (a:Int):List ClipR:=if a<totL N then pk (cW N a (totL N - a)) else []
def kV (n:Int):List ClipR:=if n≤0 then [] else [mA n]
def cY (N:List ClipR) (a:Int) (C:List ClipR) (r:Int):List ClipR:=pk (cW N 0 (min a (totL N)))++kV (a - totL N)++C++gB N r
def kB (l:List ClipR):List ClipR:=jU (pk l)
theorem aJ8 (n:Int):fr (kV n)=List.replicate n.toNat (mA 1):=by
 unfold kV;split
 ·rename_i h;have:n.toNat=0:=by omega
  rw [this];rfl
 ·show frC (mA n) ++ []=_
  rw [List.append_nil,Zz]
theorem aRc {m:Int} {N F:List ClipR} (h:CutOk m N F) (hl:N.length≤60) (hF:F.length≤1000) {a:Int} (ha : 0≤a) (ham:a≤m):fr (gB N a)=F.drop a.toNat:=by
 unfold gB;have ht:=h.tot;split
 ·rename_i hlt;obtain ⟨k1,k2⟩:=fJ h hl ha ham (n:=totL N - a) (by omega) (by omega);rw [(Rq k1).fr];have e:(totL N - a).toNat=F.length - a.toNat:=by omega
  rw [e];unfold tE;have e2:(F.drop a.toNat).take (F.length - a.toNat)=F.drop a.toNat:=List.take_of_length_le (by rw [List.length_drop];exact Nat.le_refl _);rw [e2,List.length_drop,Nat.sub_self];simp
 ·rename_i hge;rw [List.drop_of_length_le (by omega)];rfl
theorem aRd {m:Int} {N F:List ClipR} (h:CutOk m N F) (hl:N.length≤60) (hF:F.length≤1000) {a r:Int} (ha : 0≤a) (hr : 0≤r) (hrm:r≤m) (hm : 0≤m) (C:List ClipR):fr (cY N a C r)=tE F 0 a.toNat++fr C++F.drop r.toNat:=by
 have ht:=h.tot;obtain ⟨k1,k2⟩:=fJ h hl (a:=0) (n:=min a (totL N)) (by omega) hm (by omega) (by omega);unfold cY;rw [mP,mP,mP,(Rq k1).fr,aJ8,aRc h hl hF hr hrm];congr 2;unfold tE;show _++_++_=_
 rw [Int.toNat_zero,List.drop_zero];rcases Nat.lt_or_ge F.length a.toNat with h1 | h1
 ·have e1:(min a (totL N)).toNat=F.length:=by omega
  have e2:(a - totL N).toNat=a.toNat - F.length:=by omega
  rw [e1,e2,List.take_length,Nat.sub_self,List.take_of_length_le (by omega)];simp
 ·have e1:(min a (totL N)).toNat=a.toNat:=by omega
  have e2:(a - totL N).toNat=0:=by omega
  have e3:a.toNat - (F.take a.toNat).length=0:=by rw [List.length_take];omega
  rw [e1,e2,e3];simp
theorem fr_nrmE {l:List ClipR} (hv:∀ c∈l,aN c=true) (ht:totL l≤2147483647):∃ G,aTv G∧fr l=fr (kB l)++G:=by
 obtain ⟨G,hG,e⟩:=aSc (pk l);exact ⟨G,hG,by rw [← fr_pk hv ht];exact e⟩
open Go.RowKit
set_option maxRecDepth 4000
theorem Sb {o:List ClipR} {c:ClipR} (h:c∈jU o):c∈o:=by
 obtain ⟨k,e,_⟩:=yY o;rw [e] at h;exact List.mem_of_mem_take h
theorem aFz (o:List ClipR):(jU o).length≤o.length:=by
 obtain ⟨k,e,_⟩:=yY o;rw [e,List.length_take];omega
theorem aCg {n:Int} {c:ClipR} (h:c∈kV n) : 1≤n∧c=mA n:=by
 unfold kV at h;split at h
 ·cases h
 ·exact ⟨by omega,List.mem_singleton.1 h⟩
theorem sT (n:Int):(kV n).length≤1:=by
 unfold kV;split<;>simp
structure Parts (p:ProjR) (X:List ClipR):Prop where
 gd:∀ c∈X,Gd 600 c
 cl:∀ c∈X,CliP p c
 len:X.length≤60
 tot:(fr X).length≤600
theorem Parts.totL {p:ProjR} {X:List ClipR} (h:Parts p X):totL X≤600:=by
 have:=wW (l:=X) fun c hc=>(aL (h.gd c hc).ok).1
 have:=h.tot;omega
theorem uC (t:List ClipR) (h:Trk t):aK Tryz.prog 105 [.t (aM t)] (aA (totL t)):=by
 obtain ⟨h200,hv,htot⟩:=Ff h;refine aG Tryz.X105 Tryz.func105 rfl Tryz.ntmps105 (by rw [Tryz.results105]) (aC _ ?_);simp only [go_sem,simprocAttr];refine aJ (fun (k:Nat) σ => dW 3 (aA (totL (t.take k))) (dW 8 (aA k) σ)) (fun k=>k≤t.length) (fun k=>t.length - k) 0 (aE ?_) (Nat.zero_le _) ?_
 ·simp only [go_sem,simprocAttr]<;>simp [totL]
 ·rintro k hk;have hr:=zK h hk;refine aC _ ?_;simp only [go_sem,simprocAttr];refine ⟨fun hlt=>?_,fun hge=>?_⟩
  ·simp only [bxx] at hlt;have hkl:k<t.length:=by omega
   have hl:=aL (hv k hkl);unfold awS;simp only [go_sem,simprocAttr];refine ⟨⟨by omega,by omega⟩,k+1,aE ?_,by omega,by omega⟩;simp only [go_sem,simprocAttr];rw [wrap64 (x:=totL (t.take k)+(t.getD k default).len) (by omega) (by omega),dU t k hkl];simp [dC (show k<9223372036854775807 by omega)]
  ·simp only [bxx] at hge;unfold awS;simp only [go_sem,simprocAttr];rw [List.take_of_length_le (by omega)]
theorem aSv (n:Int):aK Tryz.prog 109 [aA n] (.t (aM (kV n))):=by
 refine eD Tryz.X109 Tryz.func109 rfl Tryz.ntmps109 (by rw [Tryz.results109]) (aC _ ?_);simp only [go_sem,simprocAttr];refine brW (b:=decide (n≤0)) ?_ ⟨fun h0=>?_,fun h0=>?_⟩
 ·rfl
 ·unfold awS;simp only [go_sem,simprocAttr];have e:kV n = []:=by unfold kV;rw [if_pos (by simpa using h0)]
  rw [e];exact ⟨rfl,aK3⟩
 ·unfold awS;simp only [go_sem,simprocAttr];have e:kV n = [mA n]:=by unfold kV;rw [if_neg (by simpa using h0)]
  rw [e];refine ⟨by simp only [go_sem,simprocAttr],?_⟩;simp only [go_sem,simprocAttr];exact Eu (zV (xs:=[]) (aFm n))
theorem aJq {m:Int} {N F:List ClipR} (h:CutOk m N F) (hl:N.length≤60) (hF:F.length≤1000) (a:Int) (ha : 0≤a) (ham:a≤m) (hm:m≤1000) (hlm:totL N≤m) :
  aK Tryz.prog 107 [.t (aM N),aA a] (vte (gB N a,0)):=by
 have hT:Trk N:=uG (by omega) (cZ h.tr).2.1 (cZ h.tr).2.2;refine eD Tryz.X107 Tryz.func107 rfl Tryz.ntmps107 (by rw [Tryz.results107]) (aC _ ?_);simp only [go_sem,simprocAttr];refine ⟨_,uC N hT,?_⟩;simp only [go_sem,simprocAttr];refine brW (b:=decide (a<totL N)) ?_ ⟨fun hlt=>?_,fun hlt=>?_⟩
 ·rfl
 ·have hlt:a<totL N:=by simpa using hlt
  unfold awS;simp only [go_sem,simprocAttr];refine dT (Bs h hl hF a (totL N) ha ham hm (by omega) (by omega) hlm) rfl ?_;simp only [go_sem,simprocAttr];have e:gB N a=pk (cW N a (totL N - a)):=by unfold gB;rw [if_pos hlt]
  rw [e];exact bJ rfl rfl
 ·have hlt : ¬ a<totL N:=by simpa using hlt
  unfold awS;simp only [go_sem,simprocAttr];have e:gB N a = []:=by unfold gB;rw [if_neg hlt]
  rw [e];exact ⟨rfl,Av ⟨aK3,dN,trivial⟩⟩
theorem zD (n low:Int):aK Tryz.prog 101 [aA n,aA low] (aX (decide (low≤n)&&decide (n≤2147483647))):=by
 refine aG Tryz.X101 Tryz.func101 rfl Tryz.ntmps101 (by rw [Tryz.results101]) (aC _ ?_);simp only [go_sem,simprocAttr]
theorem Jw (C:List ClipR) (hf:∀ c∈C,c.fit):aK Tryz.prog 102 [.t (aM C)] (aX (decide ((C.length:Int) > 0)&&bB C)):=by
 refine aG Tryz.X102 Tryz.func102 rfl Tryz.ntmps102 (by rw [Tryz.results102]) (aC _ ?_);simp only [go_sem,simprocAttr];refine ⟨_,fun _=>kX C hf,?_⟩;simp only [go_sem,simprocAttr]
theorem eqR0:EqV Tryz.prog 30 [aA 0,aA 0] [aA 0,aA 0] true:=by
 have h:=aJb ⟨0,0⟩ ⟨0,0⟩;have e:RatR.eqb ⟨0,0⟩ ⟨0,0⟩=true:=rfl;rw [e] at h;exact h
abbrev kG (k a l:Int) (cs:T):V := .agg [aA k,aA a,aA l,aA 0,aA 0,aA 0,aA 0, .t cs]
theorem Sr (k a:Int) (C:List ClipR) (hk:k=1∨k=3) (hf:∀ c∈C,c.fit) (h0 : 0≤a) (h1:a≤2147483647) (hC : 0<C.length) (hv:bB C=true):aK Tryz.prog 46 [kG k a 0 (aM C)] (aX true):=by
 have e1:(decide ((0:Int)≤a)&&decide (a≤2147483647))=true:=by rw [decide_eq_true h0,decide_eq_true h1];rfl
 have e2:(decide ((C.length:Int) > 0)&&bB C)=true:=by rw [decide_eq_true (by omega),hv];rfl
 have c1:=zD a 0;have c2:=Jw C hf;rw [e1] at c1;rw [e2] at c2;rcases hk with rfl | rfl
 all_goals
  refine aG Tryz.X46 Tryz.func46 rfl Tryz.ntmps46 (by rw [Tryz.results46]) (aC _ ?_);simp only [go_sem,simprocAttr,dtf];refine ⟨true,eqR0,_,c1,?_⟩;simp only [go_sem,simprocAttr,dtf];refine ⟨_,c2,?_⟩;simp only [go_sem,simprocAttr,dtf]
theorem Sq (k a l:Int) (hk:k=2∨k=4) (h0 : 0≤a) (h1:a≤2147483647) (h2 : 1≤l) (h3:l≤2147483647):aK Tryz.prog 46 [kG k a l (.lit (.slice none 0 0))] (aX true):=by
 have e1:(decide ((0:Int)≤a)&&decide (a≤2147483647))=true:=by rw [decide_eq_true h0,decide_eq_true h1];rfl
 have e2:(decide ((1:Int)≤l)&&decide (l≤2147483647))=true:=by rw [decide_eq_true h2,decide_eq_true h3];rfl
 have c1:=zD a 0;have c2:=zD l 1;rw [e1] at c1;rw [e2] at c2;rcases hk with rfl | rfl
 all_goals
  refine aG Tryz.X46 Tryz.func46 rfl Tryz.ntmps46 (by rw [Tryz.results46]) (aC _ ?_);simp only [go_sem,simprocAttr,dtf];refine ⟨true,eqR0,_,c1,?_⟩;simp only [go_sem,simprocAttr,dtf];refine ⟨_,c2,?_⟩;simp only [go_sem,simprocAttr,dtf]
open Go.RowKit
set_option maxRecDepth 4000
theorem aPz {c q:ClipR} (hv:bB [c,q]=true) (hf:∀ d ∈ [c,q],d.fit):sD [c,q]=if eL c q=true then [{ c with len:=c.len+q.len }] else [c,q]:=by
 unfold sD;rw [if_pos hv,Ny hv hf];show pkA c [q]=_
 rw [pkA];split<;>rfl
structure NrmI (l:List ClipR) (k:Nat) (O:List ClipR):Prop where
 kl:k≤l.length
 len:O.length≤k
 ok:∀ c∈O,aN c=true∧c.fit
 tot:totL O=totL (l.take k)
 z:k=0→O = []
 s : 0<k → ∃ i c,O=i ++ [c]∧i++pkA c (l.drop k)=pk l
theorem aLh (l:List ClipR):NrmI l 0 []:=⟨Nat.zero_le _,Nat.le_refl _,fun c hc=>(by cases hc),rfl,fun _=>rfl,fun h=>absurd h (by omega)⟩
theorem aC7 {l:List ClipR} (h:Trk l) (hf:∀ c∈l,c.fit) {k:Nat} {O:List ClipR} (hI:NrmI l k O) (hk:k<l.length) (hno:∀ i c,O=i ++ [c]→eL c (l.getD k default)=false):NrmI l (k+1) (O ++ [l.getD k default]):=by
 have hm:=aP (d:=default) hk;refine ⟨hk,by have:=hI.len;rw [List.length_append];simp only [List.length_cons,List.length_nil];omega,fun c hc=>?_,?_,fun h=>absurd h (by omega),fun _=>⟨O,_,rfl,?_⟩⟩
 ·rcases List.mem_append.1 hc with hc | hc
  ·exact hI.ok c hc
  ·rw [List.mem_singleton.1 hc];exact ⟨h.ok k hk,hf _ hm⟩
 ·rw [gQ,mW,dU l k hk,hI.tot]
 ·rcases Nat.eq_zero_or_pos k with h0 | h0
  ·subst h0;rw [hI.z rfl];cases l with
   | nil=>simp at hk
   | cons c l=>rfl
  ·obtain ⟨i,c,e1,e2⟩:=hI.s h0;have:=hno i c e1;rw [gX hk,pkA,if_neg (by rw [this];decide)] at e2;rw [e1,List.append_assoc];exact e2
theorem aLj {l:List ClipR} (h:Trk l) (hf:∀ c∈l,c.fit) {k:Nat} {i:List ClipR} {c:ClipR} (hI:NrmI l k (i ++ [c])) (hk:k<l.length) (hc:eL c (l.getD k default)=true):NrmI l (k+1) (i ++ [{ c with len:=c.len+(l.getD k default).len }]):=by
 have hq:=aL (h.ok k hk);obtain ⟨c1,c2⟩:=hI.ok c (by simp);have hcl:=aL c1;have hlen:=hI.len;rw [List.length_append] at hlen;simp only [List.length_cons,List.length_nil] at hlen;have htot:=hI.tot;rw [gQ,mW] at htot;have hr:=zK h (k:=k+1) (by omega);rw [dU l k hk] at hr;have hi0:=cL i fun d hd=>(aL (hI.ok d (by simp [hd])).1).1
 refine ⟨hk,by rw [List.length_append];simp only [List.length_cons,List.length_nil];omega,fun d hd=>?_,?_,fun h=>absurd h (by omega),fun _=>⟨i,_,rfl,?_⟩⟩
 ·rcases List.mem_append.1 hd with hd | hd
  ·exact hI.ok d (by simp [hd])
  ·rw [List.mem_singleton.1 hd];exact ⟨Zg c1 (h.ok k hk) hc (by omega),aA0 c2 (by omega) (by omega)⟩
 ·rw [gQ,mW,dU l k hk];simp only;omega
 ·obtain ⟨i',c',e1,e2⟩:=hI.s (by omega);obtain ⟨e3,e4⟩:=List.append_inj' e1 rfl;injection e4 with e4 _;subst e3 e4;rw [gX hk,pkA,if_pos hc] at e2;exact e2
theorem aQa {l:List ClipR} (h:Trk l) (hf:∀ c∈l,c.fit) {k:Nat} {i:List ClipR} {c:ClipR} (hI:NrmI l k (i ++ [c])) (hk:k<l.length):bB [c,l.getD k default]=true ∧ ∀ d ∈ [c,l.getD k default],d.fit:=by
 obtain ⟨c1,c2⟩:=hI.ok c (by simp);have hm:=aP (d:=default) hk;have htot:=hI.tot;rw [gQ,mW] at htot;have hr:=zK h (k:=k+1) (by omega);rw [dU l k hk] at hr;have hi0:=cL i fun d hd=>(aL (hI.ok d (by simp [hd])).1).1
 refine ⟨zJ (by simp) (fun d hd=>?_) (by simp only [totL];omega),fun d hd=>?_⟩
 ·simp only [List.mem_cons,List.not_mem_nil,or_false] at hd;rcases hd with rfl | rfl
  ·exact c1
  ·exact h.ok k hk
 ·simp only [List.mem_cons,List.not_mem_nil,or_false] at hd;rcases hd with rfl | rfl
  ·exact c2
  ·exact hf _ hm
theorem aQb {l O:List ClipR} (hI:NrmI l l.length O):O=pk l:=by
 rcases Nat.eq_zero_or_pos l.length with h0 | h0
 ·have:l = []:=List.length_eq_zero_iff.1 h0;subst this;rw [hI.z rfl];rfl
 ·obtain ⟨i,c,e1,e2⟩:=hI.s h0;rw [List.drop_length] at e2;rw [e1, ← e2];rfl
set_option maxHeartbeats 1000000 in
theorem zF (l:List ClipR) (hv:Trk l) (hfit:∀ c∈l,c.fit):aK Tryz.prog 50 [.t (aM l)] (.t (aM (kB l))):=by
 obtain ⟨h200,hi,htot⟩:=Ff hv;refine aG Tryz.X50 Tryz.func50 rfl Tryz.ntmps50 (by rw [Tryz.results50]) (aC _ ?_);simp only [go_sem,simprocAttr];refine Au [0] ?_;refine aJ (fun (x:Nat×List ClipR) σ => { fr:=(σ.fr.set 3 (.own 0)).set 11 (aA x.1),h:=[(0,tB x.2)],nx:=1 }) (fun x=>NrmI l x.1 x.2) (fun x=>l.length - x.1) (0,[]) (aT [(0,none)] ?_) (aLh l) ?_
 ·simp only [go_sem,simprocAttr]
 ·rintro ⟨k,O⟩ hI;simp only at hI;have hkl:=hI.kl;have hOl:=hI.len;refine aC _ ?_;simp only [go_sem,simprocAttr];refine ⟨fun hlt=>?_,fun hge=>?_⟩
  ·simp only [bxx] at hlt;have hk:k<l.length:=by omega
   obtain ⟨q,hq⟩:∃ q,q=l.getD k default:=⟨_,rfl⟩
   have hch:q.chan.length≤65536:=by rw [hq];exact (Kq (hfit _ (aP hk)) (hi k hk)).chan
   have wk:IntKind.i64.wrap ((k:Int)+1)=((k+1:Nat):Int):=by rw [dC (show k<9223372036854775807 by omega)];omega
   unfold awS;simp only [go_sem,simprocAttr];rw [← hq];refine ⟨⟨by omega,by omega⟩,?_⟩;refine brW (b:=decide (0<k)) ?_ ⟨fun hk0=>?_,fun hk0=>?_⟩
   ·rcases Nat.eq_zero_or_pos k with h0 | h0
    ·subst h0;rw [hI.z rfl];rfl
    ·obtain ⟨i,c,e,_⟩:=hI.s h0;rw [e,decide_eq_true h0,List.length_append,decide_eq_true];simp only [List.length_cons,List.length_nil];omega
   ·have hk0 : 0<k:=by simpa using hk0
    obtain ⟨i,c,e,_⟩:=hI.s hk0;subst e;have hil:i.length+1≤k:=by simpa using hOl
    obtain ⟨p1,p2⟩:=aQa hv hfit hI hk;rw [← hq] at p1 p2;have hP:=cPack [c,q] p2;rw [aPz p1 p2] at hP;have hL:(i ++ [c]).length=i.length+1:=by simp
    have w3:IntKind.i64.wrap (((i.length+1:Nat):Int) - 1)=(i.length:Int):=by rw [wrap64 (by omega) (by omega)];omega
    have hcc:eL c q=eL c q:=rfl;cases hcc:eL c q with
    | true =>
     have hJ:=aLj hv hfit hI hk (by rw [← hq];exact hcc);rw [← hq] at hJ;rw [hcc,if_pos rfl] at hP;obtain ⟨J,hJe⟩:∃ J,J = [{ c with len:=c.len+q.len }]:=⟨_,rfl⟩
     rw [← hJe] at hP;have hJl:J.length=1:=by rw [hJe];rfl
     have hJ0:J.getD 0 default = { c with len:=c.len+q.len }:=by rw [hJe];rfl
     unfold awS;simp only [go_sem,simprocAttr];refine aDc [6] 9 .done rfl (by kernel_rfl) (by kernel_rfl) (by decide) ?_;simp only [go_sem,simprocAttr,hL,w3,pM];refine ⟨⟨by omega,by omega⟩,by omega,_,sX (.cons (Eu (show Cw [ClipR.c c,ClipR.c q] [ClipR.c c,ClipR.c q] from ⟨pN _,pN _,trivial⟩)) .nil) hP,?_⟩;simp only [go_sem,simprocAttr,hJl,hJ0,hL,w3,pM,Lx];refine ⟨by kernel_rfl,⟨by omega,by omega⟩,by omega,(k+1,_),aT [(0,some 0)] ?_,hJ,by simp only;omega⟩;simp only [go_sem,simprocAttr,wk];simp;rfl
    | false =>
     have hA:=aC7 hv hfit hI hk (fun i' c' e'=>by
      obtain ⟨_,e4⟩:=List.append_inj' e' rfl;injection e4 with e4 _;rw [← e4, ← hq];exact hcc)
     rw [← hq] at hA;rw [hcc,if_neg (by decide)] at hP;obtain ⟨J,hJe⟩:∃ J,J = [c,q]:=⟨_,rfl⟩
     have hP':aK Tryz.prog 104 [.t (aM [c,q])] (.t (aM J)):=by rw [hJe];exact hP
     have hJl:J.length=2:=by rw [hJe];rfl
     unfold awS;simp only [go_sem,simprocAttr];refine aDc [6] 9 .done rfl (by kernel_rfl) (by kernel_rfl) (by decide) ?_;simp only [go_sem,simprocAttr,hL,w3,pM];refine ⟨⟨by omega,by omega⟩,by omega,_,sX (.cons (Eu (show Cw [ClipR.c c,ClipR.c q] [ClipR.c c,ClipR.c q] from ⟨pN _,pN _,trivial⟩)) .nil) hP',?_⟩;simp only [go_sem,simprocAttr,hJl,hL,w3,pM];refine ⟨by kernel_rfl,?_⟩;refine ⟨_,aG8 q.chan hch,?_⟩;simp only [go_sem,simprocAttr,hL];refine ⟨⟨by unfold maxLen;omega,by omega⟩,(k+1,_),aT [(0,some 12)] ?_,hA,by simp only;omega⟩;simp only [go_sem,simprocAttr,wk];simp;rfl
   ·have hk0:k=0:=by simpa using hk0
    subst hk0;have hO:=hI.z rfl;subst hO;have hA:=aC7 hv hfit hI hk (fun i c e=>absurd e (by simp));rw [← hq] at hA;unfold awS;simp only [go_sem,simprocAttr];refine ⟨_,aG8 q.chan hch,?_⟩;simp only [go_sem,simprocAttr];refine ⟨by decide,(0+1,[] ++ [q]),aT [(0,some 3)] ?_,hA,by simp only;omega⟩;simp only [go_sem,simprocAttr];exact ⟨⟨by simp,rfl⟩,by rw [show IntKind.i64.wrap 1=1 from by decide]⟩
  ·simp only [bxx] at hge;have:k=l.length:=by omega
   subst this;have hO:=aQb hI;have h64:O.length≤200:=by omega
   have e:kB l=jU O:=by unfold kB;rw [hO]
   rw [e];have w1:IntKind.i64.wrap ((O.length:Int) - 1)=(O.length:Int) - 1:=wrap64 (by omega) (by omega);have w2:((O.length:Int) - 1).toNat=O.length - 1:=by omega
   unfold awS;simp only [go_sem,simprocAttr,w1,w2];refine ⟨fun h=>?_,?_⟩
   ·simp only [bxx] at h;omega
   refine brW (b:=nL O) ?_ ⟨fun hb=>?_,fun hb=>?_⟩
   ·unfold nL;have:decide ((O.length:Int) > 0)=decide (0<O.length):=by rw [Bool.eq_iff_iff];simp only [bxx];omega
    rw [this]
   ·have hb2:=hb;unfold nL at hb2;simp only [Bool.and_eq_true,decide_eq_true_eq] at hb2;unfold awS;simp only [go_sem,simprocAttr,w1,w2];refine ⟨⟨by omega,by omega⟩,?_⟩;unfold jU;rw [if_pos hb, ← List.map_take]
   ·unfold awS;simp only [go_sem,simprocAttr];unfold jU;rw [hb];rfl
open Go.RowKit
set_option maxRecDepth 4000
theorem Ma {C:List ClipR} (h:Trk C) (h0 : 0<C.length) : 1≤totL C:=by
 cases C with
 | nil=>simp at h0
 | cons c l =>
  have h1:∀ d∈c::l,1≤d.len:=fun d hd=>by
   have:=Md (t:=c::l) (Nat.le_refl _) (fun i hi=>h.ok i hi) d (by rw [List.take_length];exact hd);exact this.1
  have h2:=h1 c (by simp);have h3:=cL l fun d hd=>h1 d (by simp [hd])
  simp only [totL];omega
theorem cExch1 {N F:List ClipR} (h:CutOk 1000 N F) (hl:N.length≤60) (hF:F.length≤500) (a:Int) (ha : 0≤a) (ha1:a≤300) (C:List ClipR) (hC:Trk C) (hC0 : 0<C.length) (hCt:totL C≤400) :
  aK Tryz.prog 48 [.t (aM N),kG 1 a 0 (aM C)] (.tup [.t (aM (cY N a C (a+0))),kG 2 a (totL C) (.lit (.slice none 0 0)),aA 0]):=by
 have hL : 1≤totL C:=by
  have h1:=Ma hC hC0;omega
 have hL4:totL C≤400:=hCt;obtain ⟨L,hLe⟩:∃ L,L=totL C:=⟨_,rfl⟩
 have hCn:decide ((C.length:Int) > 0)=true:=decide_eq_true (by omega);have cTC:=uC C hC;rw [← hLe] at hL hL4 cTC ⊢;have htt:=h.tot;have hT:Trk N:=uG (by omega) (cZ h.tr).2.1 (cZ h.tr).2.2;have cTN:=uC N hT;have cB:=Bs h (by omega) (by omega) 0 (min a (totL N)) (by omega) (by omega) (by omega) (by omega) (by omega) (by omega);have cR:=Bs h (by omega) (by omega) a (a+0) ha (by omega) (by omega) (by omega) (by omega) (by omega);have cA:=aJq h (by omega) (by omega) (a+0) (by omega) (by omega) (by omega) (by omega);have lB:(pk (cW N 0 (min a (totL N)))).length≤61:=by
  have:=(fJ h (by omega) (a:=0) (n:=min a (totL N)) (by omega) (by omega) (by omega) (by omega)).2;have:=eT (cW N 0 (min a (totL N)));omega
 have lG:=sT (a - totL N);have eX:cY N a (C) (a+0)=pk (cW N 0 (min a (totL N)))++kV (a - totL N)++C++gB N (a+0):=rfl;rw [eX];have er:a+0 - a=0:=by omega
 rw [Int.sub_zero] at cB;rw [er] at cR;have lR:(gB N (a+0)).length≤61:=by
  unfold gB;split
  ·have:=(fJ h (by omega) (a:=a+0) (n:=totL N - (a+0)) (by omega) (by omega) (by omega) (by omega)).2;have:=eT (cW N (a+0) (totL N - (a+0)));omega
  ·simp
 generalize pk (cW N 0 (min a (totL N)))=B at *;generalize pk (cW N a 0)=R at *;generalize gB N (a+0)=A at *;have cG:=aSv (a - totL N);generalize kV (a - totL N)=G at *;have w1:IntKind.i64.wrap (a+L)=a+L:=wrap64 (by omega) (by omega);have w2:IntKind.i64.wrap (a+0)=a+0:=wrap64 (by omega) (by omega);have w3:IntKind.i64.wrap (max a (totL N)+L)=max a (totL N)+L:=wrap64 (by omega) (by omega);have w4:IntKind.i64.wrap (a - totL N)=a - totL N:=wrap64 (by omega) (by omega);have d1:decide (a+L > 2147483647)=false:=decide_eq_false (by omega);have d2:decide (max a (totL N)+L > 2147483647)=false:=decide_eq_false (by omega);have lC:C.length≤200:=hC.len;refine aG Tryz.X48 Tryz.func48 rfl Tryz.ntmps48 (by rw [Tryz.results48]) (aC _ ?_);simp only [go_sem,simprocAttr,dtf,w1,w2,w3,w4,d1,d2,hCn];refine ⟨_,cTC,?_⟩;simp only [go_sem,simprocAttr,dtf,w1,w2,w3,w4,d1,d2];refine bT [0,1,2,3,4,5,6,7] .done rfl (by kernel_rfl) (by kernel_rfl) (by decide) ?_;simp only [go_sem,simprocAttr,dtf,w1,w2,w3,w4,d1,d2];refine ⟨_,cTN,?_⟩;simp only [go_sem,simprocAttr,dtf,w1,w2,w3,w4,d1,d2];refine bT [0,1,2,3,4,5] (.step 6 (.step 7 (.alt (.step 8 (.alt (.step 9 (.step 10 (.step 11 .done))) (.step 10 (.step 9 (.step 11 .done))))) (.step 9 (.step 8 (.step 10 (.step 11 .done))))))) rfl (by kernel_rfl) (by kernel_rfl) (by decide) ?_;generalize hK:xV _ _ Exit.normal=K;simp only [go_sem,simprocAttr,dtf];refine ⟨_,cTN,?_⟩;simp only [go_sem,simprocAttr,dtf];refine dT cB rfl ?_;simp only [go_sem,simprocAttr,dtf];subst hK;simp only [go_sem,simprocAttr,dtf,w1,w2];refine dT cR rfl ?_;simp only [go_sem,simprocAttr,dtf,w1,w2];refine ⟨_,cA,?_⟩;simp only [go_sem,simprocAttr,dtf];refine vQ 7 [.op 7, .op 8, .op 9] rfl (by kernel_rfl) (by kernel_rfl) (by decide) ?_;simp only [go_sem,simprocAttr,dtf];refine ⟨_,cTN,?_⟩;simp only [go_sem,simprocAttr,dtf,w4];refine ⟨_,cG,?_⟩;simp only [go_sem,simprocAttr,dtf];refine ⟨by kernel_rfl,?_⟩;refine qP Tryz.X108 ?_;simp only [go_sem,simprocAttr,dtf];refine cQ (At [.lit (.slice none 0 0)] B G (by omega) (by omega)) [] rfl (by omega) (by decide) ?_ rfl rfl rfl rfl ?_
 ·simp only [go_sem,simprocAttr,dtf]
 simp only [go_sem,simprocAttr,dtf,List.getElem?_nil];refine ⟨⟨.inr (by simp only [go_sem,simprocAttr,dtf]),by rw [List.length_append];unfold maxLen;omega,by rw [List.length_append];omega⟩,?_⟩;refine aQ 7 .done rfl (by kernel_rfl) (by kernel_rfl) (by decide) ?_;simp only [go_sem,simprocAttr,dtf];refine ⟨⟨by simp only [List.length_append,List.length_map];unfold maxLen;omega,by simp only [List.length_append,List.length_map];omega⟩,by kernel_rfl,?_⟩;simp only [List.map_append,List.append_assoc,List.append_nil]
theorem cExch2 {N F:List ClipR} (h:CutOk 1000 N F) (hl:N.length≤60) (hF:F.length≤500) (a:Int) (ha : 0≤a) (ha1:a≤300) (L:Int) (hL : 1≤L) (hL4:L≤400) :
  aK Tryz.prog 48 [.t (aM N),kG 2 a L (.lit (.slice none 0 0))] (.tup [.t (aM (cY N a [] (a+(L)))),kG 1 a 0 (aM (pk (cW N a L))),aA 0]):=by
 have htt:=h.tot;have hT:Trk N:=uG (by omega) (cZ h.tr).2.1 (cZ h.tr).2.2;have cTN:=uC N hT;have cB:=Bs h (by omega) (by omega) 0 (min a (totL N)) (by omega) (by omega) (by omega) (by omega) (by omega) (by omega);have cR:=Bs h (by omega) (by omega) a (a+L) ha (by omega) (by omega) (by omega) (by omega) (by omega);have cA:=aJq h (by omega) (by omega) (a+L) (by omega) (by omega) (by omega) (by omega);have lB:(pk (cW N 0 (min a (totL N)))).length≤61:=by
  have:=(fJ h (by omega) (a:=0) (n:=min a (totL N)) (by omega) (by omega) (by omega) (by omega)).2;have:=eT (cW N 0 (min a (totL N)));omega
 have lG:=sT (a - totL N);have eX:cY N a ([]) (a+L)=pk (cW N 0 (min a (totL N)))++kV (a - totL N) ++ []++gB N (a+L):=rfl;rw [eX];have er:a+L - a=L:=by omega
 rw [Int.sub_zero] at cB;rw [er] at cR;have lR:(gB N (a+L)).length≤61:=by
  unfold gB;split
  ·have:=(fJ h (by omega) (a:=a+L) (n:=totL N - (a+L)) (by omega) (by omega) (by omega) (by omega)).2;have:=eT (cW N (a+L) (totL N - (a+L)));omega
  ·simp
 generalize pk (cW N 0 (min a (totL N)))=B at *;generalize pk (cW N a L)=R at *;generalize gB N (a+L)=A at *;have cG:=aSv (a - totL N);generalize kV (a - totL N)=G at *;have w1:IntKind.i64.wrap (a+L)=a+L:=wrap64 (by omega) (by omega);have w2:IntKind.i64.wrap (a+0)=a+0:=wrap64 (by omega) (by omega);have w3:IntKind.i64.wrap (max a (totL N)+L)=max a (totL N)+L:=wrap64 (by omega) (by omega);have w4:IntKind.i64.wrap (a - totL N)=a - totL N:=wrap64 (by omega) (by omega);have d1:decide (a+L > 2147483647)=false:=decide_eq_false (by omega);have d2:decide (max a (totL N)+L > 2147483647)=false:=decide_eq_false (by omega);refine aG Tryz.X48 Tryz.func48 rfl Tryz.ntmps48 (by rw [Tryz.results48]) (aC _ ?_);simp only [go_sem,simprocAttr,dtf,w1,w2,w3,w4,d1,d2];refine bT [0,1,2,3,4,5] (.step 6 (.step 7 (.alt (.step 8 (.alt (.step 9 (.step 10 (.step 11 .done))) (.step 10 (.step 9 (.step 11 .done))))) (.step 9 (.step 8 (.step 10 (.step 11 .done))))))) rfl (by kernel_rfl) (by kernel_rfl) (by decide) ?_;generalize hK:xV _ _ Exit.normal=K;simp only [go_sem,simprocAttr,dtf];refine ⟨_,cTN,?_⟩;simp only [go_sem,simprocAttr,dtf];refine dT cB rfl ?_;simp only [go_sem,simprocAttr,dtf];subst hK;simp only [go_sem,simprocAttr,dtf,w1,w2];refine dT cR rfl ?_;simp only [go_sem,simprocAttr,dtf,w1,w2];refine ⟨_,cA,?_⟩;simp only [go_sem,simprocAttr,dtf];refine vQ 7 [.op 7, .op 8, .op 9] rfl (by kernel_rfl) (by kernel_rfl) (by decide) ?_;simp only [go_sem,simprocAttr,dtf];refine ⟨_,cTN,?_⟩;simp only [go_sem,simprocAttr,dtf,w4];refine ⟨_,cG,?_⟩;simp only [go_sem,simprocAttr,dtf];refine ⟨by kernel_rfl,?_⟩;refine qP Tryz.X108 ?_;simp only [go_sem,simprocAttr,dtf];refine cQ (At [.lit (.slice none 0 0)] B G (by omega) (by omega)) [] rfl (by omega) (by decide) ?_ rfl rfl rfl rfl ?_
 ·simp only [go_sem,simprocAttr,dtf]
 simp only [go_sem,simprocAttr,dtf,List.getElem?_nil];refine aQ 7 .done rfl (by kernel_rfl) (by kernel_rfl) (by decide) ?_;simp only [go_sem,simprocAttr,dtf];refine ⟨⟨by simp only [List.length_append,List.length_map];unfold maxLen;omega,by simp only [List.length_append,List.length_map];omega⟩,by kernel_rfl,?_⟩;simp only [List.map_append,List.append_assoc,List.append_nil]
theorem cExch3 {N F:List ClipR} (h:CutOk 1000 N F) (hl:N.length≤60) (hF:F.length≤500) (a:Int) (ha : 0≤a) (ha1:a≤300) (C:List ClipR) (hC:Trk C) (hC0 : 0<C.length) (hCt:totL C≤400) :
  aK Tryz.prog 48 [.t (aM N),kG 3 a 0 (aM C)] (.tup [.t (aM (cY N a C (a+(totL C)))),kG 3 a 0 (aM (pk (cW N a (totL C)))),aA 0]):=by
 have hL : 1≤totL C:=by
  have h1:=Ma hC hC0;omega
 have hL4:totL C≤400:=hCt;obtain ⟨L,hLe⟩:∃ L,L=totL C:=⟨_,rfl⟩
 have hCn:decide ((C.length:Int) > 0)=true:=decide_eq_true (by omega);have cTC:=uC C hC;rw [← hLe] at hL hL4 cTC ⊢;have htt:=h.tot;have hT:Trk N:=uG (by omega) (cZ h.tr).2.1 (cZ h.tr).2.2;have cTN:=uC N hT;have cB:=Bs h (by omega) (by omega) 0 (min a (totL N)) (by omega) (by omega) (by omega) (by omega) (by omega) (by omega);have cR:=Bs h (by omega) (by omega) a (a+L) ha (by omega) (by omega) (by omega) (by omega) (by omega);have cA:=aJq h (by omega) (by omega) (a+L) (by omega) (by omega) (by omega) (by omega);have lB:(pk (cW N 0 (min a (totL N)))).length≤61:=by
  have:=(fJ h (by omega) (a:=0) (n:=min a (totL N)) (by omega) (by omega) (by omega) (by omega)).2;have:=eT (cW N 0 (min a (totL N)));omega
 have lG:=sT (a - totL N);have eX:cY N a (C) (a+L)=pk (cW N 0 (min a (totL N)))++kV (a - totL N)++C++gB N (a+L):=rfl;rw [eX];have er:a+L - a=L:=by omega
 rw [Int.sub_zero] at cB;rw [er] at cR;have lR:(gB N (a+L)).length≤61:=by
  unfold gB;split
  ·have:=(fJ h (by omega) (a:=a+L) (n:=totL N - (a+L)) (by omega) (by omega) (by omega) (by omega)).2;have:=eT (cW N (a+L) (totL N - (a+L)));omega
  ·simp
 generalize pk (cW N 0 (min a (totL N)))=B at *;generalize pk (cW N a L)=R at *;generalize gB N (a+L)=A at *;have cG:=aSv (a - totL N);generalize kV (a - totL N)=G at *;have w1:IntKind.i64.wrap (a+L)=a+L:=wrap64 (by omega) (by omega);have w2:IntKind.i64.wrap (a+0)=a+0:=wrap64 (by omega) (by omega);have w3:IntKind.i64.wrap (max a (totL N)+L)=max a (totL N)+L:=wrap64 (by omega) (by omega);have w4:IntKind.i64.wrap (a - totL N)=a - totL N:=wrap64 (by omega) (by omega);have d1:decide (a+L > 2147483647)=false:=decide_eq_false (by omega);have d2:decide (max a (totL N)+L > 2147483647)=false:=decide_eq_false (by omega);have lC:C.length≤200:=hC.len;refine aG Tryz.X48 Tryz.func48 rfl Tryz.ntmps48 (by rw [Tryz.results48]) (aC _ ?_);simp only [go_sem,simprocAttr,dtf,w1,w2,w3,w4,d1,d2,hCn];refine ⟨_,cTC,?_⟩;simp only [go_sem,simprocAttr,dtf,w1,w2,w3,w4,d1,d2];refine bT [0,1,2,3,4,5] (.step 6 (.step 7 (.alt (.step 8 (.alt (.step 9 (.step 10 (.step 11 .done))) (.step 10 (.step 9 (.step 11 .done))))) (.step 9 (.step 8 (.step 10 (.step 11 .done))))))) rfl (by kernel_rfl) (by kernel_rfl) (by decide) ?_;generalize hK:xV _ _ Exit.normal=K;simp only [go_sem,simprocAttr,dtf];refine ⟨_,cTN,?_⟩;simp only [go_sem,simprocAttr,dtf];refine dT cB rfl ?_;simp only [go_sem,simprocAttr,dtf];subst hK;simp only [go_sem,simprocAttr,dtf,w1,w2];refine dT cR rfl ?_;simp only [go_sem,simprocAttr,dtf,w1,w2];refine ⟨_,cA,?_⟩;simp only [go_sem,simprocAttr,dtf];refine vQ 7 [.op 7, .op 8, .op 9] rfl (by kernel_rfl) (by kernel_rfl) (by decide) ?_;simp only [go_sem,simprocAttr,dtf];refine ⟨_,cTN,?_⟩;simp only [go_sem,simprocAttr,dtf,w4];refine ⟨_,cG,?_⟩;simp only [go_sem,simprocAttr,dtf];refine ⟨by kernel_rfl,?_⟩;refine qP Tryz.X108 ?_;simp only [go_sem,simprocAttr,dtf];refine cQ (At [.lit (.slice none 0 0)] B G (by omega) (by omega)) [] rfl (by omega) (by decide) ?_ rfl rfl rfl rfl ?_
 ·simp only [go_sem,simprocAttr,dtf]
 simp only [go_sem,simprocAttr,dtf,List.getElem?_nil];refine ⟨⟨.inr (by simp only [go_sem,simprocAttr,dtf]),by rw [List.length_append];unfold maxLen;omega,by rw [List.length_append];omega⟩,?_⟩;refine aQ 7 .done rfl (by kernel_rfl) (by kernel_rfl) (by decide) ?_;simp only [go_sem,simprocAttr,dtf];refine ⟨⟨by simp only [List.length_append,List.length_map];unfold maxLen;omega,by simp only [List.length_append,List.length_map];omega⟩,by kernel_rfl,?_⟩;simp only [List.map_append,List.append_assoc,List.append_nil]
theorem cExch4 {N F:List ClipR} (h:CutOk 1000 N F) (hl:N.length≤60) (hF:F.length≤500) (a:Int) (ha : 0≤a) (ha1:a≤300) (L:Int) (hL : 1≤L) (hL4:L≤400) :
  aK Tryz.prog 48 [.t (aM N),kG 4 a L (.lit (.slice none 0 0))] (.tup [.t (aM (cY N a (kV L) (a+(L)))),kG 3 a 0 (aM (pk (cW N a L))),aA 0]):=by
 have htt:=h.tot;have hT:Trk N:=uG (by omega) (cZ h.tr).2.1 (cZ h.tr).2.2;have cTN:=uC N hT;have cB:=Bs h (by omega) (by omega) 0 (min a (totL N)) (by omega) (by omega) (by omega) (by omega) (by omega) (by omega);have cR:=Bs h (by omega) (by omega) a (a+L) ha (by omega) (by omega) (by omega) (by omega) (by omega);have cA:=aJq h (by omega) (by omega) (a+L) (by omega) (by omega) (by omega) (by omega);have lB:(pk (cW N 0 (min a (totL N)))).length≤61:=by
  have:=(fJ h (by omega) (a:=0) (n:=min a (totL N)) (by omega) (by omega) (by omega) (by omega)).2;have:=eT (cW N 0 (min a (totL N)));omega
 have lG:=sT (a - totL N);have eX:cY N a (kV L) (a+L)=pk (cW N 0 (min a (totL N)))++kV (a - totL N)++kV L++gB N (a+L):=rfl;rw [eX];have er:a+L - a=L:=by omega
 rw [Int.sub_zero] at cB;rw [er] at cR;have lR:(gB N (a+L)).length≤61:=by
  unfold gB;split
  ·have:=(fJ h (by omega) (a:=a+L) (n:=totL N - (a+L)) (by omega) (by omega) (by omega) (by omega)).2;have:=eT (cW N (a+L) (totL N - (a+L)));omega
  ·simp
 generalize pk (cW N 0 (min a (totL N)))=B at *;generalize pk (cW N a L)=R at *;generalize gB N (a+L)=A at *;have cG:=aSv (a - totL N);generalize kV (a - totL N)=G at *;have w1:IntKind.i64.wrap (a+L)=a+L:=wrap64 (by omega) (by omega);have w2:IntKind.i64.wrap (a+0)=a+0:=wrap64 (by omega) (by omega);have w3:IntKind.i64.wrap (max a (totL N)+L)=max a (totL N)+L:=wrap64 (by omega) (by omega);have w4:IntKind.i64.wrap (a - totL N)=a - totL N:=wrap64 (by omega) (by omega);have d1:decide (a+L > 2147483647)=false:=decide_eq_false (by omega);have d2:decide (max a (totL N)+L > 2147483647)=false:=decide_eq_false (by omega);have lG2:=sT L;have cG2:=aSv L;generalize kV L=G2 at *;refine aG Tryz.X48 Tryz.func48 rfl Tryz.ntmps48 (by rw [Tryz.results48]) (aC _ ?_);simp only [go_sem,simprocAttr,dtf,w1,w2,w3,w4,d1,d2];refine bT [0,1,2,3,4,5] (.step 6 (.step 7 (.alt (.step 8 (.alt (.step 9 (.step 10 (.step 11 .done))) (.step 10 (.step 9 (.step 11 .done))))) (.step 9 (.step 8 (.step 10 (.step 11 .done))))))) rfl (by kernel_rfl) (by kernel_rfl) (by decide) ?_;generalize hK:xV _ _ Exit.normal=K;simp only [go_sem,simprocAttr,dtf];refine ⟨_,cTN,?_⟩;simp only [go_sem,simprocAttr,dtf];refine dT cB rfl ?_;simp only [go_sem,simprocAttr,dtf];subst hK;simp only [go_sem,simprocAttr,dtf,w1,w2];refine dT cR rfl ?_;simp only [go_sem,simprocAttr,dtf,w1,w2];refine ⟨_,cA,?_⟩;simp only [go_sem,simprocAttr,dtf];refine vQ 7 [.op 7, .op 8, .op 9] rfl (by kernel_rfl) (by kernel_rfl) (by decide) ?_;simp only [go_sem,simprocAttr,dtf];refine ⟨_,cTN,?_⟩;simp only [go_sem,simprocAttr,dtf,w4];refine ⟨_,cG,?_⟩;simp only [go_sem,simprocAttr,dtf];refine ⟨by kernel_rfl,?_⟩;refine qP Tryz.X108 ?_;simp only [go_sem,simprocAttr,dtf];refine cQ (At [.lit (.slice none 0 0)] B G (by omega) (by omega)) [] rfl (by omega) (by decide) ?_ rfl rfl rfl rfl ?_
 ·simp only [go_sem,simprocAttr,dtf]
 simp only [go_sem,simprocAttr,dtf,List.getElem?_nil];refine ⟨_,cG2,?_⟩;simp only [go_sem,simprocAttr,dtf];refine ⟨⟨.inr (by simp only [go_sem,simprocAttr,dtf]),by rw [List.length_append];unfold maxLen;omega,by rw [List.length_append];omega⟩,?_⟩;refine aQ 7 .done rfl (by kernel_rfl) (by kernel_rfl) (by decide) ?_;simp only [go_sem,simprocAttr,dtf];refine ⟨⟨by simp only [List.length_append,List.length_map];unfold maxLen;omega,by simp only [List.length_append,List.length_map];omega⟩,by kernel_rfl,?_⟩;simp only [List.map_append,List.append_assoc,List.append_nil]
open Go.RowKit
set_option maxRecDepth 4000
theorem sJ:aN3 Tryz.prog 44:=by
 refine ⟨Tryz.X44,fun cap w=>callsDIn_of_wpSIn Tryz.func44 rfl trivial fun c₀ cs hu=>?_⟩;have k1 : 3<cap.size+(6 - cap.size):=by omega
 have k2 : 4<cap.size+(6 - cap.size):=by omega
 have k3 : 3<max 6 cap.size:=by omega
 have k4 : 4<max 6 cap.size:=by omega
 apply wpSIn_seq;apply wpSIn_region;simp [wpOpsSIn,Fence.wide,go_sem,recoverD,hu,Tryz.ntmps44,Exit.thenS,k1,k2,k3,k4];refine wpSIn_cond (t:=false) (by simp [Act.eval,k2,k4]) ?_;refine wpSIn_of_wpIn rfl (wpIn_skip ?_);refine ⟨rfl, .returning,by rw [← hu], .tuple #[],?_,⟨_,rfl⟩,rfl,rfl⟩;simp [results,Tryz.results44,go_sem]
theorem aK0 {t N F:List ClipR} (hvt:bB t=true) (htf:∀ c∈t,c.fit) (hN:gR t=N) (h:CutOk 1000 N F) (hl:N.length≤60) (hF:F.length≤500) (a:Int) (ha : 0≤a) (ha1:a≤300) (C:List ClipR) (hC:Trk C) (hv:bB C=true) (hCf:∀ c∈C,c.fit) (hC0 : 0<C.length) (hCt:totL C≤400)
  (hX:Trk (cY N a C (a+0))) (hXf:∀ c∈cY N a C (a+0),c.fit) (h64:(kB (cY N a C (a+0))).length≤64) :
  aK Tryz.prog 14 [.t (aM t),kG 1 a 0 (aM C)] (.tup [.t (aM (kB (cY N a C (a+0)))),kG 2 a (totL C) (.lit (.slice none 0 0)),aA 0]):=by
 have c1:=kX t htf;have c2:=Sr 1 a C (by decide) hCf (by omega) (by omega) hC0 hv;have c3:=As t htf;have c4:=cExch1 h (by omega) (by omega) a ha ha1 C hC hC0 hCt;have c5:=zF _ hX hXf;rw [hvt] at c1;rw [hN] at c3;generalize cY N a C (a+0)=X at *;generalize kB X=Y at *;have d1:decide ((Y.length:Int) > 64)=false:=decide_eq_false (by omega);refine aG Tryz.X14 Tryz.func14 rfl Tryz.ntmps14 (by rw [Tryz.results14]) (aC _ ?_);simp only [go_sem,simprocAttr,dtf];refine ⟨_,c1,?_⟩;simp only [go_sem,simprocAttr,dtf];refine ⟨_,c2,?_⟩;simp only [go_sem,simprocAttr,dtf];refine ⟨_,c3,?_⟩;simp only [go_sem,simprocAttr,dtf];refine ⟨_,c4,?_⟩;simp only [go_sem,simprocAttr,dtf];refine ⟨_,c5,?_⟩;simp only [go_sem,simprocAttr,dtf,d1];refine aQ 5 .done rfl (by kernel_rfl) (by kernel_rfl) (by decide) ?_;simp only [go_sem,simprocAttr,dtf];exact ⟨by kernel_rfl,sJ⟩
theorem aJz {t N F:List ClipR} (hvt:bB t=true) (htf:∀ c∈t,c.fit) (hN:gR t=N) (h:CutOk 1000 N F) (hl:N.length≤60) (hF:F.length≤500) (a:Int) (ha : 0≤a) (ha1:a≤300) (L:Int) (hL : 1≤L) (hL4:L≤400)
  (hX:Trk (cY N a [] (a+(L)))) (hXf:∀ c∈cY N a [] (a+(L)),c.fit) (h64:(kB (cY N a [] (a+(L)))).length≤64) :
  aK Tryz.prog 14 [.t (aM t),kG 2 a L (.lit (.slice none 0 0))] (.tup [.t (aM (kB (cY N a [] (a+(L))))),kG 1 a 0 (aM (pk (cW N a L))),aA 0]):=by
 have c1:=kX t htf;have c2:=Sq 2 a L (by decide) (by omega) (by omega) (by omega) (by omega);have c3:=As t htf;have c4:=cExch2 h (by omega) (by omega) a ha ha1 L hL hL4;have c5:=zF _ hX hXf;rw [hvt] at c1;rw [hN] at c3;generalize cY N a [] (a+(L))=X at *;generalize kB X=Y at *;have d1:decide ((Y.length:Int) > 64)=false:=decide_eq_false (by omega);refine aG Tryz.X14 Tryz.func14 rfl Tryz.ntmps14 (by rw [Tryz.results14]) (aC _ ?_);simp only [go_sem,simprocAttr,dtf];refine ⟨_,c1,?_⟩;simp only [go_sem,simprocAttr,dtf];refine ⟨_,c2,?_⟩;simp only [go_sem,simprocAttr,dtf];refine ⟨_,c3,?_⟩;simp only [go_sem,simprocAttr,dtf];refine ⟨_,c4,?_⟩;simp only [go_sem,simprocAttr,dtf];refine ⟨_,c5,?_⟩;simp only [go_sem,simprocAttr,dtf,d1];refine aQ 5 .done rfl (by kernel_rfl) (by kernel_rfl) (by decide) ?_;simp only [go_sem,simprocAttr,dtf];exact ⟨by kernel_rfl,sJ⟩
theorem aJy {t N F:List ClipR} (hvt:bB t=true) (htf:∀ c∈t,c.fit) (hN:gR t=N) (h:CutOk 1000 N F) (hl:N.length≤60) (hF:F.length≤500) (a:Int) (ha : 0≤a) (ha1:a≤300) (C:List ClipR) (hC:Trk C) (hv:bB C=true) (hCf:∀ c∈C,c.fit) (hC0 : 0<C.length) (hCt:totL C≤400)
  (hX:Trk (cY N a C (a+(totL C)))) (hXf:∀ c∈cY N a C (a+(totL C)),c.fit) (h64:(kB (cY N a C (a+(totL C)))).length≤64) :
  aK Tryz.prog 14 [.t (aM t),kG 3 a 0 (aM C)] (.tup [.t (aM (kB (cY N a C (a+(totL C))))),kG 3 a 0 (aM (pk (cW N a (totL C)))),aA 0]):=by
 have c1:=kX t htf;have c2:=Sr 3 a C (by decide) hCf (by omega) (by omega) hC0 hv;have c3:=As t htf;have c4:=cExch3 h (by omega) (by omega) a ha ha1 C hC hC0 hCt;have c5:=zF _ hX hXf;rw [hvt] at c1;rw [hN] at c3;generalize cY N a C (a+(totL C))=X at *;generalize kB X=Y at *;have d1:decide ((Y.length:Int) > 64)=false:=decide_eq_false (by omega);refine aG Tryz.X14 Tryz.func14 rfl Tryz.ntmps14 (by rw [Tryz.results14]) (aC _ ?_);simp only [go_sem,simprocAttr,dtf];refine ⟨_,c1,?_⟩;simp only [go_sem,simprocAttr,dtf];refine ⟨_,c2,?_⟩;simp only [go_sem,simprocAttr,dtf];refine ⟨_,c3,?_⟩;simp only [go_sem,simprocAttr,dtf];refine ⟨_,c4,?_⟩;simp only [go_sem,simprocAttr,dtf];refine ⟨_,c5,?_⟩;simp only [go_sem,simprocAttr,dtf,d1];refine aQ 5 .done rfl (by kernel_rfl) (by kernel_rfl) (by decide) ?_;simp only [go_sem,simprocAttr,dtf];exact ⟨by kernel_rfl,sJ⟩
theorem cApply4 {t N F:List ClipR} (hvt:bB t=true) (htf:∀ c∈t,c.fit) (hN:gR t=N) (h:CutOk 1000 N F) (hl:N.length≤60) (hF:F.length≤500) (a:Int) (ha : 0≤a) (ha1:a≤300) (L:Int) (hL : 1≤L) (hL4:L≤400)
  (hX:Trk (cY N a (kV L) (a+(L)))) (hXf:∀ c∈cY N a (kV L) (a+(L)),c.fit) (h64:(kB (cY N a (kV L) (a+(L)))).length≤64) :
  aK Tryz.prog 14 [.t (aM t),kG 4 a L (.lit (.slice none 0 0))] (.tup [.t (aM (kB (cY N a (kV L) (a+(L))))),kG 3 a 0 (aM (pk (cW N a L))),aA 0]):=by
 have c1:=kX t htf;have c2:=Sq 4 a L (by decide) (by omega) (by omega) (by omega) (by omega);have c3:=As t htf;have c4:=cExch4 h (by omega) (by omega) a ha ha1 L hL hL4;have c5:=zF _ hX hXf;rw [hvt] at c1;rw [hN] at c3;generalize cY N a (kV L) (a+(L))=X at *;generalize kB X=Y at *;have d1:decide ((Y.length:Int) > 64)=false:=decide_eq_false (by omega);refine aG Tryz.X14 Tryz.func14 rfl Tryz.ntmps14 (by rw [Tryz.results14]) (aC _ ?_);simp only [go_sem,simprocAttr,dtf];refine ⟨_,c1,?_⟩;simp only [go_sem,simprocAttr,dtf];refine ⟨_,c2,?_⟩;simp only [go_sem,simprocAttr,dtf];refine ⟨_,c3,?_⟩;simp only [go_sem,simprocAttr,dtf];refine ⟨_,c4,?_⟩;simp only [go_sem,simprocAttr,dtf];refine ⟨_,c5,?_⟩;simp only [go_sem,simprocAttr,dtf,d1];refine aQ 5 .done rfl (by kernel_rfl) (by kernel_rfl) (by decide) ?_;simp only [go_sem,simprocAttr,dtf];exact ⟨by kernel_rfl,sJ⟩
def shown (p:ProjR) (n:ByteArray) (kind:Int):List ByteArray:=uN ((bZ p.seqs n).getD default) kind
def memB (n:ByteArray) (l:List ByteArray):Bool:=(gY (fun m:ByteArray=>m) n l).isSome
def collF (p:ProjR):Nat→ByteArray→List ByteArray×List ByteArray→List ByteArray×List ByteArray
 | 0,_,r=>r
 | f+1,n,r=>if memB n r.2=true then r else (shown p n 2).foldl (fun r x=>collF p f x r) (r.1++shown p n 1,r.2 ++ [n])
def usesP (p:ProjR) (name:ByteArray):List ByteArray×Int :=
 if cK p≠0 then ([],cK p) else
 match bZ p.seqs name with
 | none=>([],7)
 | some _=>(tL (sG (collF p 5 name ([],[])).1),0)
abbrev vuses (r:List ByteArray×Int):V := .tup [.t (aAm r.1),aA r.2]
structure FileR where
 name:ByteArray
 sum:Int
 present:Bool
 deriving Inhabited
structure LinkR where
 media:ByteArray
 file:ByteArray
 sum:Int
 proxy:ByteArray
 deriving Inhabited
structure StateR where
 files:List FileR
 links:List LinkR
 deriving Inhabited
def FileR.c (f:FileR):List T:=[fZ f.name,tu f.sum,tbl f.present]
def LinkR.c (l:LinkR):List T:=[fZ l.media,fZ l.file,tu l.sum,fZ l.proxy]
abbrev vfile (f:FileR):V := .agg [bY f.name,eP f.sum,aX f.present]
abbrev vlink (l:LinkR):V := .agg [bY l.media,bY l.file,eP l.sum,bY l.proxy]
@[go_sem] theorem FileR.ct (f:FileR):(FileR.c f).map V.t = [bY f.name,eP f.sum,aX f.present]:=rfl
@[go_sem] theorem LinkR.ct (l:LinkR):(LinkR.c l).map V.t = [bY l.media,bY l.file,eP l.sum,bY l.proxy]:=rfl
@[go_sem] theorem FileR.cl (f:FileR):(FileR.c f).length=3:=rfl
@[go_sem] theorem LinkR.cl (l:LinkR):(LinkR.c l).length=4:=rfl
@[go_sem] abbrev tfiles (l:List FileR):T := .list 3 (FileR.c default) (l.map FileR.c)
@[go_sem] abbrev tlinks (l:List LinkR):T := .list 4 (LinkR.c default) (l.map LinkR.c)
abbrev vstate (s:StateR):V := .agg [.t (tfiles s.files), .t (tlinks s.links)]
def fileP (n:ByteArray) (f:FileR):Bool:=f.name.toList==n.toList
def linkP (n:ByteArray) (l:LinkR):Bool:=l.media.toList==n.toList
def Ra (fs:List FileR) (n:ByteArray):Int:=idx (fileP n) fs
def Kc (ls:List LinkR) (n:ByteArray):Int:=idx (linkP n) ls
abbrev nmP (s:ByteArray):V := .elem 1 [fZ s] [[fZ s]] 0 0
open Go.RowKit
set_option maxRecDepth 4000
def Gj (fs:List FileR) (i:Int):FileR:=fs.getD i.toNat default
def aNs (fs:List FileR) (l:LinkR):Int :=
 if (decide (Ra fs l.file<0) || !(Gj fs (Ra fs l.file)).present)=true then 3 else if ((Gj fs (Ra fs l.file)).sum != l.sum)=true then 2 else 1
def status (s:StateR) (n:ByteArray):Int :=
 if Kc s.links n<0 then 0 else aNs s.files (s.links.getD (Kc s.links n).toNat default)
def proxyOf (s:StateR) (n:ByteArray):ByteArray :=
 if Kc s.links n<0 then ⟨#[]⟩ else (s.links.getD (Kc s.links n).toNat default).proxy
open Go.RowKit
set_option maxRecDepth 4000
def allR (p:Nat→Bool) (n:Nat):Bool:=(List.range n).all p
def okF (fs:List FileR) (i:Nat):Bool:=dS (fs.getD i default).name && !memB (fs.getD i default).name ((fs.take i).map FileR.name)
def okL (ls:List LinkR) (i:Nat):Bool :=
 dS (ls.getD i default).media && !memB (ls.getD i default).media ((ls.take i).map LinkR.media)&&dS (ls.getD i default).file&&(emp (ls.getD i default).proxy||dS (ls.getD i default).proxy) &&
 !((ls.getD i default).proxy.toList==(ls.getD i default).media.toList)
def aGv (s:StateR):Bool:=decide ((s.files.length:Int)≤32)&&decide ((s.links.length:Int)≤16)&&allR (okF s.files) s.files.length&&allR (okL s.links) s.links.length
open Go.RowKit
set_option maxRecDepth 4000
structure EventR where
 kind:Int
 media:ByteArray
 file:ByteArray
 proxy:ByteArray
 sum:Int
 deriving Inhabited
structure OutR where
 media:ByteArray
 status:Int
 deriving Inhabited
def validPx (s:ByteArray):Bool:=emp s||dS s
def validEv (e:EventR):Bool :=
 if e.kind=1 then dS e.file&&emp e.media&&emp e.proxy
 else if e.kind=2 then dS e.file&&emp e.media&&emp e.proxy&&(e.sum==0)
 else if e.kind=3∨e.kind=4 then dS e.media&&dS e.file&&emp e.proxy&&(e.sum==0)
 else if e.kind=5 then dS e.media&&validPx e.proxy&&emp e.file&&(e.sum==0)
 else false
def aR4 (fs:List FileR) (s:ByteArray):Bool:=decide (0≤Ra fs s)&&(Gj fs (Ra fs s)).present
def arriveS (s:StateR) (nm:ByteArray) (sum:Int):Int×StateR :=
 if 0≤Ra s.files nm then (0,⟨s.files.set (Ra s.files nm).toNat ⟨nm,sum,true⟩,s.links⟩)
 else if 32≤s.files.length then (18,s)
 else (0,⟨s.files ++ [⟨nm,sum,true⟩],s.links⟩)
def leaveS (s:StateR) (nm:ByteArray):Int×StateR :=
 if aR4 s.files nm then (0,⟨s.files.set (Ra s.files nm).toNat { Gj s.files (Ra s.files nm) with present:=false },s.links⟩) else (7,s)
def aS8 (s:StateR) (md nm:ByteArray):Int×StateR :=
 if 0≤Kc s.links md then (8,s)
 else if aR4 s.files nm then
  if 16≤s.links.length then (18,s)
  else (0,⟨s.files,s.links ++ [⟨md,nm,(Gj s.files (Ra s.files nm)).sum,⟨#[]⟩⟩]⟩)
 else (7,s)
def relinkS (s:StateR) (md nm:ByteArray):Int×StateR :=
 if Kc s.links md<0 || !aR4 s.files nm then (7,s)
 else (0,⟨s.files,s.links.set (Kc s.links md).toNat { s.links.getD (Kc s.links md).toNat default with file:=nm,sum:=(Gj s.files (Ra s.files nm)).sum }⟩)
def attachS (s:StateR) (md px:ByteArray):Int×StateR :=
 if px.toList==md.toList then (1,s)
 else if Kc s.links md<0||(!emp px&&decide (Kc s.links px<0)) then (7,s)
 else (0,⟨s.files,s.links.set (Kc s.links md).toNat { s.links.getD (Kc s.links md).toNat default with proxy:=px }⟩)
def Dv (s:StateR) (e:EventR):Int×StateR :=
 if e.kind=1 then arriveS s e.file e.sum
 else if e.kind=2 then leaveS s e.file
 else if e.kind=3 then aS8 s e.media e.file
 else if e.kind=4 then relinkS s e.media e.file
 else attachS s e.media e.proxy
def outF (s t:StateR) (l:LinkR):Option OutR :=
 if status t l.media != status s l.media then some ⟨l.media,status t l.media⟩ else none
def outsTo (s t:StateR) (k:Nat):List OutR:=(t.links.take k).filterMap (outF s t)
def outsS (s t:StateR):List OutR:=t.links.filterMap (outF s t)
def aHs (s:StateR) (e:EventR):StateR×List OutR×Int :=
 if aGv s&&validEv e then
  if (Dv s e).1=0 then ((Dv s e).2,outsS s (Dv s e).2,0) else (⟨[],[]⟩,[],(Dv s e).1)
 else (⟨[],[]⟩,[],1)
def runStep (acc:StateR×List OutR×List Int) (e:EventR):StateR×List OutR×List Int :=
 if (aHs acc.1 e).2.2=0 then ((aHs acc.1 e).1,acc.2.1++(aHs acc.1 e).2.1,acc.2.2 ++ [0]) else (acc.1,acc.2.1,acc.2.2 ++ [(aHs acc.1 e).2.2])
def runFrom (s:StateR) (l:List EventR):StateR×List OutR×List Int:=l.foldl runStep (s,[],[])
def runS (s:StateR) (l:List EventR):StateR×List OutR×List Int :=
 if aGv s then runFrom s l else (⟨[],[]⟩,[],List.replicate l.length 1)
def keyP {α : Type} (key : α → ByteArray) (n:ByteArray) : α → Bool:=fun x=>decide (key x=n)
section
variable {α : Type} {key : α → ByteArray}
def lookK (key : α → ByteArray) (xs:List α) (n:ByteArray):Option α := xs.find? (keyP key n)
end
abbrev fileL (fs:List FileR) (n:ByteArray):Option FileR:=lookK FileR.name fs n
abbrev aHz (ls:List LinkR) (n:ByteArray):Option LinkR:=lookK LinkR.media ls n
def statL (f:Option FileR) (sum:Int):Int :=
 match f with
 | none=>3
 | some f=>if !f.present then 3 else if f.sum != sum then 2 else 1
def statusL (fs:List FileR) (l:Option LinkR):Int :=
 match l with
 | none=>0
 | some l=>statL (fileL fs l.file) l.sum
structure Ok (s:StateR):Prop where
 nf:s.files.length≤32
 nl:s.links.length≤16
 fk:(s.files.map FileR.name).Nodup
 lk:(s.links.map LinkR.media).Nodup
 fn:∀ f∈s.files,dS f.name=true
 ln:∀ l∈s.links,dS l.media=true∧dS l.file=true∧(emp l.proxy=true∨(dS l.proxy=true∧l.proxy≠l.media))
structure StepOk (s:StateR) (e:EventR) (t:StateR):Prop where
 ok:Ok t
 nf:t.files.length≤s.files.length+1
 nl:t.links.length≤s.links.length+1
 keep:∀ n,aHz s.links n≠none→aHz t.links n≠none
 new:∀ n,aHz t.links n≠none→aHz s.links n≠none∨e.media=n
open Go.RowKit
set_option maxRecDepth 4000
theorem aL2 {α : Type} (c : α → List T) {L:List α} {j:Nat} (x : α) {r:List V} (h:r=(c x).map V.t):(aS (L.map c)).set j r=aS ((L.set j x).map c):=by
 rw [h];unfold aS;rw [List.map_set,List.map_set]
theorem aQ8 {xs:List (List V)} {k:Nat} (h:k<xs.length) (d:List T) (r:List V):uM d (xs.set k r) k=r:=by
 unfold uM;rw [List.getElem?_set_self h];rfl
theorem aP7 {α : Type} (c : α → List T) {l:List α} {k:Nat} (h:k<l.length) (d:List T) (r:List V):uM d ((aS (l.map c)).set k r) k=r :=
 aQ8 (by unfold aS;rw [List.length_map,List.length_map];exact h) d r
open Go.RowKit
set_option maxRecDepth 4000
def EventR.c (e:EventR):List T:=[ti e.kind,fZ e.media,fZ e.file,fZ e.proxy,tu e.sum]
abbrev vevent (e:EventR):V := .agg [aA e.kind,bY e.media,bY e.file,bY e.proxy,eP e.sum]
@[go_sem] theorem EventR.ct (e:EventR):(EventR.c e).map V.t = [aA e.kind,bY e.media,bY e.file,bY e.proxy,eP e.sum]:=rfl
@[go_sem] theorem EventR.cl (e:EventR):(EventR.c e).length=5:=rfl
@[go_sem] abbrev tevents (l:List EventR):T := .list 5 (EventR.c default) (l.map EventR.c)
def OutR.c (o:OutR):List T:=[fZ o.media,ti o.status]
@[go_sem] theorem OutR.ct (o:OutR):(OutR.c o).map V.t = [bY o.media,aA o.status]:=rfl
@[go_sem] theorem OutR.cl (o:OutR):(OutR.c o).length=2:=rfl
@[go_sem] abbrev touts (l:List OutR):T := .list 2 (OutR.c default) (l.map OutR.c)
@[go_sem] abbrev RowF (l:List FileR):Blk := .row 153 3 (FileR.c default) (aS (l.map FileR.c))
@[go_sem] abbrev RowL (l:List LinkR):Blk := .row 135 4 (LinkR.c default) (aS (l.map LinkR.c))
abbrev stH (s:StateR):Heap:=[(2,RowL s.links),(1,RowF s.files),(0, .box [.own 1, .own 2])]
abbrev stK (s:StateR):Heap:=[(4,RowL s.links),(3,RowF s.files),(0, .box [.own 3, .own 4])]
theorem aJw (s:SourceR) (n:Int) (h:s.fit) (hv:aY s=true) (hn:n.natAbs≤2147483648):aK Tryz.prog 114 [kW s,aA n] (kW (aR s n)):=by
 refine aG Tryz.X114 Tryz.func114 rfl Tryz.ntmps114 (by rw [Tryz.results114]) (aC _ ?_);simp only [go_sem,simprocAttr,dtf];refine ⟨_,jT s zSource,?_⟩;refine brW (b:=s.isZ) ?_ ⟨fun hb=>?_,fun hb=>?_⟩
 ·rfl
 ·unfold awS;simp only [go_sem,simprocAttr,dtf];unfold aR;rw [if_pos hb]
 ·obtain ⟨p,d,ok⟩:=jN hv hb;obtain ⟨w1,w2,w3,w4,w5⟩:=Hy ok hn;have wd:(jF s n).den≤65536:=Nat.le_trans (Nat.le_of_dvd (by have:=ok.d1;omega) w1) ok.dle;have hms:aR s n = { s with pos:=ofQ (bM s n) }:=by unfold aR;rw [hb];rfl
  have hs2:=ok.snum;have hdl:=ok.dle;have hpl:=ok.ple;unfold awS;simp only [go_sem,simprocAttr,dtf];have hmul:n.natAbs*s.speed.num.natAbs<9223372036854775808:=Nat.lt_of_le_of_lt (Nat.mul_le_mul hn (Nat.le_trans hs2 (Nat.mul_le_mul_left _ hdl))) (by decide);have hden:s.speed.den.natAbs=d:=by rw [ok.hd];rfl
  refine ⟨_,cMul ⟨n,1⟩ s.speed ⟨⟨by simp only;omega,by simp only;omega⟩,⟨by simp only;omega,by simp only;omega⟩⟩ h.speed (Lr (by omega)) ok.speed hmul (by rw [hden];simp only [Int.natAbs_one,Nat.one_mul];omega),?_⟩;have e1:toQ ⟨n,1⟩*toQ s.speed=jF s n:=rfl;rw [e1];simp only [go_sem,simprocAttr,dtf];have hb2:Nat.lcm p (jF s n).den=p*((jF s n).den / Nat.gcd p (jF s n).den):=(tT _ _).symm;have hpq:p*(jF s n).den<9223372036854775808:=Nat.lt_of_le_of_lt (Nat.mul_le_mul hpl wd) (by decide);refine ⟨_,cAdd s.pos (ofQ (jF s n)) h.pos ⟨⟨by rw [rF];omega,by rw [rF];omega⟩,⟨by rw [pX];omega,by rw [pX];omega⟩⟩ ok.pos (Lq _ (by omega)) ok.hp (pX _) (by omega) (by rw [rF];omega) hpq,?_⟩;rw [Kk];simp only [go_sem,simprocAttr,dtf];rw [hms];rfl
theorem vF {L:List ClipR} {i:Nat} (hi:i<L.length) (d:List T):nth d (L.map ClipR.c) i=ClipR.c (L.getD i default):=by
 unfold nth;rw [List.getElem?_map,List.getElem?_eq_getElem hi,aU hi];rfl
abbrev qC (k i b:Int) (sp:RatR) (cs:T):List V:=[aA k,aA 0,aA 0,aA i,aA b,aA sp.num,aA sp.den, .t cs]
def kK (c:ClipR) (b:Int):ClipR := { c with len:=c.len+b }
def nV (c:ClipR) (b:Int):ClipR := { c with a:=aR c.a b,b:=aR c.b b }
theorem Gu (L:List ClipR) (i:Nat) (hi:i<L.length) (k q b:Int) (sp:RatR) (cs:T) (hb:b.natAbs≤100) (hl : 0≤(L.getD i default).len∧(L.getD i default).len≤2147483648) :
  CIO Tryz.prog 112 3 [(2,tB L),(1, .box (qC k q b sp cs)),(0, .box [.own 2])] [aA i, .own 0, .own 1] (.tup []) [(2,tB (L.set i (kK (L.getD i default) b))),(1, .box (qC k q b sp cs)),(0, .box [.own 2])] 3:=by
 refine kQ Tryz.X112 Tryz.func112 rfl Tryz.ntmps112 (by rw [Tryz.results112]) (aC _ ?_);simp only [go_sem,simprocAttr,dtf];obtain ⟨c,hc⟩:∃ c,c=L.getD i default:=⟨_,rfl⟩
 rw [← hc] at hl ⊢;have hn:∀ d,nth d (L.map ClipR.c) i=ClipR.c c:=fun d=>by rw [vF hi,hc]
 refine bT [0,1,2,3,4,5,6,7,8,9] (.step 10 .done) rfl (by kernel_rfl) (by kernel_rfl) (by decide) ?_;simp only [go_sem,simprocAttr,dtf,hn,List.length_map];refine ⟨⟨by omega,by omega⟩,hi,⟨by omega,by omega⟩,hi,aE ?_⟩;simp only [go_sem,simprocAttr,dtf];rw [wrap64 (x:=c.len+b) (by omega) (by omega),List.map_set];exact ⟨by simp,rfl,by simp,by simp⟩
theorem cSlip (L:List ClipR) (i:Nat) (hi:i<L.length) (k q b:Int) (sp:RatR) (cs:T) (hb:b.natAbs≤100) (hf:(L.getD i default).fit) (hv:aN (L.getD i default)=true) :
  CIO Tryz.prog 113 3 [(2,tB L),(1, .box (qC k q b sp cs)),(0, .box [.own 2])] [aA i, .own 0, .own 1] (.tup []) [(2,tB (L.set i (nV (L.getD i default) b))),(1, .box (qC k q b sp cs)),(0, .box [.own 2])] 3:=by
 refine kQ Tryz.X113 Tryz.func113 rfl Tryz.ntmps113 (by rw [Tryz.results113]) (aC _ ?_);simp only [go_sem,simprocAttr,dtf];obtain ⟨c,hc⟩:∃ c,c=L.getD i default:=⟨_,rfl⟩
 rw [← hc] at hf hv ⊢;have hn:∀ d,nth d (L.map ClipR.c) i=ClipR.c c:=fun d=>by rw [vF hi,hc]
 obtain ⟨_,_,_,_,_,v1,v2,_⟩:=bF hv;refine aQ 26 .done rfl (by kernel_rfl) (by kernel_rfl) (by decide) ?_;have hn3:∀ (d:List T) (Y:List T),nth d ((L.map ClipR.c).set i Y) i=Y:=fun d Y=>by
  unfold nth;rw [List.getElem?_set_self (by rw [List.length_map];exact hi)];rfl
 simp only [go_sem,simprocAttr,dtf,hn,List.length_map];refine ⟨⟨by omega,by omega⟩,hi,_,aJw c.a b hf.a v1 (by omega),?_⟩;simp only [go_sem,simprocAttr,dtf,hn,List.length_map];refine ⟨⟨by omega,by omega⟩,hi,_,aJw c.b b hf.b v2 (by omega),?_⟩;have hnr:∀ d r,uM d ((aS (L.map ClipR.c)).set i r) i=r:=fun d r=>aP7 ClipR.c hi d r
 simp only [go_sem,simprocAttr,dtf,hn,hn3,hnr,List.length_map,List.length_set,List.set_set];refine ⟨⟨by omega,by omega⟩,hi,⟨by omega,by omega⟩,hi,by kernel_rfl,?_⟩;rw [aL2 ClipR.c (nV c b) (by rfl)];refine aE ?_;simp only [go_sem,simprocAttr,dtf];simp
theorem aG4 (L:List ClipR) (i:Nat) (hi:i<L.length) (k q b:Int) (sp:RatR) (cs:T) (hb:b.natAbs≤100) (hf:(L.getD i default).fit) (hv:aN (L.getD i default)=true) :
  CIO Tryz.prog 115 4 [(3, .box [.clo 113 [.own 0, .own 1]]),(2,tB L),(1, .box (qC k q b sp cs)),(0, .box [.own 2])] [aA i, .own 3, .own 0, .own 1] (.tup [])
   [(3, .box [.clo 113 [.own 0, .own 1]]),(2,tB (L.set i (cV (L.getD i default) b))),(1, .box (qC k q b sp cs)),(0, .box [.own 2])] 4:=by
 refine kQ Tryz.X115 Tryz.func115 rfl Tryz.ntmps115 (by rw [Tryz.results115]) (aC _ ?_);simp only [go_sem,simprocAttr,dtf];refine gS Tryz.X113 (cQ (cSlip L i hi k q b sp cs hb hf hv) [0,1,2] rfl (by omega) (by decide) ?_ rfl rfl rfl rfl ?_)
 ·simp only [go_sem,simprocAttr,dtf]
 ·simp only [go_sem,simprocAttr,dtf,List.getElem?_cons_zero,List.getElem?_cons_succ];obtain ⟨c,hc⟩:∃ c,c=L.getD i default:=⟨_,rfl⟩
  rw [← hc] at hf hv ⊢;obtain ⟨v1,v2,_,_,_,_,_,_⟩:=bF hv;have hl1:i<(L.set i (nV c b)).length:=by rw [List.length_set];exact hi
  have hn:∀ d,nth d ((L.set i (nV c b)).map ClipR.c) i=ClipR.c (nV c b):=fun d=>by
   rw [vF hl1,List.getD_eq_getElem?_getD,List.getElem?_set_self hi];rfl
  have hll:((L.set i (nV c b)).map ClipR.c).length=L.length:=by rw [List.length_map,List.length_set]
  have hn3:∀ (d:List T) (Y:List T),nth d (((L.set i (nV c b)).map ClipR.c).set i Y) i=Y:=fun d Y=>by
   unfold nth;rw [List.getElem?_set_self (by rw [hll];exact hi)];rfl
  refine bT [0,1,2,3,4,5,6,7,8,9] (.step 10 .done) rfl (by kernel_rfl) (by kernel_rfl) (by decide) ?_;simp only [go_sem,simprocAttr,dtf,hn,hn3,hll,List.length_set,List.length_map];have hk:(nV c b).kind=c.kind:=rfl;refine ⟨⟨by omega,by omega⟩,hi,⟨by omega,by omega⟩,hi,⟨by omega,by omega⟩,hi,fun _=>⟨by omega,by omega⟩,fun _=>hi,fun h1=>?_,fun h1=>?_⟩
  ·have hs:shK c.kind=true:=h1;obtain ⟨o1,o2,o3⟩:=rN hv hs;have ea:cV c b = { nV c b with len:=c.len - b,off:=c.off+b }:=by unfold cV;rw [if_pos hs];rfl
   have ew:IntKind.i64.wrap ((nV c b).len - b)=c.len - b:=wrap64 (x:=c.len - b) (by omega) (by omega);have eo:IntKind.i64.wrap ((nV c b).off+b)=c.off+b:=wrap64 (x:=c.off+b) (by omega) (by omega);unfold awS;simp only [go_sem,simprocAttr,dtf];refine bT [0,1,2,3,4,5,6,7,8,9] (.step 10 .done) rfl (by kernel_rfl) (by kernel_rfl) (by decide) ?_;simp only [go_sem,simprocAttr,dtf,hn,hn3,hll,List.length_set,List.length_map,List.set_set];refine ⟨⟨by omega,by omega⟩,hi,⟨by omega,by omega⟩,hi,aE ?_⟩;simp only [go_sem,simprocAttr,dtf];rw [ew,eo,ea];refine ⟨by simp,by simp,?_,by simp,by simp⟩;rw [List.map_set,List.map_set,List.set_set];rfl
  ·have hs:shK c.kind=false:=h1;have ea:cV c b = { nV c b with len:=c.len - b }:=by unfold cV;rw [if_neg (by rw [hs];decide)];rfl
   have ew:IntKind.i64.wrap ((nV c b).len - b)=c.len - b:=wrap64 (x:=c.len - b) (by omega) (by omega);unfold awS;simp only [go_sem,simprocAttr,dtf];refine aE ?_;simp only [go_sem,simprocAttr,dtf];rw [ew,ea];refine ⟨by simp,by simp,?_,by simp,by simp⟩;rw [List.map_set,List.map_set,List.set_set];rfl
def tU (k q:Int) (n:Nat):Bool:=decide (q ≥ n)||decide ((if k=9 then q - 1 else q)<0)||decide ((if k=7∨k=9 then q+1 else q) ≥ n)
theorem aSt (N:List ClipR) (k q b:Int) (sp:RatR) (cs:T) (hq : 0≤q∧q≤1000) (hN:N.length≤1000):aK Tryz.prog 110 [.t (aM N), .agg (qC k q b sp cs)] (aX (tU k q N.length)):=by
 refine aG Tryz.X110 Tryz.func110 rfl Tryz.ntmps110 (by rw [Tryz.results110]) (aC _ ?_);simp only [go_sem,simprocAttr,dtf];refine aQ 6 .done rfl (by kernel_rfl) (by kernel_rfl) (by decide) ?_;simp only [go_sem,simprocAttr,dtf];refine ⟨by kernel_rfl,fun h7=>?_,fun h7=>?_⟩
 ·have h7':k=7:=by simpa using h7
  unfold awS;simp only [go_sem,simprocAttr,dtf];rw [wrap64 (x:=q+1) (by omega) (by omega)];unfold tU;subst h7';simp
 ·have h7':k≠7:=by simpa using h7
  unfold awS;simp only [go_sem,simprocAttr,dtf];refine ⟨fun h9=>?_,fun h9=>?_⟩
  ·have h9':k=9:=by simpa using h9
   unfold awS;simp only [go_sem,simprocAttr,dtf];rw [wrap64 (x:=q+1) (by omega) (by omega),wrap64 (x:=q - 1) (by omega) (by omega)];unfold tU;subst h9';simp
  ·have h9':k≠9:=by simpa using h9
   unfold awS;simp only [go_sem,simprocAttr,dtf];unfold tU;simp [h7',h9']
theorem Sk (x:Bool):aK Tryz.prog 116 [aX x] (aA (if x=true then 2 else 1)):=by
 refine aG Tryz.X116 Tryz.func116 rfl Tryz.ntmps116 (by rw [Tryz.results116]) (aC _ ?_);simp only [go_sem,simprocAttr,dtf];refine ⟨fun h=>?_,fun h=>?_⟩
 ·unfold awS;simp only [go_sem,simprocAttr,dtf];rw [h];rfl
 ·unfold awS;simp only [go_sem,simprocAttr,dtf];rw [h];rfl
theorem aT3 (c:ClipR) (h:c.fit):aK Tryz.prog 118 [mF c] (aX (!aN c)):=by
 refine aG Tryz.X118 Tryz.func118 rfl Tryz.ntmps118 (by rw [Tryz.results118]) (aC _ ?_);simp only [go_sem,simprocAttr,dtf];refine ⟨_,aG3 c h,?_⟩;simp only [go_sem,simprocAttr,dtf]
theorem cIdxBad (l:List ClipR) (h:∀ m∈l,m.fit) (hm:l.length≤1000000):aK Tryz.prog 186 [.t (aM l), .clo 118 []] (aA (if l.all aN then -1 else (l.findIdx fun c => !aN c:Nat))):=by
 refine aG Tryz.X186 Tryz.func186 rfl Tryz.ntmps186 (by rw [Tryz.results186]) (aC _ ?_);simp only [go_sem,simprocAttr,dtf];refine aJ (fun (k:Nat) σ => dW 8 (aA k) (dD [5,9,10,11,12,13,14,15,16,17,18] (eH σ))) (fun k=>k≤l.length ∧ ∀ i,i<k→aN (l.getD i default)=true) (fun k=>l.length - k) 0 (aE ?_) ⟨Nat.zero_le _,by omega⟩ ?_
 ·simp only [go_sem,simprocAttr,dtf]<;>simp
 ·rintro k ⟨hk,hi⟩;refine aC _ ?_;simp only [go_sem,simprocAttr,dtf];refine ⟨fun hlt=>?_,fun hge=>?_⟩
  ·simp only [bxx] at hlt;unfold awS;simp only [go_sem,simprocAttr,dtf];refine ⟨⟨by omega,by omega⟩,?_⟩;refine jR (aT3 _ (h _ (aP (by omega)))) rfl ?_;simp only [go_sem,simprocAttr,dtf];refine ⟨fun h2=>?_,fun h2=>?_⟩
   ·unfold awS;simp only [go_sem,simprocAttr,dtf];rw [fY (d:=default) (p:=aN) (k:=k) (by omega) (nt h2),if_neg Bool.false_ne_true,tY (by omega) hi (nt h2)]
   ·unfold awS;simp only [go_sem,simprocAttr,dtf];refine ⟨k+1,aE ?_,⟨by omega,upto hi (nf h2)⟩,by omega⟩;simp only [go_sem,simprocAttr,dtf]<;>simp [dC (show k<9223372036854775807 by omega)]
  ·simp only [bxx] at hge;unfold awS;simp only [go_sem,simprocAttr,dtf];rw [cU (d:=default) (p:=aN) (fun i h2=>hi i (by omega)),if_pos rfl]
theorem cHasBad (l:List ClipR) (h:∀ m∈l,m.fit) (hm:l.length≤1000000):aK Tryz.prog 117 [.t (aM l), .t (.lit (.func (.func 118) #[] #[]))] (aX (!l.all aN)):=by
 refine sX (.cons dN (.cons (aK4 _) .nil)) (args:=[.t (aM l), .clo 118 []]) ?_;refine aG Tryz.X117 Tryz.func117 rfl Tryz.ntmps117 (by rw [Tryz.results117]) (aC _ ?_);simp only [go_sem,simprocAttr,dtf];refine ⟨_,cIdxBad l h hm,?_⟩;simp only [go_sem,simprocAttr,dtf];cases l.all aN<;>simp<;>omega
def rX:Code→Code
 | .seq _ b=>b
 | c=>c
def seqL:Code→Code
 | .seq a _=>a
 | c=>c
def mD (Q:Exit→St→Prop) (σ : St):Prop:=AWP Tryz.prog 0 (rX (rX (rX (rX (rX (rX (rX (rX (rX (rX (rX ((Tryz.f49.body).getD .skip)))))))))))) Q σ
def qB (Q:Exit→St→Prop) (σ : St):Prop:=AWP Tryz.prog 0 (rX (rX (rX (rX (rX (rX (rX (rX (rX (rX (rX (rX ((Tryz.f49.body).getD .skip))))))))))))) Q σ
def jE:List V:=[aA 0,aA 0,aA 0,aA 0,aA 0,aA 0,aA 0, .t (.lit (.slice none 0 0))]
abbrev xH (n:Int):V := .tup [.t (.lit (.slice none 0 0)), .agg jE,aA n]
theorem trkTake {N:List ClipR} (h:bB N=true) {k:Nat} (hk:k≤N.length):Trk (N.take k):=by
 obtain ⟨t1,t2,t3⟩:=cZ h;have h1:∀ c∈N,1≤c.len:=fun c hc=>(aL (t2 c hc)).1
 exact uG (by rw [List.length_take];omega) (fun c hc=>t2 c (List.mem_of_mem_take hc)) (Int.le_trans (Hb h1 k) t3)
theorem Gq {N F:List ClipR} (h:CutOk 1000 N F) {q:Nat} (hq:q<N.length) : 0≤totL (N.take q)∧totL (N.take q)+(N.getD q default).len≤F.length∧1≤(N.getD q default).len:=by
 obtain ⟨t1,t2,t3⟩:=cZ h.tr;have h1:∀ c∈N,1≤c.len:=fun c hc=>(aL (t2 c hc)).1
 have h2:=Hb h1 (q+1);rw [dU N q hq,h.tot] at h2;exact ⟨cL _ fun c hc=>h1 c (List.mem_of_mem_take hc),h2,h1 _ (aP hq)⟩
theorem aAr:∀ (l:List ClipR),(∀ c∈l,c.len.natAbs≤100000)→(totL l).natAbs≤100000*l.length
 | [],_=>by simp [totL]
 | c::l,h=>by
  have h1:=aAr l fun d hd=>h d (List.mem_cons_of_mem _ hd)
  have h2:=h c List.mem_cons_self;simp only [totL,List.length_cons];omega
def rA (N:List ClipR) (k q b:Int) (sp:RatR) (cs:T) (B E0:Int):St := { fr:=([.t (aM N), .agg (qC k q b sp cs), .dead, .own 0, .t (.lit (.slice none 0 0)), .own 1,aA 0,aA q, .own 3, .clo 112 [.own 3, .own 0], .own 4, .clo 115 [.own 4, .own 3, .own 0],aA B,aA B,aA E0, .own 5]++List.replicate 173 .dead),h:=[(5, .box [aA 3,aA 0,aA 0,aA 0,aA 0,aA 0,aA 0, .t (.lit (.slice none 0 0))]),(4, .box [.clo 113 [.own 3, .own 0]]),(3, .box [.own 2]),(2,tB N),(1, .box jE),(0, .box (qC k q b sp cs))],nx:=6 }
set_option maxHeartbeats 8000000 in
theorem aAc (N F:List ClipR) (h:CutOk 1000 N F) (hl:N.length≤60) (hF:F.length≤500) (k:Int) (q:Nat) (b:Int) (sp:RatR) (cs:T) (hq:q≤1000) {r:V}
  (h1:tU k q N.length=true→r=xH 7) (h2:tU k q N.length=false→k=10→(N.getD q default).a.isZ=true→r=xH 13)
  (h3:tU k q N.length=false → ¬ (k=10∧(N.getD q default).a.isZ=true)→q<N.length→mD (aL7 Tryz.prog [.tmp 4, .cell 5 32, .tmp 6] (tQ r)) (rA N k q b sp cs (totL (N.take q)) (totL (N.take q)+(N.getD q default).len))) :
  aK Tryz.prog 49 [.t (aM N), .agg (qC k q b sp cs)] r:=by
 refine eD Tryz.X49 Tryz.func49 rfl Tryz.ntmps49 (by rw [Tryz.results49]) ?_;refine dM (aC _ ?_);simp only [go_sem,simprocAttr,dtf];refine dM (aC _ ?_);simp only [go_sem,simprocAttr,dtf];refine ⟨_,aSt N k q b sp cs (by omega) (by omega),?_⟩;simp only [go_sem,simprocAttr,dtf];refine ⟨fun hm=>?_,fun hm=>?_⟩
 ·rw [h1 hm];unfold awS;simp only [go_sem,simprocAttr,dtf];exact bJ rfl rfl
 ·have hq1:q<N.length:=by
   unfold tU at hm;simp at hm;omega
  unfold awS;simp only [go_sem,simprocAttr,dtf];refine dM (aC _ ?_);simp only [go_sem,simprocAttr,dtf];refine dM (aC _ ?_);obtain ⟨c,hc⟩:∃ c,c=N.getD q default:=⟨_,rfl⟩
  rw [← hc] at h2 h3;have hn:∀ d,nth d (N.map ClipR.c) q=ClipR.c c:=fun d=>by rw [vF hq1,hc]
  simp only [go_sem,simprocAttr,dtf,hn,List.length_map];refine ⟨fun _=>⟨by omega,by omega⟩,c.a.isZ,fun _=>jT c.a zSource,?_⟩;refine brW (b:=decide (k=10∧c.a.isZ=true)) ?_ ⟨fun hz=>?_,fun hz=>?_⟩
  ·rw [Bool.eq_iff_iff,decide_eq_true_eq];simp
  ·have hz':=of_decide_eq_true hz;rw [h2 hm hz'.1 hz'.2];unfold awS;simp only [go_sem,simprocAttr,dtf];exact bJ rfl rfl
  ·have hz' : ¬ (k=10∧c.a.isZ=true):=by simpa using hz
   have h4:=h3 hm hz' hq1;obtain ⟨B,hB⟩:∃ B,B=totL (N.take q):=⟨_,rfl⟩
   rw [← hB] at h4;have hcb:=Gq h hq1;rw [← hB, ← hc] at hcb;unfold awS;simp only [go_sem,simprocAttr,dtf];refine dM (aC _ ?_);simp only [go_sem,simprocAttr,dtf];refine cQ (aT0 N (by omega)) [] rfl (by omega) (by decide) ?_ rfl rfl rfl rfl ?_
   ·simp only [go_sem,simprocAttr,dtf]
   simp only [go_sem,simprocAttr,dtf,List.getElem?_nil];refine dM (aC _ ?_);simp only [go_sem,simprocAttr,dtf];refine dM (aC _ ?_);simp only [go_sem,simprocAttr,dtf];refine dM (aC _ ?_);simp only [go_sem,simprocAttr,dtf];refine dM (aC _ ?_);simp only [go_sem,simprocAttr,dtf];have htr:=trkTake h.tr (k:=q) (by omega);rw [show (N.map ClipR.c).take q=(N.take q).map ClipR.c from (List.map_take).symm];refine ⟨⟨by omega,by omega⟩,_,uC (N.take q) htr,?_⟩;simp only [go_sem,simprocAttr,dtf];rw [← hB];refine dM (aC _ ?_);simp only [go_sem,simprocAttr,dtf];refine aQ 10 .done rfl (by kernel_rfl) (by kernel_rfl) (by decide) ?_;simp only [go_sem,simprocAttr,dtf,hn,List.length_map];refine ⟨⟨by omega,by omega⟩,by kernel_rfl,?_⟩;rw [wrap64 (x:=B+c.len) (by omega) (by omega)];refine dM (aC _ ?_);simp only [go_sem,simprocAttr,dtf];refine sZ (aT [(5,some 15),(4,some 4),(3,some 3),(2,some 2),(1,some 1),(0,some 0)] ?_) h4;unfold rA jE;simp only [go_sem,simprocAttr,dtf];simp
def kS (N L:List ClipR) (k q b:Int) (sp:RatR) (cs:T) (A E uk:Int):St := { fr:=([.t (aM N), .dead, .dead, .own 0, .t (.lit (.slice none 0 0)), .own 1,aA 0, .dead, .own 3, .dead, .dead, .dead, .dead,aA A,aA E, .own 5]++List.replicate 173 .dead),h:=[(5, .box [aA uk,aA 0,aA 0,aA 0,aA 0,aA 0,aA 0, .t (.lit (.slice none 0 0))]),(4, .box [.clo 113 [.own 3, .own 0]]),(3, .box [.own 2]),(2,tB L),(1, .box jE),(0, .box (qC k q b sp cs))],nx:=6 }
theorem aSx (t:List ClipR) (hl:t.length≤200) (hb:∀ c∈t,c.len.natAbs≤100000):aK Tryz.prog 105 [.t (aM t)] (aA (totL t)):=by
 have key:∀ k,k≤t.length→(totL (t.take k)).natAbs≤100000*k:=by
  intro k
  induction k with
  | zero=>intro _;simp [totL]
  | succ k ih =>
   intro hk;have h1:=ih (by omega);have h2:=hb _ (aP (d:=default) (show k<t.length by omega));rw [dU t k (by omega)];omega
 refine aG Tryz.X105 Tryz.func105 rfl Tryz.ntmps105 (by rw [Tryz.results105]) (aC _ ?_);simp only [go_sem,simprocAttr,dtf];refine aJ (fun (k:Nat) σ => dW 3 (aA (totL (t.take k))) (dW 8 (aA k) σ)) (fun k=>k≤t.length) (fun k=>t.length - k) 0 (aE ?_) (Nat.zero_le _) ?_
 ·simp only [go_sem,simprocAttr,dtf]<;>simp [totL]
 ·rintro k hk;have hr:=key k hk;refine aC _ ?_;simp only [go_sem,simprocAttr,dtf];refine ⟨fun hlt=>?_,fun hge=>?_⟩
  ·simp only [bxx] at hlt;have hkl:k<t.length:=by omega
   have h2:=hb _ (aP (d:=default) hkl);unfold awS;simp only [go_sem,simprocAttr,dtf];refine ⟨⟨by omega,by omega⟩,k+1,aE ?_,by omega,by omega⟩;simp only [go_sem,simprocAttr,dtf];rw [wrap64 (x:=totL (t.take k)+(t.getD k default).len) (by omega) (by omega),dU t k hkl];simp [dC (show k<9223372036854775807 by omega)]
  ·simp only [bxx] at hge;unfold awS;simp only [go_sem,simprocAttr,dtf];rw [List.take_of_length_le (by omega)]
def aE0 (N L:List ClipR) (A E uk:Int):V :=
 if L.all aN=true then (if uk=2 then .tup [.t (aM L), .agg [aA 2,aA A,aA (E - A),aA 0,aA 0,aA 0,aA 0, .t (.lit (.slice none 0 0))],aA 0]
  else .tup [.t (aM L), .agg [aA uk,aA A,aA 0,aA 0,aA 0,aA 0,aA 0, .t (aM (pk (cW N A (E - A))))],aA 0]) else xH 2
set_option maxHeartbeats 8000000 in
theorem aTk (N F:List ClipR) (h:CutOk 1000 N F) (hl:N.length≤60) (hF:F.length≤500) (L:List ClipR) (hLf:∀ c∈L,c.fit) (hLl:L.length≤60) (hLt:∀ c∈L,c.len.natAbs≤100000) (k:Int) (q:Nat) (b:Int) (sp:RatR) (cs:T)
  (A E uk:Int) (hAE9:L.all aN=true→0≤A∧A≤E∧E≤900):qB (aL7 Tryz.prog [.tmp 4, .cell 5 32, .tmp 6] (tQ (aE0 N L A E uk))) (kS N L k q b sp cs A E uk):=by
 have htL:(totL L).natAbs≤6000000:=by have:=aAr L hLt;omega
 have hgt:decide (totL L > 2147483647)=false:=decide_eq_false (by omega);unfold qB kS;refine dM (aC _ ?_);simp only [go_sem,simprocAttr,dtf];refine Qc ?_;simp only [go_sem,simprocAttr,dtf];refine ⟨_,aSx L (by omega) hLt,?_⟩;simp only [go_sem,simprocAttr,dtf,hgt];refine ⟨_,cHasBad L hLf (by omega),rfl,?_⟩;simp only [go_sem,simprocAttr,dtf];unfold aE0;refine ⟨fun hv=>?_,fun hv=>?_⟩
 ·rw [if_neg (by simpa using hv)];unfold awS jE;simp only [go_sem,simprocAttr,dtf];exact bJ rfl rfl
 ·have hv':L.all aN=true:=by simpa using hv
  obtain ⟨hA,hAE,hE⟩:=hAE9 hv';rw [if_pos hv'];unfold awS;simp only [go_sem,simprocAttr,dtf];refine dM (aC _ ?_);simp only [go_sem,simprocAttr,dtf];refine dM (aC _ ?_);simp only [go_sem,simprocAttr,dtf];refine brW (b:=decide (uk=2)) ?_ ⟨fun h2=>?_,fun h2=>?_⟩
  ·rw [Bool.eq_iff_iff,decide_eq_true_eq,beq_iff_eq]
  ·have h2':=of_decide_eq_true h2;rw [if_pos h2'];unfold awS jE;simp only [go_sem,simprocAttr,dtf];refine aQ 5 .done rfl (by kernel_rfl) (by kernel_rfl) (by decide) ?_;simp only [go_sem,simprocAttr,dtf];refine ⟨by kernel_rfl,?_⟩;rw [wrap64 (x:=E - A) (by omega) (by omega)];refine bJ ?_ rfl;simp only [go_sem,simprocAttr,dtf];rw [h2']
  ·have h2' : ¬ uk=2:=by simpa using h2
   rw [if_neg h2'];unfold awS jE;simp only [go_sem,simprocAttr,dtf];refine dM (aC _ ?_);simp only [go_sem,simprocAttr,dtf];refine dT (Bs h hl (by omega) A E hA (by omega) (by omega) hAE (by omega) (by have:=h.tot;omega)) rfl ?_;simp only [go_sem,simprocAttr,dtf];refine dM (aC _ ?_);simp only [go_sem,simprocAttr,dtf];refine dM (aC _ ?_);simp only [go_sem,simprocAttr,dtf];refine aC _ ?_;simp only [go_sem,simprocAttr,dtf];refine aQ 5 .done rfl (by kernel_rfl) (by kernel_rfl) (by decide) ?_;simp only [go_sem,simprocAttr,dtf];refine ⟨by kernel_rfl,?_⟩;refine bJ ?_ rfl;simp only [go_sem,simprocAttr,dtf]
