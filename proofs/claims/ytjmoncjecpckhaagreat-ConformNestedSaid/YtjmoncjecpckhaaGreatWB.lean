/- Proved here: The contract of the function that cuts an interval out of a track, for use in the proofs of the given statements; conditions stand in each theorem. -/
import Derived.Test.YtjmoncjecpckhaaGreatWA
import Derived.Test.YtjmoncjecpckhaaGreatZQ
import Derived.Test.YtjmoncjecpckhaaGreatZL
set_option linter.unusedSimpArgs false
set_option linter.unusedVariables false
set_option linter.unusedSectionVars false
set_option linter.unnecessarySimpa false
namespace Go.Proofs.YtjmoncjecpckhaaGreat
open Go.RowKit
set_option maxRecDepth 4000
theorem nopCut:NopD Tryz.prog 41:=by
 refine ⟨Tryz.xen41,fun cap w=>callsDIn_of_wpSIn Tryz.func41 rfl trivial fun c₀ cs hu=>?_⟩
 have k1 : 2<cap.size+(4 - cap.size):=by omega
 have k2 : 3<cap.size+(4 - cap.size):=by omega
 have k3 : 2<max 4 cap.size:=by omega
 have k4 : 3<max 4 cap.size:=by omega
 apply wpSIn_seq
 apply wpSIn_region
 simp [wpOpsSIn,Fence.wide,go_sem,recoverD,hu,Tryz.ntmps41,Exit.thenS,k1,k2,k3,k4]
 refine wpSIn_cond (t:=false) (by simp [Act.eval,k2,k4]) ?_
 refine wpSIn_of_wpIn rfl (wpIn_skip ?_)
 refine ⟨rfl, .returning,by rw [← hu], .tuple #[],?_,⟨_,rfl⟩,rfl,rfl⟩
 simp [results,Tryz.results41,go_sem]
def gapC (n:Int):ClipR:=⟨n,0,zSource,zSource,0,0,0,⟨#[]⟩,0,[]⟩
def cutR:List ClipR→Int→List ClipR×Int
 | [],n=>([],n)
 | c::l,n=>if n=0 then ([],0) else ({ c with len:=min c.len n }::(cutR l (n - min c.len n)).1,(cutR l (n - min c.len n)).2)
def gapEnd (r:List ClipR×Int):List ClipR:=if 0<r.2 then r.1 ++ [gapC r.2] else r.1
def advD (D:List ClipR) (o:Int):List ClipR:=advR (D.getD 0 default) o::D.drop 1
def cutT (t:List ClipR) (a n:Int):List ClipR :=
 if ((findL t 0 a).2.2&&decide (0<n))=true then gapEnd (cutR (advD (t.drop (findL t 0 a).1.toNat) (findL t 0 a).2.1) n) else gapEnd ([],n)
theorem cells_refl:∀ x:List T,asTs x x
 | []=>trivial
 | x::xs=>⟨.inl rfl,cells_refl xs⟩
theorem gap_as (r:Int):asTs [.lit (.int .i64 r), .lit (.int .i64 0), .lit (.int .i64 0), .lit (.string ⟨#[]⟩), .lit (.int .i64 0), .lit (.int .i64 0), .lit (.int .i64 0), .lit (.int .i64 0), .lit (.bool false),
  .lit (.int .i64 0), .lit (.string ⟨#[]⟩), .lit (.int .i64 0), .lit (.int .i64 0), .lit (.int .i64 0), .lit (.int .i64 0), .lit (.bool false), .lit (.int .i64 0), .lit (.int .i64 0), .lit (.int .i64 0), .lit (.string ⟨#[]⟩), .lit (.int .i64 0), .lit (.slice none 0 0)] (ClipR.c (gapC r)) :=
 ⟨.inl rfl, .inl rfl, .inl rfl, .inl rfl, .inl rfl, .inl rfl, .inl rfl, .inl rfl, .inl rfl, .inl rfl, .inl rfl, .inl rfl, .inl rfl, .inl rfl, .inl rfl, .inl rfl, .inl rfl, .inl rfl, .inl rfl, .inl rfl, .inl rfl, .inr ⟨rfl,_,_,rfl⟩,trivial⟩
theorem rows_snoc {x y:List T} (h:asTs x y):∀ {xs:List (List T)},asRows (xs ++ [x]) (xs ++ [y])
 | []=>⟨h,trivial⟩
 | z::xs=>⟨cells_refl z,rows_snoc h⟩
theorem cCutIO (t:List ClipR) (a b:Int) (hfit:∀ c∈t,c.fit) (hv:vTrack t=true) (h0 : 0≤a) (h1:a≤b) (h2:b≤100000)
  (hadv:∀ i o,i<t.length→0≤o→o<(t.getD i default).len→findL t 0 a=((i:Int),o,true)→advC (t.getD i default) o=(advR (t.getD i default) o,0))
  (hin:(findL t 0 a).2.2=true → ∃ i:Nat, ∃ o:Int,findL t 0 a=((i:Int),o,true)∧i<t.length∧0≤o∧o<(t.getD i default).len)
  (hT:Trk (cutT t a (b - a))) (hTf:∀ c∈cutT t a (b - a),c.fit) (h64:(packP (cutT t a (b - a))).length≤64) :
  CIO Tryz.prog 25 0 [] [.t (tclips t),vint a,vint b] (.tup [.own 0,vint 0]) [(0,RowC (packP (cutT t a (b - a))))] 1:=by
 refine cio_of Tryz.xen25 Tryz.func25 rfl Tryz.ntmps25 (by rw [Tryz.results25]) (aw_ok _ ?_)
 simp only [go_sem,simprocAttr]
 refine ⟨_,cPTrack t hfit,?_⟩
 simp only [go_sem,simprocAttr]
 obtain ⟨t64,tv,ttot⟩:=vTrack_parts hv
 have hv':=hv
 unfold vTrack at hv'
 simp only [Bool.and_eq_true,List.all_eq_true] at hv'
 have hg:(!vTrack t||decide (a<0)||decide (b<a)||decide (b > 2147483647))=false:=by
  rw [hv,decide_eq_false (by omega),decide_eq_false (by omega),decide_eq_false (by omega)]
  rfl
 simp only [go_sem,simprocAttr,hg]
 refine ⟨fun h=>h.elim,?_⟩
 unfold awS
 simp only [go_sem,simprocAttr,wrap64 (x:=b - a) (by omega) (by omega)]
 refine ⟨_,cPfind t a ⟨by omega,by omega⟩ hv'.1.2 t64,?_⟩
 obtain ⟨n,hn⟩:∃ n,n=b - a:=⟨_,rfl⟩
 have hn0 : 0≤n∧n≤100000:=by omega
 rw [← hn] at hT hTf h64 ⊢
 rw [if_pos h0]
 simp only [go_sem,simprocAttr]
 obtain ⟨R,hR⟩:∃ R,R=cutT t a n:=⟨_,rfl⟩
 rw [← hR] at hT hTf h64 ⊢
 have hend:∀ r:List ClipR×Int,gapEnd r=R→True:=fun _ _=>trivial
 refine ⟨fun hok=>?_,fun hno=>?_⟩
 ·have hok2:(findL t 0 a).2.2=true∧0<n:=by simpa using hok
  obtain ⟨i,o,hf,hi,ho0,ho1⟩:=hin hok2.1
  have hcl:=vClip_len (tv i hi)
  have ha:=hadv i o hi ho0 ho1 hf
  have hRe:R=gapEnd (cutR (advR (t.getD i default) o::t.drop (i+1)) n):=by
   rw [hR]
   unfold cutT advD
   rw [hok,if_pos rfl,hf]
   simp only [Int.toNat_natCast]
   rw [drop_cons hi]
   rfl
  obtain ⟨c0,hc0⟩:∃ c0,c0=t.getD i default:=⟨_,rfl⟩
  obtain ⟨D,hD⟩:∃ D,D=t.drop i:=⟨_,rfl⟩
  have hDl:D.length=t.length - i:=by rw [hD,List.length_drop]
  rw [hf]
  unfold awS
  simp only [go_sem,simprocAttr,Int.toNat_natCast]
  refine ⟨⟨by omega,by omega⟩,?_⟩
  have hsl:List.drop i (List.take t.length (List.map ClipR.c t))=List.map ClipR.c D:=by rw [List.take_of_length_le (by simp), ← List.map_drop,hD]
  rw [hsl,List.length_map]
  obtain ⟨E,hE⟩:∃ E,E=advR (t.getD i default) o::t.drop (i+1):=⟨_,rfl⟩
  have hEl:E.length=D.length:=by rw [hE,hDl,List.length_cons,List.length_drop];omega
  have hDE:∀ k,k<D.length→k≠0→D.getD k default=E.getD k default:=fun k hk h=>by
   obtain ⟨k,rfl⟩:∃ k',k=k'+1:=⟨k - 1,by omega⟩
   rw [hE,hD,drop_cons hi]
   rfl
  have hD0:D.getD 0 default=t.getD i default:=by rw [hD,drop_cons hi];rfl
  have hE0:E.getD 0 default=advR (t.getD i default) o:=by rw [hE];rfl
  have hEv:∀ k,k<E.length→1≤(E.getD k default).len∧(E.getD k default).len≤2147483647:=fun k hk=>by
   rcases Nat.eq_zero_or_pos k with h | h
   ·subst h
    rw [hE0]
    exact ⟨by show 1≤(t.getD i default).len - o;omega,by show (t.getD i default).len - o≤_;omega⟩
   ·rw [← hDE k (by omega) (by omega)]
    refine vClip_len (hv'.1.2 _ (List.mem_of_mem_drop (i:=i) ?_))
    rw [← hD]
    exact mem_getD (by omega)
  rw [← hE] at hRe
  refine awp_loop_f (fun (x:Nat×List ClipR×Int) σ => { fr:=(((deadS [13,14,52,53,54,55,56,57,58,59,60,61,62,63,64,65,66,67,68,69,70,71,72,73,74,75,76,77,78,79,80,81,82,83,84,85,86,87,88,89,90,91,92,93,94,95] σ).fr.set 8 (vint x.2.2)).set 9 (.own 2)).set 51 (vint x.1),h:=[(2,RowC x.2.1),(1, .box [vint 0]),(0, .box [.t (.lit (.slice none 0 0))])],nx:=3,df := σ.df })
   (fun x=>x.1≤D.length∧x.2.1.length=x.1∧0≤x.2.2∧x.2.2≤n∧(x.2.1++(cutR (E.drop x.1) x.2.2).1,(cutR (E.drop x.1) x.2.2).2)=cutR E n) (fun x=>D.length - x.1) (0,[],n) (weak_of [(2,none),(1,some 1),(0,some 0)] ?_) ⟨Nat.zero_le _,rfl,hn0.1,Int.le_refl _,rfl⟩ ?_
  ·simp only [go_sem,simprocAttr]<;>simp [tRows]
  ·rintro ⟨k,O,r⟩ ⟨hk,hO,hr0,hrn,hcut⟩
   simp only at hk hO hr0 hrn hcut
   refine aw_ok _ ?_
   simp only [go_sem,simprocAttr]
   refine ⟨fun hlt=>?_,fun hge=>?_⟩
   ·simp only [bxx] at hlt
    have hkE:k<E.length:=by omega
    have hke:=hEv k hkE
    rw [drop_cons hkE] at hcut
    unfold awS
    simp only [go_sem,simprocAttr]
    refine ⟨⟨by omega,by omega⟩,?_⟩
    refine ⟨fun hz=>?_,fun hz=>?_⟩
    ·have hz:r=0:=by simpa using hz
     subst hz
     have hRf:R=gapEnd (O,0):=by
      rw [hRe, ← hcut]
      unfold cutR
      simp
     have hR2:R=O:=by rw [hRf];rfl
     subst hR2
     unfold awS
     simp only [go_sem,simprocAttr]
     refine ⟨fun h=>absurd h (by decide),fun _=>?_⟩
     unfold awS
     simp only [go_sem,simprocAttr]
     refine lcall_gi Tryz.xen45 ?_
     simp only [go_sem,simprocAttr]
     refine icall_io (cPackIO R hTf hT) [] rfl (by omega) (by decide) ?_ rfl rfl rfl rfl ?_
     ·simp only [go_sem,simprocAttr]
     simp only [go_sem,simprocAttr,List.getElem?_nil]
     refine ⟨fun h=>absurd h (by first | (simp;done) | (simp;omega) | trace_state),fun _=>?_⟩
     unfold awS
     simp only [go_sem,simprocAttr]
     refine ⟨nopCut,weak_of [(0,some 4)] ?_⟩
     simp only [go_sem,simprocAttr]
     simp
    ·have hz:r≠0:=by simpa using hz
     have hcut':(O ++ { E.getD k default with len:=min (E.getD k default).len r }::(cutR (E.drop (k+1)) (r - min (E.getD k default).len r)).1,(cutR (E.drop (k+1)) (r - min (E.getD k default).len r)).2)=cutR E n:=by
      rw [← hcut]
      conv=>rhs;unfold cutR
      rw [if_neg hz]
     have hmin : 1≤min (E.getD k default).len r∧min (E.getD k default).len r≤r:=by omega
     obtain ⟨m,hm⟩:∃ m,m=min (E.getD k default).len r:=⟨_,rfl⟩
     unfold awS
     simp only [go_sem,simprocAttr]
     refine ⟨fun hk0=>?_,fun hk0=>?_⟩
     ·have hk0:k=0:=by simpa using hk0
      subst hk0
      unfold awS
      simp only [go_sem,simprocAttr,hD0]
      refine ⟨_,cAdvance (t.getD i default) o (hfit _ (mem_getD hi)) ⟨by omega,by omega⟩,?_⟩
      rw [ha]
      simp only [go_sem,simprocAttr]
      rw [hE0] at hcut' hmin hm
      rw [← hm] at hcut' hmin ⊢
      refine ⟨⟨by unfold maxLen;omega,by omega⟩,(0+1,O ++ [{ advR (t.getD i default) o with len:=m }],r - m),weak_of [(2,some 5),(1,some 1),(0,some 0)] ?_,⟨by simp only;omega,by simp only [List.length_append,List.length_cons,List.length_nil];omega,by simp only;omega,by simp only;omega,by simp only;rw [← hcut'];simp⟩,by simp only;omega⟩
      simp only [go_sem,simprocAttr,wrap64 (x:=r - m) (by omega) (by omega)]<;>simp
      first | rfl | exact ⟨rfl,rfl⟩ | exact ⟨rfl,by decide⟩ | trace_state
     ·have hk0:k≠0:=by simpa using hk0
      rw [hDE k (by omega) hk0]
      unfold awS
      simp only [go_sem,simprocAttr]
      rw [← hm] at hcut' hmin ⊢
      refine ⟨⟨by unfold maxLen;omega,by omega⟩,(k+1,O ++ [{ E.getD k default with len:=m }],r - m),weak_of [(2,some 5),(1,some 1),(0,some 0)] ?_,⟨by simp only;omega,by simp only [List.length_append,List.length_cons,List.length_nil];omega,by simp only;omega,by simp only;omega,by simp only;rw [← hcut'];simp⟩,by simp only;omega⟩
      simp only [go_sem,simprocAttr,wrap64 (x:=r - m) (by omega) (by omega),wrap1 (show k<9223372036854775807 by omega)]<;>simp
      first | rfl | exact ⟨rfl,rfl⟩ | exact ⟨rfl,by decide⟩ | trace_state
   ·simp only [bxx] at hge
    have hRf:R=gapEnd (O,r):=by
     rw [hRe, ← hcut,List.drop_of_length_le (by omega)]
     simp [cutR]
    unfold awS
    simp only [go_sem,simprocAttr]
    refine brW (b:=decide (0<r)) ?_ ⟨fun hr=>?_,fun hr=>?_⟩
    ·rfl
    ·have hR2:R=O ++ [gapC r]:=by rw [hRf];unfold gapEnd;rw [if_pos (by simpa using hr)]
     unfold awS
     simp only [go_sem,simprocAttr]
     refine ⟨⟨by unfold maxLen;omega,by omega⟩,?_⟩
     have e:List.map ClipR.c O ++ [ClipR.c (gapC r)]=List.map ClipR.c R:=by rw [hR2,List.map_append];rfl
     refine lcall_gi Tryz.xen45 ?_
     simp only [go_sem,simprocAttr]
     refine icall_io (r := .own 0) (m:=0) (h:=[]) (h':=[(0,RowC (packP R))]) (n':=1) (cio_args (.cons (as_rows (rows_snoc (xs:=List.map ClipR.c O) (gap_as r))) .nil) (by rw [e];exact cPackIO R hTf hT)) [] rfl (by omega) (by decide) ?_ rfl rfl rfl rfl ?_
     ·simp only [go_sem,simprocAttr]
     simp only [go_sem,simprocAttr,List.getElem?_nil]
     refine ⟨fun h=>absurd h (by first | (simp;done) | (simp;omega) | trace_state),fun _=>?_⟩
     unfold awS
     simp only [go_sem,simprocAttr]
     refine ⟨nopCut,weak_of [(0,some 5)] ?_⟩
     simp only [go_sem,simprocAttr]
     simp
    ·have hR2:R=O:=by rw [hRf];unfold gapEnd;rw [if_neg (by simpa using hr)]
     subst hR2
     unfold awS
     simp only [go_sem,simprocAttr]
     refine lcall_gi Tryz.xen45 ?_
     simp only [go_sem,simprocAttr]
     refine icall_io (cPackIO R hTf hT) [] rfl (by omega) (by decide) ?_ rfl rfl rfl rfl ?_
     ·simp only [go_sem,simprocAttr]
     simp only [go_sem,simprocAttr,List.getElem?_nil]
     refine ⟨fun h=>absurd h (by first | (simp;done) | (simp;omega) | trace_state),fun _=>?_⟩
     unfold awS
     simp only [go_sem,simprocAttr]
     refine ⟨nopCut,weak_of [(0,some 3)] ?_⟩
     simp only [go_sem,simprocAttr]
     simp
 ·have hRf:R=gapEnd ([],n):=by
   rw [hR]
   unfold cutT
   have : ¬ ((findL t 0 a).2.2&&decide (0<n))=true:=by simpa using hno
   rw [if_neg this]
  unfold awS
  simp only [go_sem,simprocAttr]
  refine brW (b:=decide (0<n)) ?_ ⟨fun hr=>?_,fun hr=>?_⟩
  ·rfl
  ·have hR2:R = [gapC n]:=by rw [hRf];unfold gapEnd;rw [if_pos (by simpa using hr)];rfl
   unfold awS
   simp only [go_sem,simprocAttr]
   have e : [ClipR.c (gapC n)]=List.map ClipR.c R:=by rw [hR2];rfl
   refine ⟨by decide,?_⟩
   refine lcall_gi Tryz.xen45 ?_
   simp only [go_sem,simprocAttr]
   refine icall_io (r := .own 0) (m:=0) (h:=[]) (h':=[(0,RowC (packP R))]) (n':=1) (cio_args (.cons (as_rows (rows_snoc (xs:=[]) (gap_as n))) .nil) (by rw [List.nil_append,e];exact cPackIO R hTf hT)) [] rfl (by omega) (by decide) ?_ rfl rfl rfl rfl ?_
   ·simp only [go_sem,simprocAttr]
   simp only [go_sem,simprocAttr,List.getElem?_nil]
   refine ⟨fun h=>absurd h (by first | (simp;done) | (simp;omega) | trace_state),fun _=>?_⟩
   unfold awS
   simp only [go_sem,simprocAttr]
   refine ⟨nopCut,weak_of [(0,some 4)] ?_⟩
   simp only [go_sem,simprocAttr]
   simp
  ·have hR2:R = []:=by rw [hRf];unfold gapEnd;rw [if_neg (by simpa using hr)]
   subst hR2
   unfold awS
   simp only [go_sem,simprocAttr]
   refine ⟨_,cPackNil,?_⟩
   simp only [go_sem,simprocAttr]
   refine ⟨fun h=>absurd h (by first | (simp;done) | (simp;omega) | trace_state),fun _=>?_⟩
   unfold awS
   simp only [go_sem,simprocAttr]
   refine ⟨nopCut,weak_of [(0,none)] ?_⟩
   simp only [go_sem,simprocAttr]
   rfl
open Go.RowKit
set_option maxRecDepth 4000
def one (c:ClipR) (k:Int):ClipR := { advR c k with len:=1 }
def frC (c:ClipR):List ClipR:=(List.range c.len.toNat).map fun k:Nat=>one c (k:Int)
def fr (l:List ClipR):List ClipR:=l.flatMap frC
theorem fr_append (a b:List ClipR):fr (a++b)=fr a++fr b:=List.flatMap_append ..
theorem fr_cons (c:ClipR) (l:List ClipR):fr (c::l)=frC c++fr l:=rfl
theorem frC_len (c:ClipR):(frC c).length=c.len.toNat:=by unfold frC;simp
theorem fr_len:∀ {l:List ClipR},(∀ c∈l,1≤c.len)→((fr l).length:Int)=totL l
 | [],_=>rfl
 | c::l,h=>by
  have ih:=fr_len (l:=l) fun d hd=>h d (by simp [hd])
  have h1:=h c (by simp)
  rw [fr_cons,List.length_append,frC_len]
  simp only [totL]
  omega
theorem one_len (c:ClipR) (m k:Int):one { c with len:=m } k=one c k:=rfl
theorem one_adv {c:ClipR} (hv:vClip c=true) (a k:Int):one (advR c a) k=one c (a+k):=by
 unfold one
 rw [advR_add hv]
theorem range_add (a b:Nat) (f:Nat→ClipR):(List.range (a+b)).map f=(List.range a).map f++(List.range b).map fun k=>f (a+k):=by
 rw [List.range_add,List.map_append,List.map_map]
 rfl
theorem frC_take (c:ClipR) (m:Int) (h:m≤c.len):frC { c with len:=m }=(frC c).take m.toNat:=by
 unfold frC
 rw [← List.map_take,List.take_range]
 simp only
 rw [Nat.min_eq_left (by omega)]
 rfl
theorem frC_drop {c:ClipR} (hv:vClip c=true) {o:Int} (h0 : 0≤o) (h1:o≤c.len):frC (advR c o)=(frC c).drop o.toNat:=by
 have e:c.len.toNat=o.toNat+(c.len - o).toNat:=by omega
 unfold frC
 rw [e,range_add,List.drop_left' (by simp)]
 show (List.range (c.len - o).toNat).map _=_
 refine List.map_congr_left fun k _=>?_
 rw [one_adv hv]
 congr 1
 omega
theorem frC_join {c q:ClipR} (hc:vClip c=true) (hq:vClip q=true) (h:contC c q=true):frC { c with len:=c.len+q.len }=frC c++frC q:=by
 have e:=(contC_iff hc hq).1 h
 have l1:=vClip_len hc
 have l2:=vClip_len hq
 have e2:(c.len+q.len).toNat=c.len.toNat+q.len.toNat:=by omega
 unfold frC
 simp only
 rw [e2,range_add]
 congr 1
 refine List.map_congr_left fun k _=>?_
 have e3:q = { advR c c.len with len:=q.len }:=e
 have e4:one q (k:Int)=one (advR c c.len) (k:Int):=by
  rw [e3]
  rfl
 rw [one_len,e4,one_adv hc]
 congr 1
 omega
theorem fr_pkA:∀ (l:List ClipR) (c:ClipR),vClip c=true→(∀ d∈l,vClip d=true)→c.len+totL l≤2147483647→fr (pkA c l)=frC c++fr l
 | [],c,_,_,_=>by simp [pkA,fr]
 | q::l,c,hc,hl,ht=>by
  have hq:=hl q (by simp)
  have hl2:∀ d∈l,vClip d=true:=fun d hd=>hl d (by simp [hd])
  have h0:=totL_nonneg l fun d hd=>(vClip_len (hl2 d hd)).1
  have hc1:=vClip_len hc
  have hq1:=vClip_len hq
  simp only [totL] at ht
  rw [pkA]
  split
  ·rename_i hcc
   rw [fr_pkA l _ (join_ok hc hq hcc (by omega)) hl2 (by simp only;omega),frC_join hc hq hcc,fr_cons,List.append_assoc]
  ·rw [fr_cons,fr_pkA l q hq hl2 (by omega),fr_cons]
theorem fr_pk {l:List ClipR} (h:∀ d∈l,vClip d=true) (ht:totL l≤2147483647):fr (pk l)=fr l:=by
 cases l with
 | nil=>rfl
 | cons c l=>exact fr_pkA l c (h c (by simp)) (fun d hd=>h d (by simp [hd])) (by simpa [totL] using ht)
structure Gd (m:Int) (c:ClipR):Prop where
 ok:vClip c=true
 fit:c.fit
 pl:∀ k,0≤k→k≤m→placedOk (movedS c.a k)=true∧placedOk (movedS c.b k)=true
theorem gd_le {m m':Int} {c:ClipR} (h:Gd m c) (hm:m'≤m):Gd m' c:=⟨h.ok,h.fit,fun k h0 h1=>h.pl k h0 (by omega)⟩
theorem gd_adv {m:Int} {c:ClipR} (h:Gd m c) {o:Int} (h0 : 0≤o) (h1:o<c.len) (h2:o≤m):Gd (m - o) (advR c o):=by
 obtain ⟨v1,v2,v3,v4,v5,v6,v7,v8⟩:=vClip_parts h.ok
 refine ⟨advR_ok h.ok h0 h1 (h.pl o h0 h2).1 (h.pl o h0 h2).2,advR_fit h.fit h.ok h0 h1,fun k k0 k1=>?_⟩
 show placedOk (movedS (movedS c.a o) k)=true∧placedOk (movedS (movedS c.b o) k)=true
 rw [movedS_add v6,movedS_add v7]
 exact h.pl (o+k) (by omega) (by omega)
theorem gd_len {m:Int} {c:ClipR} (h:Gd m c) {n:Int} (h0 : 1≤n) (h1:n≤c.len):Gd m { c with len:=n }:=by
 have:=vClip_len h.ok
 exact ⟨headR_ok h.ok h0 h1,fit_len h.fit (by omega) (by omega),h.pl⟩
theorem gd_gap (m n:Int) (h0 : 1≤n) (h1:n≤2147483647):Gd m (gapC n):=by
 have ez:zSource.isZ=true:=zS_isZ
 refine ⟨?_,⟨⟨by show _≤n;omega,by show n≤_;omega⟩,i0,zfit,zfit,i0,i0,i0,i0⟩,fun k _ _=>?_⟩
 ·unfold vClip baseOk gapC
  simp only [zS_ok,decide_eq_true h0,decide_eq_true h1,Bool.and_true]
  simp [kindOk,noShare,emp,ez,vChans]
 ·show placedOk (movedS zSource k)=true∧placedOk (movedS zSource k)=true
  rw [movedS_z ez]
  exact ⟨by unfold placedOk;rw [ez];rfl,by unfold placedOk;rw [ez];rfl⟩
open Go.RowKit
set_option maxRecDepth 4000
theorem cutR_fr:∀ (E:List ClipR) (n:Int),(∀ c∈E,1≤c.len)→0≤n→fr (cutR E n).1=(fr E).take n.toNat∧(cutR E n).2=n - min n (totL E)∧(cutR E n).1.length≤E.length ∧ ∀ d∈(cutR E n).1, ∃ c∈E, ∃ m,1≤m∧m≤c.len∧d = { c with len:=m }
 | [],n,_,hn=>⟨by simp [cutR,fr],by simp only [cutR,totL];omega,by simp [cutR],fun d hd=>by simp [cutR] at hd⟩
 | c::l,n,h,hn=>by
  have h1:=h c (by simp)
  have h2:∀ d∈l,1≤d.len:=fun d hd=>h d (by simp [hd])
  have h0:=totL_nonneg l h2
  unfold cutR
  split
  ·rename_i hz
   subst hz
   refine ⟨by simp [fr],?_,by simp,fun d hd=>by simp at hd⟩
   simp only [totL]
   omega
  ·rename_i hz
   obtain ⟨a1,a2,a3,a4⟩:=cutR_fr l (n - min c.len n) h2 (by omega)
   have hm : 1≤min c.len n∧min c.len n≤c.len:=by omega
   refine ⟨?_,?_,by simp only [List.length_cons];omega,fun d hd=>?_⟩
   ·rw [fr_cons,fr_cons,a1,frC_take c _ hm.2,List.take_append,frC_len]
    rcases Int.le_total c.len n with hle | hle
    ·have e3:(frC c).take c.len.toNat=frC c:=List.take_of_length_le (by rw [frC_len];exact Nat.le_refl _)
     have e4:(frC c).take n.toNat=frC c:=List.take_of_length_le (by rw [frC_len];omega)
     have e5:(n - c.len).toNat=n.toNat - c.len.toNat:=by omega
     rw [Int.min_eq_left hle,e3,e4,e5]
    ·rw [Int.min_eq_right hle]
     have e1:(n - n).toNat=0:=by omega
     have e2:n.toNat - c.len.toNat=0:=by omega
     rw [e1,e2]
   ·simp only [totL]
    rw [a2]
    clear a1 a2 a3 a4 hm
    simp only [Int.min_def]
    repeat' split
    all_goals omega
   ·rcases List.mem_cons.1 hd with rfl | hd
    ·exact ⟨c,by simp,_,hm.1,hm.2,rfl⟩
    ·obtain ⟨c',h3,h4⟩:=a4 d hd
     exact ⟨c',by simp [h3],h4⟩
theorem findL_fr:∀ (t:List ClipR) (i:Nat) (a:Int),(∀ c∈t,vClip c=true)→0≤a →
  ((findL t i a).2.2=true ∧ ∃ (j:Nat) (o:Int),findL t i a=(((i+j:Nat):Int),o,true)∧j<t.length∧0≤o∧o<(t.getD j default).len∧o≤a∧fr (advR (t.getD j default) o::t.drop (j+1))=(fr t).drop a.toNat)∨((findL t i a).2.2=false∧totL t≤a)
 | [],i,a,_,ha => .inr ⟨rfl,by simpa [totL] using ha⟩
 | c::l,i,a,h,ha=>by
  have hc:=h c (by simp)
  have h1:=vClip_len hc
  rw [findL_cons]
  split
  ·rename_i hlt
   refine .inl ⟨rfl,0,a,rfl,by simp,ha,hlt,Int.le_refl _,?_⟩
   show fr (advR c a::l)=_
   rw [fr_cons,fr_cons,frC_drop hc ha (by omega),List.drop_append,frC_len]
   have e:a.toNat - c.len.toNat=0:=by omega
   rw [e,List.drop_zero]
  ·rename_i hlt
   rcases findL_fr l (i+1) (a - c.len) (fun d hd=>h d (by simp [hd])) (by omega) with ⟨g1,j,o,g2,g3,g4,g5,g6,g7⟩ | ⟨g1,g2⟩
   ·refine .inl ⟨g1,j+1,o,?_,by simp only [List.length_cons];omega,g4,?_,by omega,?_⟩
    ·rw [g2]
     congr 1
     omega
    ·simpa using g5
    ·have e1:(c::l).getD (j+1) default=l.getD j default:=by simp
     have e2:(c::l).drop (j+1+1)=l.drop (j+1):=rfl
     have e3:(frC c).drop a.toNat = []:=List.drop_of_length_le (by rw [frC_len];omega)
     have e4:(a - c.len).toNat=a.toNat - c.len.toNat:=by omega
     rw [e1,e2,g7,fr_cons,List.drop_append,frC_len,e3,List.nil_append,e4]
   ·exact .inr ⟨g1,by simp only [totL];omega⟩
theorem frC_gap (r:Int):frC (gapC r)=List.replicate r.toNat (gapC 1):=by
 have e:∀ k:Int,one (gapC r) k=gapC 1:=fun k=>by
  unfold one advR gapC
  simp only [movedS_z zS_isZ]
  rfl
 unfold frC
 simp only [e]
 rw [List.map_const',List.length_range]
 rfl
def cutF (l:List ClipR) (a n:Nat):List ClipR:=(l.drop a).take n++List.replicate (n - ((l.drop a).take n).length) (gapC 1)
theorem gapEnd_fr {r:List ClipR×Int} (n:Nat) (h1:(fr r.1).length+r.2.toNat=n):fr (gapEnd r)=fr r.1++List.replicate (n - (fr r.1).length) (gapC 1):=by
 unfold gapEnd
 split
 ·rw [fr_append]
  congr 1
  show frC (gapC r.2) ++ []=_
  rw [List.append_nil,frC_gap]
  congr 1
  omega
 ·have:n - (fr r.1).length=0:=by omega
  rw [this]
  simp
theorem cut_facts {m:Int} {t:List ClipR} (hg:∀ c∈t,Gd m c) {a n:Int} (ha : 0≤a) (ham:a≤m) (hn : 0≤n) (hn2:n≤100000) :
  (∀ d∈cutT t a n,Gd (m - a) d)∧(cutT t a n).length≤t.length+1∧fr (cutT t a n)=cutF (fr t) a.toNat n.toNat:=by
 have hv:∀ c∈t,vClip c=true:=fun c hc=>(hg c hc).ok
 have h1:∀ c∈t,1≤c.len:=fun c hc=>(vClip_len (hv c hc)).1
 have hfl:=fr_len h1
 rcases findL_fr t 0 a hv ha with ⟨g1,j,o,g2,g3,g4,g5,g6,g7⟩ | ⟨g1,g2⟩
 ·rw [Nat.zero_add] at g2
  have hgj:=hg _ (mem_getD (d:=default) g3)
  by_cases hz : 0<n
  ·have e:cutT t a n=gapEnd (cutR (advR (t.getD j default) o::t.drop (j+1)) n):=by
    unfold cutT advD
    rw [g1,decide_eq_true hz,g2]
    simp only [Bool.and_self,if_true,Int.toNat_natCast]
    rw [drop_cons g3]
    rfl
   obtain ⟨E,hE⟩:∃ E,E=advR (t.getD j default) o::t.drop (j+1):=⟨_,rfl⟩
   have hEg:∀ c∈E,Gd (m - a) c:=fun c hc=>by
    rw [hE] at hc
    rcases List.mem_cons.1 hc with rfl | hc
    ·exact gd_le (gd_adv hgj g4 g5 (by omega)) (by omega)
    ·exact gd_le (hg c (List.mem_of_mem_drop hc)) (by omega)
   have hEl:E.length≤t.length:=by rw [hE,List.length_cons,List.length_drop];omega
   have hE1:∀ c∈E,1≤c.len:=fun c hc=>(vClip_len (hEg c hc).ok).1
   obtain ⟨c1,c2,c3,c4⟩:=cutR_fr E n hE1 hn
   have hEf:=fr_len hE1
   rw [← hE] at e g7
   rw [e]
   have c4':∀ d∈(cutR E n).1,Gd (m - a) d:=fun d hd=>by
    obtain ⟨c,hc,k,k1,k2,rfl⟩:=c4 d hd
    exact gd_len (hEg c hc) k1 k2
   have hlen:(fr (cutR E n).1).length+(cutR E n).2.toNat=n.toNat:=by
    rw [c1,List.length_take,c2]
    omega
   refine ⟨fun d hd=>?_,?_,?_⟩
   ·unfold gapEnd at hd
    split at hd
    ·rename_i hp
     rcases List.mem_append.1 hd with hd | hd
     ·exact c4' d hd
     ·simp only [List.mem_cons,List.not_mem_nil,or_false] at hd
      rw [hd]
      exact gd_gap _ _ (by omega) (by omega)
    ·exact c4' d hd
   ·unfold gapEnd
    split
    ·rw [List.length_append];simp only [List.length_cons,List.length_nil];omega
    ·omega
   ·rw [gapEnd_fr n.toNat hlen,c1,g7]
    rfl
  ·have hz0:n=0:=by omega
   subst hz0
   have e:cutT t a 0 = []:=by
    unfold cutT gapEnd
    simp
   rw [e]
   exact ⟨fun d hd=>(by cases hd),by simp,by simp [fr,cutF]⟩
 ·have e:cutT t a n=gapEnd ([],n):=by
   unfold cutT
   rw [g1]
   simp
  rw [e]
  have hdrop:(fr t).drop a.toNat = []:=List.drop_of_length_le (by omega)
  refine ⟨fun d hd=>?_,?_,?_⟩
  ·unfold gapEnd at hd
   split at hd
   ·simp only [List.nil_append,List.mem_cons,List.not_mem_nil,or_false] at hd
    rename_i hp
    simp only at hp
    rw [hd]
    exact gd_gap _ _ (by omega) (by omega)
   ·cases hd
  ·unfold gapEnd
   split<;>simp
  ·rw [gapEnd_fr n.toNat (by simp [fr])]
   unfold cutF
   rw [hdrop]
   simp [fr]
theorem pkA_gd {m:Int}:∀ (l:List ClipR) (c:ClipR),Gd m c→(∀ d∈l,Gd m d)→c.len+totL l≤2147483647 → ∀ d∈pkA c l,Gd m d
 | [],c,hc,_,_,d,hd=>by
  simp only [pkA,List.mem_cons,List.not_mem_nil,or_false] at hd
  rw [hd];exact hc
 | q::l,c,hc,hl,ht,d,hd=>by
  have hq:=hl q (by simp)
  have hl2:∀ d∈l,Gd m d:=fun d hd=>hl d (by simp [hd])
  have h0:=totL_nonneg l fun d hd=>(vClip_len (hl2 d hd).ok).1
  have hc1:=vClip_len hc.ok
  have hq1:=vClip_len hq.ok
  simp only [totL] at ht
  rw [pkA] at hd
  split at hd
  ·rename_i hcc
   exact pkA_gd l _ ⟨join_ok hc.ok hq.ok hcc (by omega),fit_len hc.fit (by omega) (by omega),hc.pl⟩ hl2 (by simp only;omega) d hd
  ·rcases List.mem_cons.1 hd with hd | hd
   ·rw [hd];exact hc
   ·exact pkA_gd l q hq hl2 (by omega) d hd
theorem pk_gd {m:Int} {l:List ClipR} (h:∀ d∈l,Gd m d) (ht:totL l≤2147483647):∀ d∈pk l,Gd m d:=by
 cases l with
 | nil=>intro d hd;simp [pk] at hd
 | cons c l=>exact pkA_gd l c (h c (by simp)) (fun d hd=>h d (by simp [hd])) (by simpa [totL] using ht)
theorem len_le_tot:∀ {l:List ClipR},(∀ c∈l,1≤c.len) → ∀ c∈l,c.len≤totL l
 | [],_,d,hd=>by cases hd
 | c::l,h,d,hd=>by
  have h1:=h c (by simp)
  have h2:∀ d∈l,1≤d.len:=fun d hd=>h d (by simp [hd])
  have h0:=totL_nonneg l h2
  simp only [totL]
  rcases List.mem_cons.1 hd with rfl | hd
  ·omega
  ·have:=len_le_tot h2 d hd
   omega
structure CutOk (m:Int) (X:List ClipR) (F:List ClipR):Prop where
 gd:∀ d∈X,Gd m d
 tr:vTrack X=true
 fr:fr X=F
 tot:totL X=(F.length:Int)
theorem cutOk_mk {m:Int} {X F:List ClipR} (h1:∀ d∈X,Gd m d) (h2:X.length≤64) (h3:fr X=F) (h4:F.length≤100000):CutOk m X F:=by
 have h5:=fr_len (l:=X) fun c hc=>(vClip_len (h1 c hc).ok).1
 rw [h3] at h5
 exact ⟨h1,vTrack_mk h2 (fun c hc=>(h1 c hc).ok) (by omega),h3,h5.symm⟩
theorem cutOk_pk {m:Int} {X F:List ClipR} (h:CutOk m X F):CutOk m (pk X) F:=by
 obtain ⟨t1,t2,t3⟩:=track_all h.tr
 refine ⟨pk_gd h.gd t3,vTrack_mk (Nat.le_trans (pk_size X) t1) (fun c hc=>(pk_gd h.gd t3 c hc).ok) (by rw [pk_tot];exact t3),by rw [fr_pk t2 t3];exact h.fr,by rw [pk_tot];exact h.tot⟩
theorem cutF_len (l:List ClipR) (a n:Nat):(cutF l a n).length=n:=by
 unfold cutF
 rw [List.length_append,List.length_replicate,List.length_take]
 omega
theorem cutOk_cut {m:Int} {t F:List ClipR} (h:CutOk m t F) (hl:t.length≤60) {a n:Int} (ha : 0≤a) (ham:a≤m) (hn : 0≤n) (hn2:n≤1000):CutOk (m - a) (cutT t a n) (cutF F a.toNat n.toNat)∧(cutT t a n).length≤t.length+1:=by
 obtain ⟨c1,c2,c3⟩:=cut_facts h.gd ha ham hn (by omega)
 rw [h.fr] at c3
 exact ⟨cutOk_mk c1 (by omega) c3 (by rw [cutF_len];omega),c2⟩
end Go.Proofs.YtjmoncjecpckhaaGreat
