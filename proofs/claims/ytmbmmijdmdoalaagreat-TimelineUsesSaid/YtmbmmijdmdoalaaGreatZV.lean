/- Proved here: The deferred function that recovers does nothing where there is no panic, for use in the proofs of the given statements; conditions stand in each theorem. -/
import Derived.Test.YtmbmmijdmdoalaaGreatZG
import Derived.Test.YtmbmmijdmdoalaaGreatZH
import Derived.RecoverIn
import Derived.Test.YtmbmmijdmdoalaaGreatZU
import Derived.Test.YtmbmmijdmdoalaaGreatZS
import Derived.Test.YtmbmmijdmdoalaaGreatZJ
set_option linter.unusedSimpArgs false
set_option linter.unusedVariables false
set_option linter.unusedSectionVars false
set_option linter.unnecessarySimpa false
namespace Go.Proofs.YtmbmmijdmdoalaaGreat
open Go.RowKit
set_option maxRecDepth 4000
theorem nopValid:NopD Tryz.prog 106:=by
 refine ⟨Tryz.xen106,fun cap w=>callsDIn_of_wpSIn Tryz.func106 rfl trivial fun c₀ cs hu=>?_⟩
 have k1 : 1<cap.size+(3 - cap.size):=by omega
 have k2 : 2<cap.size+(3 - cap.size):=by omega
 have k3 : 1<max 3 cap.size:=by omega
 have k4 : 2<max 3 cap.size:=by omega
 apply wpSIn_seq
 apply wpSIn_region
 simp [wpOpsSIn,Fence.wide,go_sem,recoverD,hu,Tryz.ntmps106,Exit.thenS,k1,k2,k3,k4]
 refine wpSIn_cond (t:=false) (by simp [Act.eval,k2,k4]) ?_
 refine wpSIn_of_wpIn rfl (wpIn_skip ?_)
 refine ⟨rfl, .returning,by rw [← hu], .tuple #[],?_,⟨_,rfl⟩,rfl,rfl⟩
 simp [results,Tryz.results106,go_sem]
open Go.RowKit
set_option maxRecDepth 4000
abbrev KM:=List (ByteArray×Int)
def kE (K:KM):List (Value×V):=K.map fun e=>(Value.string e.1,vint e.2)
def getK (n:ByteArray):KM→Option Int
 | []=>none
 | e::K=>if n=e.1 then some e.2 else getK n K
def putK (n:ByteArray) (v:Int):KM→KM
 | []=>[(n,v)]
 | e::K=>if n=e.1 then (n,v)::K else e::putK n v K
theorem look_K (n:ByteArray):∀ K:KM,lookE (.string n) (kE K)=(getK n K).map fun v=>vint v
 | []=>rfl
 | e::K=>by
  have h:=look_K n K
  unfold kE at h ⊢
  simp only [List.map_cons,lookE,getK,keyB,decide_eq_true_eq,h]
  split<;>rfl
theorem put_K (n:ByteArray) (v:Int):∀ K:KM,putE (.string n) (vint v) (kE K)=kE (putK n v K)
 | []=>rfl
 | e::K=>by
  have h:=put_K n v K
  unfold kE at h ⊢
  simp only [List.map_cons,putE,putK,keyB,decide_eq_true_eq,h]
  split<;>rfl
theorem kinds_K:∀ K:KM,kindsB .string (kE K)=true
 | []=>rfl
 | e::K=>by
  have h:=kinds_K K
  unfold kE at h ⊢
  simp only [List.map_cons,kindsB,kindB,h,Bool.and_self]
attribute [go_sem] kinds_K
theorem getK_put (n m:ByteArray) (v:Int):∀ K:KM,getK n (putK m v K)=if n=m then some v else getK n K
 | []=>rfl
 | e::K=>by
  have ih:=getK_put n m v K
  unfold putK
  split
  ·rename_i h
   subst h
   simp only [getK]
   split<;>rfl
  ·rename_i h
   simp only [getK,ih]
   split
   ·rename_i h2
    subst h2
    rw [if_neg (fun h3=>h h3.symm)]
   ·rfl
def valK (n:ByteArray) (K:KM):Int:=(getK n K).getD 0
def inner (p:ProjR) (n:ByteArray):List ByteArray:=namedS ((seqOf p.seqs n).getD default) 2
def chainL (go:ByteArray→KM→Int×KM):List ByteArray→KM→Int→Bool×Int×KM
 | [],K,l=>(true,l,K)
 | x::xs,K,l=>if (go x K).1=0 then (false,l,(go x K).2) else chainL go xs (go x K).2 (max l (IntKind.i64.wrap ((go x K).1+1)))
theorem chainL_snoc (go:ByteArray→KM→Int×KM) (x:ByteArray):∀ (xs:List ByteArray) (K:KM) (l:Int),chainL go (xs ++ [x]) K l =
  if (chainL go xs K l).1=true then (if (go x (chainL go xs K l).2.2).1=0 then (false,(chainL go xs K l).2.1,(go x (chainL go xs K l).2.2).2) else (true,max (chainL go xs K l).2.1 (IntKind.i64.wrap ((go x (chainL go xs K l).2.2).1+1)),(go x (chainL go xs K l).2.2).2)) else chainL go xs K l
 | [],K,l=>by by_cases h:(go x K).1=0<;>simp [chainL,h]
 | y::xs,K,l=>by
  simp only [List.cons_append,chainL]
  split
  ·rfl
  ·exact chainL_snoc go x xs _ _
theorem chainL_stop {go:ByteArray→KM→Int×KM}:∀ {xs:List ByteArray} {K:KM} {l:Int} (ys:List ByteArray),(chainL go xs K l).1=false→chainL go (xs++ys) K l=chainL go xs K l
 | [],K,l,ys,h=>by unfold chainL at h;cases h
 | x::xs,K,l,ys,h=>by
  by_cases h0:(go x K).1=0
  ·simp [chainL,h0]
  ·simp only [List.cons_append,chainL,if_neg h0] at h ⊢
   exact chainL_stop ys h
theorem pureEs_kE:∀ K:KM,pureEs (kE K)=True
 | []=>rfl
 | e::K=>by
  have h:=pureEs_kE K
  unfold kE at h ⊢
  simp only [List.map_cons,pureEs,h,and_true]
  exact eq_true rfl
attribute [go_sem] pureEs_kE
theorem ren_kE (g:Nat→Nat):∀ K:KM,V.renE g (kE K)=kE K∧mentE (kE K) = []
 | []=>⟨rfl,rfl⟩
 | e::K=>by
  have h:=ren_kE g K
  unfold kE at h ⊢
  simp only [List.map_cons,V.renE,mentE,h.1,h.2,V.ren,V.ment,List.nil_append,and_self]
def chainF (p:ProjR):Nat→ByteArray→KM→Int×KM
 | 0,_,K=>(0,K)
 | f+1,n,K=>if valK n K≠0 then (max (valK n K) 0,K) else
   if (chainL (chainF p f) (inner p n) (putK n (-1) K) 1).1=true
   then ((chainL (chainF p f) (inner p n) (putK n (-1) K) 1).2.1,putK n (chainL (chainF p f) (inner p n) (putK n (-1) K) 1).2.1 (chainL (chainF p f) (inner p n) (putK n (-1) K) 1).2.2)
   else (0,(chainL (chainF p f) (inner p n) (putK n (-1) K) 1).2.2)
theorem valK_put (n m:ByteArray) (v:Int) (K:KM):valK n (putK m v K)=if n=m then v else valK n K:=by
 unfold valK
 rw [getK_put]
 split<;>rfl
def unk (l:List SequenceR) (K:KM):Nat:=(l.filter fun s=>decide (valK s.name K=0)).length
def grows (K K':KM):Prop := ∀ n,valK n K≠0→valK n K'≠0
theorem grows.refl (K:KM):grows K K:=fun _ h=>h
theorem grows.trans {a b c:KM} (h:grows a b) (h':grows b c):grows a c:=fun n hn=>h' n (h n hn)
theorem grows_put (n:ByteArray) {v:Int} (hv:v≠0) (K:KM):grows K (putK n v K):=fun m h=>by
 rw [valK_put]
 split
 ·exact hv
 ·exact h
theorem unk_le {K K':KM} (h:grows K K'):∀ l:List SequenceR,unk l K'≤unk l K
 | []=>Nat.le_refl _
 | s::l=>by
  have ih:=unk_le h l
  unfold unk at ih ⊢
  simp only [List.filter_cons]
  have h1:=h s.name
  by_cases h2:valK s.name K=0
  ·rw [decide_eq_true h2]
   split<;>simp<;>omega
  ·rw [decide_eq_false h2,decide_eq_false (h1 h2)]
   simpa using ih
theorem unk_put {K:KM} {n:ByteArray} {v:Int} (hv:v≠0) (hn:valK n K=0):∀ {l:List SequenceR},(∃ s∈l,s.name=n)→unk l (putK n v K)<unk l K
 | [],h=>by obtain ⟨s,hs,_⟩:=h;cases hs
 | s::l,h=>by
  have hle:=unk_le (grows_put n hv K) l
  have ih:=fun h'=>unk_put (K:=K) (n:=n) hv hn (l:=l) h'
  unfold unk at ih hle ⊢
  simp only [List.filter_cons]
  by_cases hs:s.name=n
  ·rw [hs,decide_eq_true hn,valK_put,if_pos rfl,decide_eq_false hv]
   simp
   omega
  ·have h':∃ s∈l,s.name=n:=by
    obtain ⟨s',h1,h2⟩:=h
    rcases List.mem_cons.1 h1 with rfl | h1
    ·exact absurd h2 hs
    ·exact ⟨s',h1,h2⟩
   have ih:=ih h'
   rw [valK_put,if_neg hs]
   split<;>simp<;>omega
theorem chainL_ge {go:ByteArray→KM→Int×KM}:∀ (xs:List ByteArray) (K:KM) (l:Int),l≤(chainL go xs K l).2.1
 | [],K,l=>Int.le_refl _
 | x::xs,K,l=>by
  unfold chainL
  split
  ·exact Int.le_refl _
  ·exact Int.le_trans (Int.le_max_left _ _) (chainL_ge xs _ _)
theorem chainL_grows {go:ByteArray→KM→Int×KM} (hg:∀ x K,grows K (go x K).2):∀ (xs:List ByteArray) (K:KM) (l:Int),grows K (chainL go xs K l).2.2
 | [],K,l=>grows.refl K
 | x::xs,K,l=>by
  unfold chainL
  split
  ·exact hg x K
  ·exact (hg x K).trans (chainL_grows hg xs _ _)
theorem chainF_grows (p:ProjR):∀ (f:Nat) (n:ByteArray) (K:KM),grows K (chainF p f n K).2
 | 0,n,K=>grows.refl K
 | f+1,n,K=>by
  unfold chainF
  split
  ·exact grows.refl K
  ·have h:=(grows_put n (v := -1) (by decide) K).trans (chainL_grows (chainF_grows p f) (inner p n) (putK n (-1) K) 1)
   split
   ·refine h.trans (grows_put _ ?_ _)
    have:=chainL_ge (go:=chainF p f) (inner p n) (putK n (-1) K) 1
    omega
   ·exact h
structure SeqOk (s:SequenceR):Prop where
 hv:s.video.length≤8
 hs:s.sound.length≤8
 hm:∀ t∈s.video++s.sound,t.length≤maxLen
 hz:∀ kind, ∀ x∈namesK kind (clipsOf s),x.size≤maxLen
 hn:∀ kind,(namesK kind (clipsOf s)).length≤1000000
structure ShownOk (p:ProjR):Prop where
 ok:∀ s∈p.seqs,SeqOk s
 there:∀ s∈p.seqs, ∀ x∈namesK 2 (clipsOf s),(seqOf p.seqs x).isSome=true
theorem mem_namedS {s:SequenceR} {kind:Int} {x:ByteArray}:x∈namedS s kind ↔ x∈namesK kind (clipsOf s):=by
 unfold namedS
 rw [(sortN_perm _).mem_iff,mem_once]
set_option maxHeartbeats 4000000 in
theorem cChain (p:ProjR) (hp:ShownOk p):∀ (f:Nat) (n:ByteArray) (K:KM),(seqOf p.seqs n).isSome=true→unk p.seqs K<f →
  CIO Tryz.prog 113 1 [(0, .map (kE K))] [vcat p,vstr n, .own 0] (vint (chainF p f n K).1) [(0, .map (kE (chainF p f n K).2))] 1
 | 0,n,K,_,h=>absurd h (Nat.not_lt_zero _)
 | f+1,n,K,hs,hk=>by
  obtain ⟨s,hsn⟩:=Option.isSome_iff_exists.1 hs
  obtain ⟨hsm,hsname⟩:=lastOf_mem hsn
  have hso:=hp.ok s hsm
  have ih:=cChain p hp f
  refine cio_of Tryz.xen113 Tryz.func113 rfl Tryz.ntmps113 (by rw [Tryz.results113]) (aw_ok _ ?_)
  by_cases hv:valK n K=0
  ·have e0:chainF p (f+1) n K=if (chainL (chainF p f) (inner p n) (putK n (-1) K) 1).1=true
   then ((chainL (chainF p f) (inner p n) (putK n (-1) K) 1).2.1,putK n (chainL (chainF p f) (inner p n) (putK n (-1) K) 1).2.1 (chainL (chainF p f) (inner p n) (putK n (-1) K) 1).2.2)
   else (0,(chainL (chainF p f) (inner p n) (putK n (-1) K) 1).2.2):=by
    conv=>lhs;unfold chainF
    rw [if_neg (fun h=>h hv)]
   have hin:inner p n=namedS s 2:=by unfold inner;rw [hsn];rfl
   obtain ⟨ns,hns⟩:∃ ns,ns=namedS s 2:=⟨_,rfl⟩
   rw [hin, ← hns] at e0
   have hu:unk p.seqs (putK n (-1) K)<f:=Nat.lt_of_lt_of_le (unk_put (by decide) hv ⟨s,hsm,hsname⟩) (Nat.le_of_lt_succ hk)
   have hthere:∀ x∈ns,(seqOf p.seqs x).isSome=true:=fun x hx=>hp.there s hsm x (mem_namedS.1 (hns ▸ hx))
   obtain ⟨K1,hK1⟩:∃ K1,K1=putK n (-1) K:=⟨_,rfl⟩
   have hnl:ns.length≤1000000:=by
    rw [hns];unfold namedS;rw [(sortN_perm _).length_eq]
    exact Nat.le_trans (once_length_le _) (hso.hn 2)
   rw [← hK1] at e0 hu
   rw [e0]
   clear e0
   rcases hg:getK n K with _ | v
   ·simp only [go_sem,simprocAttr,look_K,hg,Option.map_none]
    refine ⟨_,cNamed p n 2 s hsn hso.hv hso.hs hso.hm (hso.hz 2) (hso.hn 2),?_⟩
    simp only [go_sem,simprocAttr,put_K]
    rw [← hns, ← hK1]
    refine awp_loop_f (fun (k:Nat) σ => setB 0 (.map (kE (chainL (chainF p f) (ns.take k) K1 1).2.2)) (setS 8 (vint (chainL (chainF p f) (ns.take k) K1 1).2.1) (setS 25 (vint k) (deadS [10,11,26,27,28,29,30,31,32,33,34,35,36,37,38,39] (cleanS σ))))) (fun k=>k≤ns.length∧(chainL (chainF p f) (ns.take k) K1 1).1=true) (fun k=>ns.length - k) 0 (weak_self ?_) ⟨Nat.zero_le _,rfl⟩ ?_
    ·simp only [go_sem,simprocAttr]<;>simp [chainL,pureEs_kE]
    ·rintro k ⟨hk,hok⟩
     refine aw_ok _ ?_
     simp only [go_sem,simprocAttr]
     refine ⟨fun hlt=>?_,fun hge=>?_⟩
     ·simp only [bxx] at hlt
      have hk':k<ns.length:=by omega
      obtain ⟨x,hx⟩:∃ x,x=ns.getD k default:=⟨_,rfl⟩
      have hxm:x∈ns:=by rw [hx,getD_of_lt hk'];exact List.getElem_mem hk'
      obtain ⟨r,hr⟩:∃ r,r=chainL (chainF p f) (ns.take k) K1 1:=⟨_,rfl⟩
      have hur:unk p.seqs r.2.2<f:=Nat.lt_of_le_of_lt (unk_le (hr ▸ chainL_grows (chainF_grows p f) (ns.take k) K1 1) p.seqs) hu
      have hsn':=chainL_snoc (chainF p f) x (ns.take k) K1 1
      rw [← hr,if_pos (hr ▸ hok),hx, ← take_snoc hk', ← hx] at hsn'
      rw [← hr]
      unfold awS
      simp only [go_sem,simprocAttr,hk',List.length_map]
      have hxd:ns.getD k { data := #[] }=x:=by rw [hx];rfl
      rw [hxd]
      refine ⟨⟨by omega,by omega⟩,lcall_io Tryz.xen113 (icall_io (ih x r.2.2 (hthere x hxm) hur) [0] rfl (by omega) (by decide) ?_ rfl rfl rfl rfl ?_)⟩
      ·simp only [go_sem,simprocAttr,(ren_kE id _).2,(ren_kE _ _).1]
      ·simp only [go_sem,simprocAttr]
       refine brW (b:=decide ((chainF p f x r.2.2).1=0)) rfl ⟨fun h0=>?_,fun h0=>?_⟩
       ·rw [decide_eq_true_eq] at h0
        rw [if_pos h0] at hsn'
        unfold awS
        simp only [go_sem,simprocAttr]
        have hst:=chainL_stop (go:=chainF p f) (xs:=ns.take (k+1)) (K:=K1) (l:=1) (ns.drop (k+1)) (by rw [hsn'])
        rw [List.take_append_drop,hsn'] at hst
        rw [hst]
        refine weak_self ?_
        simp only [go_sem,simprocAttr]<;>simp [ren_kE]
       ·rw [decide_eq_false_iff_not] at h0
        rw [if_neg h0] at hsn'
        unfold awS
        simp only [go_sem,simprocAttr]
        refine ⟨k+1,weak_self ?_,⟨by omega,by rw [hsn']⟩,by omega⟩
        simp only [go_sem,simprocAttr]
        rw [hsn']
        simp [wrap1 (show k<9223372036854775807 by omega),ren_kE]
     ·simp only [bxx] at hge
      unfold awS
      simp only [go_sem,simprocAttr]
      rw [List.take_of_length_le (show ns.length≤k by omega)] at hok
      rw [List.take_of_length_le (show ns.length≤k by omega)]
      rw [hok,if_pos rfl]
      refine weak_self ?_
      simp only [go_sem,simprocAttr,put_K]<;>simp
   ·have hv0:v=0:=by simpa [valK,hg] using hv
    subst hv0
    simp only [go_sem,simprocAttr,look_K,hg,Option.map_some]
    refine ⟨_,cNamed p n 2 s hsn hso.hv hso.hs hso.hm (hso.hz 2) (hso.hn 2),?_⟩
    simp only [go_sem,simprocAttr,put_K]
    rw [← hns, ← hK1]
    refine awp_loop_f (fun (k:Nat) σ => setB 0 (.map (kE (chainL (chainF p f) (ns.take k) K1 1).2.2)) (setS 8 (vint (chainL (chainF p f) (ns.take k) K1 1).2.1) (setS 25 (vint k) (deadS [10,11,26,27,28,29,30,31,32,33,34,35,36,37,38,39] (cleanS σ))))) (fun k=>k≤ns.length∧(chainL (chainF p f) (ns.take k) K1 1).1=true) (fun k=>ns.length - k) 0 (weak_self ?_) ⟨Nat.zero_le _,rfl⟩ ?_
    ·simp only [go_sem,simprocAttr]<;>simp [chainL,pureEs_kE]
    ·rintro k ⟨hk,hok⟩
     refine aw_ok _ ?_
     simp only [go_sem,simprocAttr]
     refine ⟨fun hlt=>?_,fun hge=>?_⟩
     ·simp only [bxx] at hlt
      have hk':k<ns.length:=by omega
      obtain ⟨x,hx⟩:∃ x,x=ns.getD k default:=⟨_,rfl⟩
      have hxm:x∈ns:=by rw [hx,getD_of_lt hk'];exact List.getElem_mem hk'
      obtain ⟨r,hr⟩:∃ r,r=chainL (chainF p f) (ns.take k) K1 1:=⟨_,rfl⟩
      have hur:unk p.seqs r.2.2<f:=Nat.lt_of_le_of_lt (unk_le (hr ▸ chainL_grows (chainF_grows p f) (ns.take k) K1 1) p.seqs) hu
      have hsn':=chainL_snoc (chainF p f) x (ns.take k) K1 1
      rw [← hr,if_pos (hr ▸ hok),hx, ← take_snoc hk', ← hx] at hsn'
      rw [← hr]
      unfold awS
      simp only [go_sem,simprocAttr,hk',List.length_map]
      have hxd:ns.getD k { data := #[] }=x:=by rw [hx];rfl
      rw [hxd]
      refine ⟨⟨by omega,by omega⟩,lcall_io Tryz.xen113 (icall_io (ih x r.2.2 (hthere x hxm) hur) [0] rfl (by omega) (by decide) ?_ rfl rfl rfl rfl ?_)⟩
      ·simp only [go_sem,simprocAttr,(ren_kE id _).2,(ren_kE _ _).1]
      ·simp only [go_sem,simprocAttr]
       refine brW (b:=decide ((chainF p f x r.2.2).1=0)) rfl ⟨fun h0=>?_,fun h0=>?_⟩
       ·rw [decide_eq_true_eq] at h0
        rw [if_pos h0] at hsn'
        unfold awS
        simp only [go_sem,simprocAttr]
        have hst:=chainL_stop (go:=chainF p f) (xs:=ns.take (k+1)) (K:=K1) (l:=1) (ns.drop (k+1)) (by rw [hsn'])
        rw [List.take_append_drop,hsn'] at hst
        rw [hst]
        refine weak_self ?_
        simp only [go_sem,simprocAttr]<;>simp [ren_kE]
       ·rw [decide_eq_false_iff_not] at h0
        rw [if_neg h0] at hsn'
        unfold awS
        simp only [go_sem,simprocAttr]
        refine ⟨k+1,weak_self ?_,⟨by omega,by rw [hsn']⟩,by omega⟩
        simp only [go_sem,simprocAttr]
        rw [hsn']
        simp [wrap1 (show k<9223372036854775807 by omega),ren_kE]
     ·simp only [bxx] at hge
      unfold awS
      simp only [go_sem,simprocAttr]
      rw [List.take_of_length_le (show ns.length≤k by omega)] at hok
      rw [List.take_of_length_le (show ns.length≤k by omega)]
      rw [hok,if_pos rfl]
      refine weak_self ?_
      simp only [go_sem,simprocAttr,put_K]<;>simp
  ·obtain ⟨v,hg⟩:∃ v,getK n K=some v:=by
    cases h:getK n K with
    | none=>exact absurd (by unfold valK;rw [h];rfl) hv
    | some v=>exact ⟨v,rfl⟩
   have hvv:valK n K=v:=by unfold valK;rw [hg];rfl
   have e0:chainF p (f+1) n K=(max v 0,K):=by
    conv=>lhs;unfold chainF
    rw [if_pos hv,hvv]
   rw [e0]
   simp only [go_sem,simprocAttr,look_K,hg,Option.map_some]
   refine brW (b:=true) (by rw [hvv] at hv;simpa using hv) ⟨fun _=>?_,fun h=>absurd h (by decide)⟩
   unfold awS
   simp only [go_sem,simprocAttr]
   refine weak_self ?_
   simp only [go_sem,simprocAttr]<;>simp
open Go.RowKit
set_option maxRecDepth 4000
theorem asClo (f:FuncId):∀ (w:World) (E:Env) v,RdV w E (.t (.lit (.func (.func f) #[] #[]))) v→RdV w E (.clo f []) v:=by
 intro w E v h
 obtain ⟨rfl,_⟩:=rdV_lit_inv h
 simp only [RdV]
 exact ⟨#[],rfl,by simp only [RdVs]⟩
theorem findIdx_hit {α : Type} [Inhabited α] {l:List α} {p : α → Bool} {k:Nat} (hk:k<l.length) (hi:∀ i,i<k→p (l.getD i default)=true) (h:p (l.getD k default)=false):l.findIdx (fun m => !p m)=k:=by
 rw [List.findIdx_eq hk]
 refine ⟨?_,fun j hj=>?_⟩
 ·rw [getD_of_lt hk] at h
  rw [h]
  rfl
 ·have:=hi j hj
  rw [getD_of_lt (by omega)] at this
  rw [this]
  rfl
theorem cEveryS (t:List ClipR) (hm:t.length≤maxLen):CPure Tryz.prog 173 [.t (tclips t), .clo 174 []] (vbool (t.all silentB)):=by
 refine cpure_of Tryz.xen173 Tryz.func173 rfl Tryz.ntmps173 (by rw [Tryz.results173]) (aw_ok _ ?_)
 simp only [go_sem,simprocAttr]
 refine awp_loop_f (fun (k:Nat) σ => setS 9 (vint k) (deadS [6,10,11,12,13,14,15,16,17] (cleanS σ))) (fun k=>k≤t.length ∧ ∀ i,i<k→silentB (t.getD i default)=true) (fun k=>t.length - k) 0 (weak_self ?_) ⟨Nat.zero_le _,by omega⟩ ?_
 ·simp only [go_sem,simprocAttr]<;>simp
 ·rintro k ⟨hk,hi⟩
  refine aw_ok _ ?_
  simp only [go_sem,simprocAttr]
  refine ⟨fun hlt=>?_,fun hge=>?_⟩
  ·simp only [bxx] at hlt
   unfold awS
   simp only [go_sem,simprocAttr]
   refine ⟨⟨by omega,by omega⟩,?_⟩
   refine lcall_pure (cPSilent _) rfl ?_
   simp only [go_sem,simprocAttr]
   refine ⟨fun h2=>?_,fun h2=>?_⟩
   ·unfold awS
    simp only [go_sem,simprocAttr]
    rw [all_hit (d:=default) (p:=silentB) (k:=k) (by omega) (nt h2)]
   ·unfold awS
    simp only [go_sem,simprocAttr]
    refine ⟨k+1,weak_self ?_,⟨by omega,upto hi (nf h2)⟩,by omega⟩
    simp only [go_sem,simprocAttr]<;>simp [wrap_of (show k<t.length by omega) hm]
  ·simp only [bxx] at hge
   unfold awS
   simp only [go_sem,simprocAttr]
   rw [all_done (d:=default) (p:=silentB) (fun i h2=>hi i (by omega))]
theorem cEveryS2 (t:List ClipR) (hm:t.length≤maxLen):CPure Tryz.prog 173 [.t (tclips t), .t (.lit (.func (.func 174) #[] #[]))] (vbool (t.all silentB)) :=
 cpure_as (.cons as_refl (.cons (asClo _) .nil)) (cEveryS t hm)
theorem cAud (s:SequenceR) (c:ClipR):CPure Tryz.prog 175 [vclip c, .elem 9 (SequenceR.c s) [SequenceR.c s] 0 0] (vbool (audB s.channels c)):=by
 refine cpure_of Tryz.xen175 Tryz.func175 rfl Tryz.ntmps175 (by rw [Tryz.results175]) (aw_ok _ ?_)
 simp only [go_sem,simprocAttr,nth_one,SequenceR.c]
 refine ⟨_,cPAudible c s.channels,?_⟩
 simp only [go_sem,simprocAttr]
theorem cEveryA (s:SequenceR) (t:List ClipR) (hm:t.length≤maxLen):CPure Tryz.prog 173 [.t (tclips t), .clo 175 [.elem 9 (SequenceR.c s) [SequenceR.c s] 0 0]] (vbool (t.all (audB s.channels))):=by
 refine cpure_of Tryz.xen173 Tryz.func173 rfl Tryz.ntmps173 (by rw [Tryz.results173]) (aw_ok _ ?_)
 simp only [go_sem,simprocAttr]
 refine awp_loop_f (fun (k:Nat) σ => setS 9 (vint k) (deadS [6,10,11,12,13,14,15,16,17] (cleanS σ))) (fun k=>k≤t.length ∧ ∀ i,i<k→(audB s.channels) (t.getD i default)=true) (fun k=>t.length - k) 0 (weak_self ?_) ⟨Nat.zero_le _,by omega⟩ ?_
 ·simp only [go_sem,simprocAttr]<;>simp
 ·rintro k ⟨hk,hi⟩
  refine aw_ok _ ?_
  simp only [go_sem,simprocAttr]
  refine ⟨fun hlt=>?_,fun hge=>?_⟩
  ·simp only [bxx] at hlt
   unfold awS
   simp only [go_sem,simprocAttr]
   refine ⟨⟨by omega,by omega⟩,?_⟩
   refine lcall_pure (cAud s _) rfl ?_
   simp only [go_sem,simprocAttr]
   refine ⟨fun h2=>?_,fun h2=>?_⟩
   ·unfold awS
    simp only [go_sem,simprocAttr]
    rw [all_hit (d:=default) (p:=(audB s.channels)) (k:=k) (by omega) (nt h2)]
   ·unfold awS
    simp only [go_sem,simprocAttr]
    refine ⟨k+1,weak_self ?_,⟨by omega,upto hi (nf h2)⟩,by omega⟩
    simp only [go_sem,simprocAttr]<;>simp [wrap_of (show k<t.length by omega) hm]
  ·simp only [bxx] at hge
   unfold awS
   simp only [go_sem,simprocAttr]
   rw [all_done (d:=default) (p:=(audB s.channels)) (fun i h2=>hi i (by omega))]
theorem cIdxM (l:List MediumR) (h:∀ m∈l,m.fit) (hm:l.length≤1000000):CPure Tryz.prog 166 [.t (tmedia l), .clo 109 []] (vint (if l.all medOk then -1 else (l.findIdx fun m => !medOk m:Nat))):=by
 refine cpure_of Tryz.xen166 Tryz.func166 rfl Tryz.ntmps166 (by rw [Tryz.results166]) (aw_ok _ ?_)
 simp only [go_sem,simprocAttr]
 refine awp_loop_f (fun (k:Nat) σ => setS 8 (vint k) (deadS [5,9,10,11,12,13,14,15,16,17,18] (cleanS σ))) (fun k=>k≤l.length ∧ ∀ i,i<k→medOk (l.getD i default)=true) (fun k=>l.length - k) 0 (weak_self ?_) ⟨Nat.zero_le _,by omega⟩ ?_
 ·simp only [go_sem,simprocAttr]<;>simp
 ·rintro k ⟨hk,hi⟩
  refine aw_ok _ ?_
  simp only [go_sem,simprocAttr]
  refine ⟨fun hlt=>?_,fun hge=>?_⟩
  ·simp only [bxx] at hlt
   unfold awS
   simp only [go_sem,simprocAttr]
   refine ⟨⟨by omega,by omega⟩,?_⟩
   refine lcall_pure (cPMed _ (h _ (mem_getD (by omega)))) rfl ?_
   simp only [go_sem,simprocAttr]
   refine ⟨fun h2=>?_,fun h2=>?_⟩
   ·unfold awS
    simp only [go_sem,simprocAttr]
    rw [all_hit (d:=default) (p:=medOk) (k:=k) (by omega) (nt h2),if_neg Bool.false_ne_true,findIdx_hit (by omega) hi (nt h2)]
   ·unfold awS
    simp only [go_sem,simprocAttr]
    refine ⟨k+1,weak_self ?_,⟨by omega,upto hi (nf h2)⟩,by omega⟩
    simp only [go_sem,simprocAttr]<;>simp [wrap1 (show k<9223372036854775807 by omega)]
  ·simp only [bxx] at hge
   unfold awS
   simp only [go_sem,simprocAttr]
   rw [all_done (d:=default) (p:=medOk) (fun i h2=>hi i (by omega)),if_pos rfl]
theorem cHasM (l:List MediumR) (h:∀ m∈l,m.fit) (hm:l.length≤1000000):CPure Tryz.prog 108 [.t (tmedia l), .t (.lit (.func (.func 109) #[] #[]))] (vbool (!l.all medOk)):=by
 refine cpure_as (.cons as_refl (.cons (asClo _) .nil)) (args:=[.t (tmedia l), .clo 109 []]) ?_
 refine cpure_of Tryz.xen108 Tryz.func108 rfl Tryz.ntmps108 (by rw [Tryz.results108]) (aw_ok _ ?_)
 simp only [go_sem,simprocAttr]
 refine ⟨_,cIdxM l h hm,?_⟩
 simp only [go_sem,simprocAttr]
 cases l.all medOk<;>simp<;>omega
def seqHdOk (s:SequenceR):Bool:=vName s.name&&rateOk s.rate&&sizeOk s.w&&sizeOk s.h&&chanOk s.channels&&cuesOk s.cues
def vidOk (t:List ClipR):Bool:=vTrack t&&t.all silentB
def sndOk (ch:Int) (t:List ClipR):Bool:=vTrack t&&t.all (audB ch)
def seqOk (s:SequenceR):Bool:=seqHdOk s&&s.video.all vidOk&&s.sound.all (sndOk s.channels)
theorem trk_len {t:List ClipR} (h:vTrack t=true):t.length≤64:=by
 unfold vTrack at h
 simp only [Bool.and_eq_true,decide_eq_true_eq] at h
 exact h.1.1
theorem cMalS (s:SequenceR) (h:s.fit) (hv:s.video.length≤1000000) (hs:s.sound.length≤1000000):CPure Tryz.prog 111 [vsequence s] (vbool (!seqOk s)):=by
 refine cpure_of Tryz.xen111 Tryz.func111 rfl Tryz.ntmps111 (by rw [Tryz.results111]) (aw_ok _ ?_)
 simp only [go_sem,simprocAttr]
 refine ⟨_,cPName s.name,?_⟩
 simp only [go_sem,simprocAttr]
 refine ⟨_,fun _=>cPRate s.rate h.rate,?_⟩
 simp only [go_sem,simprocAttr]
 refine ⟨_,fun _=>cPSize s.w,?_⟩
 simp only [go_sem,simprocAttr]
 refine ⟨_,fun _=>cPSize s.h,?_⟩
 simp only [go_sem,simprocAttr]
 refine ⟨_,fun _=>cPChanCount s.channels,?_⟩
 simp only [go_sem,simprocAttr]
 refine ⟨_,fun _=>cPCues s.cues h.cues,?_⟩
 simp only [go_sem,simprocAttr]
 refine brW (b := !seqHdOk s) ?_ ⟨fun hh=>?_,fun hh=>?_⟩
 ·unfold seqHdOk
  simp only [Bool.not_and]
 ·unfold awS
  simp only [go_sem,simprocAttr]
  unfold seqOk
  rw [nt hh]
  rfl
 ·unfold awS
  simp only [go_sem,simprocAttr]
  refine awp_loop_f (fun (k:Nat) σ => setS 44 (vint k) (deadS [4,45,46,47,48,49,50,51,52,53,54,55,56] (cleanS σ))) (fun k=>k≤s.video.length ∧ ∀ i,i<k→vidOk (s.video.getD i default)=true) (fun k=>s.video.length - k) 0 (weak_self ?_) ⟨Nat.zero_le _,by omega⟩ ?_
  ·simp only [go_sem,simprocAttr]<;>simp
  ·rintro k ⟨hk,hi⟩
   refine aw_ok _ ?_
   simp only [go_sem,simprocAttr]
   refine ⟨fun hlt=>?_,fun hge=>?_⟩
   ·simp only [bxx] at hlt
    have hd:s.video.getD k []=s.video.getD k default:=rfl
    have hmem:s.video.getD k default∈s.video:=mem_getD (by omega)
    unfold awS
    simp only [go_sem,simprocAttr,hd]
    refine ⟨⟨by omega,by omega⟩,_,cPTrack _ (h.video _ hmem),?_⟩
    simp only [go_sem,simprocAttr]
    refine ⟨_,fun hg=>cEveryS2 _ (Nat.le_trans (trk_len (by simpa using hg)) (by decide)),?_⟩
    simp only [go_sem,simprocAttr]
    refine brW (b := !vidOk (s.video.getD k default)) ?_ ⟨fun hc=>?_,fun hc=>?_⟩
    ·unfold vidOk
     (try simp only [bne]);cases (vTrack (s.video.getD k default))<;>cases ((s.video.getD k default).all silentB)<;>rfl
    ·unfold awS
     simp only [go_sem,simprocAttr]
     unfold seqOk
     rw [all_hit (d:=default) (p:=vidOk) (k:=k) (by omega) (nt hc),Bool.and_false]
     rfl
    ·unfold awS
     simp only [go_sem,simprocAttr]
     refine ⟨k+1,weak_self ?_,⟨by omega,upto hi (nf hc)⟩,by omega⟩
     simp only [go_sem,simprocAttr]<;>simp [wrap1 (show k<9223372036854775807 by omega)]
   ·simp only [bxx] at hge
    have hva:s.video.all vidOk=true:=all_done (d:=default) (p:=vidOk) (fun i h2=>hi i (by omega))
    unfold awS
    simp only [go_sem,simprocAttr]
    refine awp_loop_f (fun (k:Nat) σ => setS 60 (vint k) (deadS [6,61,62,63,64,65,66,67,68,69,70,71,72,73] (cleanS σ))) (fun k=>k≤s.sound.length ∧ ∀ i,i<k→sndOk s.channels (s.sound.getD i default)=true) (fun k=>s.sound.length - k) 0 (weak_self ?_) ⟨Nat.zero_le _,by omega⟩ ?_
    ·simp only [go_sem,simprocAttr]<;>simp
    ·rintro k ⟨hk,hi⟩
     refine aw_ok _ ?_
     simp only [go_sem,simprocAttr]
     refine ⟨fun hlt=>?_,fun hge=>?_⟩
     ·simp only [bxx] at hlt
      have hd:s.sound.getD k []=s.sound.getD k default:=rfl
      have hmem:s.sound.getD k default∈s.sound:=mem_getD (by omega)
      unfold awS
      simp only [go_sem,simprocAttr,hd]
      refine ⟨⟨by omega,by omega⟩,_,cPTrack _ (h.sound _ hmem),?_⟩
      simp only [go_sem,simprocAttr]
      refine ⟨_,fun hg=>cEveryA s _ (Nat.le_trans (trk_len (by simpa using hg)) (by decide)),?_⟩
      simp only [go_sem,simprocAttr]
      refine brW (b := !sndOk s.channels (s.sound.getD k default)) ?_ ⟨fun hc=>?_,fun hc=>?_⟩
      ·unfold sndOk
       (try simp only [bne]);cases (vTrack (s.sound.getD k default))<;>cases ((s.sound.getD k default).all (audB s.channels))<;>rfl
      ·unfold awS
       simp only [go_sem,simprocAttr]
       unfold seqOk
       rw [all_hit (d:=default) (p:=sndOk s.channels) (k:=k) (by omega) (nt hc),Bool.and_false]
       rfl
      ·unfold awS
       simp only [go_sem,simprocAttr]
       refine ⟨k+1,weak_self ?_,⟨by omega,upto hi (nf hc)⟩,by omega⟩
       simp only [go_sem,simprocAttr]<;>simp [wrap1 (show k<9223372036854775807 by omega)]
     ·simp only [bxx] at hge
      unfold awS
      simp only [go_sem,simprocAttr]
      unfold seqOk
      rw [nf hh,hva,all_done (d:=default) (p:=sndOk s.channels) (fun i h2=>hi i (by omega))]
      rfl
theorem cIdxS (l:List SequenceR) (h:∀ m∈l,m.fit) (hm:l.length≤1000000) (hl:∀ s∈l,s.video.length≤1000000∧s.sound.length≤1000000):CPure Tryz.prog 171 [.t (tseqs l), .clo 111 []] (vint (if l.all seqOk then -1 else (l.findIdx fun m => !seqOk m:Nat))):=by
 refine cpure_of Tryz.xen171 Tryz.func171 rfl Tryz.ntmps171 (by rw [Tryz.results171]) (aw_ok _ ?_)
 simp only [go_sem,simprocAttr]
 refine awp_loop_f (fun (k:Nat) σ => setS 8 (vint k) (deadS [5,9,10,11,12,13,14,15,16,17,18] (cleanS σ))) (fun k=>k≤l.length ∧ ∀ i,i<k→seqOk (l.getD i default)=true) (fun k=>l.length - k) 0 (weak_self ?_) ⟨Nat.zero_le _,by omega⟩ ?_
 ·simp only [go_sem,simprocAttr]<;>simp
 ·rintro k ⟨hk,hi⟩
  refine aw_ok _ ?_
  simp only [go_sem,simprocAttr]
  refine ⟨fun hlt=>?_,fun hge=>?_⟩
  ·simp only [bxx] at hlt
   unfold awS
   simp only [go_sem,simprocAttr]
   refine ⟨⟨by omega,by omega⟩,?_⟩
   refine lcall_pure (cMalS _ (h _ (mem_getD (by omega))) (hl _ (mem_getD (by omega))).1 (hl _ (mem_getD (by omega))).2) rfl ?_
   simp only [go_sem,simprocAttr]
   refine ⟨fun h2=>?_,fun h2=>?_⟩
   ·unfold awS
    simp only [go_sem,simprocAttr]
    rw [all_hit (d:=default) (p:=seqOk) (k:=k) (by omega) (nt h2),if_neg Bool.false_ne_true,findIdx_hit (by omega) hi (nt h2)]
   ·unfold awS
    simp only [go_sem,simprocAttr]
    refine ⟨k+1,weak_self ?_,⟨by omega,upto hi (nf h2)⟩,by omega⟩
    simp only [go_sem,simprocAttr]<;>simp [wrap1 (show k<9223372036854775807 by omega)]
  ·simp only [bxx] at hge
   unfold awS
   simp only [go_sem,simprocAttr]
   rw [all_done (d:=default) (p:=seqOk) (fun i h2=>hi i (by omega)),if_pos rfl]
theorem cHasS (l:List SequenceR) (h:∀ m∈l,m.fit) (hm:l.length≤1000000) (hl:∀ s∈l,s.video.length≤1000000∧s.sound.length≤1000000):CPure Tryz.prog 110 [.t (tseqs l), .t (.lit (.func (.func 111) #[] #[]))] (vbool (!l.all seqOk)):=by
 refine cpure_as (.cons as_refl (.cons (asClo _) .nil)) (args:=[.t (tseqs l), .clo 111 []]) ?_
 refine cpure_of Tryz.xen110 Tryz.func110 rfl Tryz.ntmps110 (by rw [Tryz.results110]) (aw_ok _ ?_)
 simp only [go_sem,simprocAttr]
 refine ⟨_,cIdxS l h hm hl,?_⟩
 simp only [go_sem,simprocAttr]
 cases l.all seqOk<;>simp<;>omega
def medSmall (m:MediumR):Bool:=decide ((m.cues.length:Int)≤64)
def seqSmall (s:SequenceR):Bool:=decide ((s.video.length:Int)≤8)&&decide ((s.sound.length:Int)≤8)&&decide ((s.cues.length:Int)≤64)
def smallB (p:ProjR):Bool:=decide ((p.media.length:Int)≤16)&&decide ((p.seqs.length:Int)≤16)&&p.media.all medSmall&&p.seqs.all seqSmall
theorem gt_not (a b:Int):decide (a > b) = !decide (a≤b):=by
 by_cases h:a≤b
 ·rw [decide_eq_true h,decide_eq_false (by omega)];rfl
 ·rw [decide_eq_false h,decide_eq_true (by omega)];rfl
theorem cLarge (p:ProjR):CPure Tryz.prog 107 [vproj p] (vbool (!smallB p)):=by
 refine cpure_of Tryz.xen107 Tryz.func107 rfl Tryz.ntmps107 (by rw [Tryz.results107]) (aw_ok _ ?_)
 simp only [go_sem,simprocAttr]
 refine brW (b := !(decide ((p.media.length:Int)≤16)&&decide ((p.seqs.length:Int)≤16))) ?_ ⟨fun hh=>?_,fun hh=>?_⟩
 ·rw [gt_not,gt_not,Bool.not_and]
 ·unfold awS
  simp only [go_sem,simprocAttr]
  unfold smallB
  rw [nt hh]
  rfl
 ·have hh2:=nf hh
  simp only [Bool.and_eq_true,decide_eq_true_eq] at hh2
  unfold awS
  simp only [go_sem,simprocAttr]
  refine awp_loop_f (fun (k:Nat) σ => setS 20 (vint k) (deadS [4,21,22,23,24,25,26,27,28] (cleanS σ))) (fun k=>k≤p.media.length ∧ ∀ i,i<k→medSmall (p.media.getD i default)=true) (fun k=>p.media.length - k) 0 (weak_self ?_) ⟨Nat.zero_le _,by omega⟩ ?_
  ·simp only [go_sem,simprocAttr]<;>simp
  ·rintro k ⟨hk,hi⟩
   refine aw_ok _ ?_
   simp only [go_sem,simprocAttr]
   refine ⟨fun hlt=>?_,fun hge=>?_⟩
   ·simp only [bxx] at hlt
    unfold awS
    simp only [go_sem,simprocAttr]
    refine ⟨⟨by omega,by omega⟩,?_⟩
    refine brW (b := !medSmall (p.media.getD k default)) ?_ ⟨fun hc=>?_,fun hc=>?_⟩
    ·unfold medSmall
     exact gt_not _ _
    ·unfold awS
     simp only [go_sem,simprocAttr]
     unfold smallB
     rw [nf hh,all_hit (d:=default) (p:=medSmall) (k:=k) (by omega) (nt hc)]
     rfl
    ·unfold awS
     simp only [go_sem,simprocAttr]
     refine ⟨k+1,weak_self ?_,⟨by omega,upto hi (nf hc)⟩,by omega⟩
     simp only [go_sem,simprocAttr]<;>simp [wrap1 (show k<9223372036854775807 by omega)]
   ·simp only [bxx] at hge
    have hva:p.media.all medSmall=true:=all_done (d:=default) (p:=medSmall) (fun i h2=>hi i (by omega))
    unfold awS
    simp only [go_sem,simprocAttr]
    refine awp_loop_f (fun (k:Nat) σ => setS 32 (vint k) (deadS [6,33,34,35,36,37,38,39,40,41,42,43,44,45,46,47,48,49,50,51,52] (cleanS σ))) (fun k=>k≤p.seqs.length ∧ ∀ i,i<k→seqSmall (p.seqs.getD i default)=true) (fun k=>p.seqs.length - k) 0 (weak_self ?_) ⟨Nat.zero_le _,by omega⟩ ?_
    ·simp only [go_sem,simprocAttr]<;>simp
    ·rintro k ⟨hk,hi⟩
     refine aw_ok _ ?_
     simp only [go_sem,simprocAttr]
     refine ⟨fun hlt=>?_,fun hge=>?_⟩
     ·simp only [bxx] at hlt
      unfold awS
      simp only [go_sem,simprocAttr]
      refine ⟨⟨by omega,by omega⟩,?_⟩
      refine brW (b := !seqSmall (p.seqs.getD k default)) ?_ ⟨fun hc=>?_,fun hc=>?_⟩
      ·unfold seqSmall
       rw [gt_not,gt_not,gt_not,Bool.not_and,Bool.not_and]
      ·unfold awS
       simp only [go_sem,simprocAttr]
       unfold smallB
       rw [nf hh,hva,all_hit (d:=default) (p:=seqSmall) (k:=k) (by omega) (nt hc)]
       rfl
      ·unfold awS
       simp only [go_sem,simprocAttr]
       refine ⟨k+1,weak_self ?_,⟨by omega,upto hi (nf hc)⟩,by omega⟩
       simp only [go_sem,simprocAttr]<;>simp [wrap1 (show k<9223372036854775807 by omega)]
     ·simp only [bxx] at hge
      unfold awS
      simp only [go_sem,simprocAttr]
      unfold smallB
      rw [nf hh,hva,all_done (d:=default) (p:=seqSmall) (fun i h2=>hi i (by omega))]
      rfl
end Go.Proofs.YtmbmmijdmdoalaaGreat
