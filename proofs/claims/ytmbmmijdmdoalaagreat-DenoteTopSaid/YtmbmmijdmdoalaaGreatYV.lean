/- Proved here: The contract of the function that cuts an interval out of a track, for use in the proofs of the given statements; conditions stand in each theorem. -/
import Derived.Test.YtmbmmijdmdoalaaGreatZJO
import Derived.Test.YtmbmmijdmdoalaaGreatZQ
import Derived.Test.YtmbmmijdmdoalaaGreatZL
import Derived.Test.YtmbmmijdmdoalaaGreatYT
import Derived.Test.YtmbmmijdmdoalaaGreatZG
import Derived.Test.YtmbmmijdmdoalaaGreatZX
set_option linter.unusedSimpArgs false
set_option linter.unusedVariables false
set_option linter.unusedSectionVars false
set_option linter.unnecessarySimpa false
namespace Go.Proofs.YtmbmmijdmdoalaaGreat
open Go.RowKit
set_option maxRecDepth 4000
def gapC (n:Int):ClipR:=⟨n,0,zSource,zSource,0,0,0,⟨#[]⟩,0,[]⟩
def cutR:List ClipR→Int→List ClipR×Int
 | [],n=>([],n)
 | c::l,n=>if n=0 then ([],0) else ({ c with len:=min c.len n }::(cutR l (n - min c.len n)).1,(cutR l (n - min c.len n)).2)
def gapEnd (r:List ClipR×Int):List ClipR:=if 0<r.2 then r.1 ++ [gapC r.2] else r.1
def advD (D:List ClipR) (o:Int):List ClipR:=advR (D.getD 0 default) o::D.drop 1
def cutT (t:List ClipR) (a n:Int):List ClipR :=
 if ((findL t 0 a).2.2&&decide (0<n))=true then gapEnd (cutR (advD (t.drop (findL t 0 a).1.toNat) (findL t 0 a).2.1) n) else gapEnd ([],n)
open Go.RowKit
set_option maxRecDepth 4000
theorem gap_trk (p:ProjR) {n:Int} (h1 : 1≤n) (h2:n≤2147483647):TrkP p [gapC n]:=by
 have hv:vClip (gapC n)=true:=by
  unfold vClip baseOk kindOk gapC
  simp [zS_ok,zS_isZ,h1,h2,noShare,emp,vChans]
 refine ⟨?_,fun c hc=>?_⟩
 ·unfold vTrack
  rw [decide_eq_true (show [gapC n].length≤64 by simp),decide_eq_true (show totL [gapC n]≤2147483647 by simp only [totL,gapC];omega)]
  simp [hv]
 ·simp only [List.mem_cons,List.not_mem_nil,or_false] at hc
  subst hc
  have z:∀ k:Int,k≠0 → ¬ (gapC n).a.kind=k:=fun k hk h=>hk h.symm
  refine ⟨⟨⟨by show _≤n;omega,by show n≤_;omega⟩,i0,zfit,zfit,i0,i0,i0,i0⟩,rfl,⟨fun h=>absurd h (by decide : ¬ (0:Int)=1),fun h=>absurd h (by decide : ¬ (0:Int)=2)⟩,⟨fun h=>absurd h (by decide : ¬ (0:Int)=1),fun h=>absurd h (by decide : ¬ (0:Int)=2)⟩⟩
theorem nil_trk (p:ProjR):TrkP p []:=⟨rfl,fun c hc=>by cases hc⟩
def trkL (p:ProjR) (ts:List (List ClipR)) (n:Nat):List ExprR:=(List.range n).map fun k:Nat=>trkE p ts k
theorem trkL_len (p:ProjR) (ts:List (List ClipR)) (n:Nat):(trkL p ts n).length=n:=by unfold trkL;simp
theorem trkL_get (p:ProjR) (ts:List (List ClipR)) {n k:Nat} (h:k<n):(trkL p ts n).getD k default=trkE p ts k:=by
 unfold trkL
 rw [getD_of_lt (by simpa using h)]
 simp
theorem hit_gap (n i:Int):hitT [gapC n] i=none:=by
 unfold hitT
 rw [if_neg]
 rintro ⟨_,h1,h2⟩
 have e:(findL [gapC n] 0 i).1=0:=by
  rw [findL_cons]
  split
  ·rfl
  ·rfl
 rw [e] at h2
 exact h2 rfl
theorem hit_nil (i:Int):hitT [] i=none:=by
 unfold hitT
 rw [if_neg]
 rintro ⟨_,h1,_⟩
 cases h1
theorem top_gap (p:ProjR) (t:List ClipR) (n i:Int):trkE p [t,[gapC n]] i=trkE p [t] i:=by
 unfold trkE
 show showE redX _ (topT i [[gapC n],t])=showE redX _ (topT i [t])
 rw [topT,hit_gap]
theorem top_nil (p:ProjR) (t:List ClipR) (i:Int):trkE p [t,[]] i=trkE p [t] i:=by
 unfold trkE
 show showE redX _ (topT i [[],t])=showE redX _ (topT i [t])
 rw [topT,hit_nil]
theorem topL_gap (p:ProjR) (t:List ClipR) (n:Int) (m:Nat):trkL p [t,[gapC n]] m=trkL p [t] m:=by
 unfold trkL
 exact List.map_congr_left fun k _=>top_gap p t n k
theorem topL_nil (p:ProjR) (t:List ClipR) (m:Nat):trkL p [t,[]] m=trkL p [t] m:=by
 unfold trkL
 exact List.map_congr_left fun k _=>top_nil p t k
def seenB (u:List ClipR) (i:Int):Bool:=(findL u 0 i).2.2&&((u.getD (findL u 0 i).1.toNat default).kind != 0)
theorem top_over (p:ProjR) (t u:List ClipR) {i:Int} (h0 : 0≤i):trkE p [t,u] i=if seenB u i=true then trkE p [u] i else trkE p [t] i:=by
 have e:hitT u i=if seenB u i=true then some (u.getD (findL u 0 i).1.toNat default,(findL u 0 i).2.1) else none:=by
  unfold hitT seenB
  simp only [Bool.and_eq_true,bne_iff_ne]
  by_cases h:(findL u 0 i).2.2=true∧(u.getD (findL u 0 i).1.toNat default).kind≠0
  ·rw [if_pos ⟨h0,h.1,h.2⟩,if_pos h]
  ·rw [if_neg (fun q=>h ⟨q.2.1,q.2.2⟩),if_neg h]
 unfold trkE
 show showE redX _ (topT i [u,t])=if _ then showE redX _ (topT i [u]) else showE redX _ (topT i [t])
 have e2:topT i [u,t]=match hitT u i with | some r=>some r | none=>topT i [t]:=rfl
 have e3:topT i [u]=match hitT u i with | some r=>some r | none=>none:=rfl
 rw [e2,e3,e]
 by_cases h:seenB u i=true
 ·simp only [if_pos h]
 ·simp only [if_neg h]
theorem findL_at (u:List ClipR):∀ (l:List ClipR) (i:Nat) (n:Int),(findL l i n).2.2=true → ∃ j:Nat,j<l.length∧(findL l i n).1=((i+j:Nat):Int)
 | [],i,n,h=>by cases h
 | c::l,i,n,h=>by
  rw [findL_cons] at h ⊢
  by_cases hc:n<c.len
  ·rw [if_pos hc]
   exact ⟨0,by simp,rfl⟩
  ·rw [if_neg hc] at h ⊢
   obtain ⟨j,h1,h2⟩:=findL_at u l (i+1) (n - c.len) h
   exact ⟨j+1,by simpa using h1,by rw [h2];congr 1;omega⟩
theorem norm_lenT {t:List ClipR} (hv:vTrack t=true) (hf:∀ c∈t,c.fit) : 0≤lenT (normT t)∧lenT (normT t)≤totL t:=by
 have hn:=norm_vTrack hv hf
 have hp:=pack_vTrack hv hf
 have h1:lenT (normT t)=totL (normT t):=by unfold lenT;rw [if_pos hn]
 have h2:=pack_len hv hf
 unfold lenT at h2
 rw [if_pos hv,if_pos hp] at h2
 obtain ⟨k,e,_⟩:=norm_take hv hf
 rw [h1]
 refine ⟨totL_nonneg _ fun c hc=>(vClip_len ((track_all hn).2.1 c hc)).1,?_⟩
 rw [e, ← h2]
 exact totL_takeLe (fun c hc=>(vClip_len ((track_all hp).2.1 c hc)).1) k
theorem trk_lenT (L:List Int) (k:Nat) (s most:Int) (hs:s≤9) (h0 : 0≤most) (h9:most≤9):vTrack (trkAt L k 3 s most).1=true∧0≤totL (trkAt L k 3 s most).1∧totL (trkAt L k 3 s most).1≤162:=by
 obtain ⟨n1,n2⟩:=trkAt_facts L k 3 s most (by omega) hs h0 h9
 have hv:=(trk_vid L k s most hs h0 h9).1
 refine ⟨hv,totL_nonneg _ fun c hc=>(vClip_len ((track_all hv).2.1 c hc)).1,?_⟩
 have:=totL_nine _ fun c hc=>(n1 c hc).l9
 omega
theorem cWithT (L:List Int) (ts:List (List ClipR)) {raw:T} (hr:Imp raw (ttracks ts)):CPure Tryz.prog 35 [vproj (madeP L), .t raw] (vproj (addP (madeP L) (tSeq ⟨#[116]⟩ ts))) :=
 cpure_as (.cons as_refl (.cons (as_imp hr) .nil)) (cWith (madeP L) ts (by simp [madeP]))
theorem cFilmT (L:List Int) {ts:List (List ClipR)} (hl:ts.length≤8) (h:∀ t∈ts,TrkP (madeP L) t) (n:Nat) (hn:n≤65536):CPure Tryz.prog 43 [vproj (addP (madeP L) (tSeq ⟨#[116]⟩ ts)),vint n] (.t (texprs (trkL (madeP L) ts n))):=by
 have hc:=cFilm25 (addP (madeP L) (tSeq ⟨#[116]⟩ ts)) n (fit_add (made_fit L) (t_in hl h))
 rw [film_made hl h n hn] at hc
 exact hc
open Go.RowKit
set_option maxRecDepth 4000
set_option maxHeartbeats 8000000 in
theorem top53 (L:List Int):CPure Tryz.prog 12 [.t (tints L)] (vbool true):=by
 have ht:=madeT_trk L
 have ht0:=trk_lenT L (madeK L) 2 5 (by omega) (by omega) (by omega)
 have htl:=norm_lenT ht0.1 (fun c hc=>((trk_vid L (madeK L) 2 5 (by omega) (by omega) (by omega)).2 c hc).1)
 have hu:=made_trk L (madeAt L) 2 4 (by omega) (by omega) (by omega)
 have hul:=trk_lenT L (madeAt L) 2 4 (by omega) (by omega) (by omega)
 have hK:madeAt L≤2000:=by
  have a1:=trkAt_step L 3 3 0 4 (by omega) (by omega) (by omega) (by omega)
  have a2:=trkAt_step L (trkAt L 3 3 0 4).2 3 0 2 (by omega) (by omega) (by omega) (by omega)
  have a3:=trkAt_step L (trkAt L (trkAt L 3 3 0 4).2 3 0 2).2 3 1 4 (by omega) (by omega) (by omega) (by omega)
  have a4:=trkAt_step L (trkAt L (trkAt L (trkAt L 3 3 0 4).2 3 0 2).2 3 1 4).2 3 1 2 (by omega) (by omega) (by omega) (by omega)
  have a5:=trkAt_step L (madeK L) 3 2 5 (by omega) (by omega) (by omega) (by omega)
  have e:madeK L=(trkAt L (trkAt L (trkAt L (trkAt L 3 3 0 4).2 3 0 2).2 3 1 4).2 3 1 2).2:=rfl
  have e2:madeAt L=(trkAt L (madeK L) 3 2 5).2:=rfl
  omega
 have cT:=cTrackB L (madeAt L) 3 2 4 (by omega) (by omega) (by omega) (by omega) (by omega)
 have elu:lenT (trkAt L (madeAt L) 3 2 4).1=totL (trkAt L (madeAt L) 3 2 4).1:=by unfold lenT;rw [if_pos hul.1]
 have htf:∀ c∈madeT L,c.fit:=fun c hc=>(ht.cl c hc).1
 change 0≤lenT (madeT L)∧lenT (madeT L)≤totL (trkAt L (madeK L) 3 2 5).1 at htl
 generalize (trkAt L (madeAt L) 3 2 4).2=kk at cT
 generalize (trkAt L (madeAt L) 3 2 4).1=u at cT hu hul elu
 have huf:∀ c∈u,c.fit:=fun c hc=>(hu.cl c hc).1
 have cLt:=cPLength (madeT L) htf
 have cLu:=cPLength u huf
 obtain ⟨N,hN⟩:∃ N:Nat,lenT (madeT L)+lenT u+2=N:=⟨(lenT (madeT L)+lenT u+2).toNat,by omega⟩
 have hNb : 2≤N∧N≤400:=by omega
 have hM:=cMade L
 generalize madeT L=t at *
 have w1:IntKind.i64.wrap (lenT t+lenT u)=lenT t+lenT u:=wrap64 (by omega) (by omega)
 have w2:IntKind.i64.wrap (lenT t+lenT u+2)=N:=by rw [wrap64 (by omega) (by omega),hN]
 have mem2:∀ {a b:List ClipR},TrkP (madeP L) a→TrkP (madeP L) b → ∀ x ∈ [a,b],TrkP (madeP L) x:=fun ha hb x hx=>by
  simp only [List.mem_cons,List.not_mem_nil,or_false] at hx
  rcases hx with rfl | rfl<;>assumption
 have mem1:∀ {a:List ClipR},TrkP (madeP L) a → ∀ x ∈ [a],TrkP (madeP L) x:=fun ha x hx=>by
  simp only [List.mem_cons,List.not_mem_nil,or_false] at hx
  subst hx
  exact ha
 have fT:=cFilmT L (ts:=[t]) (by simp) (mem1 ht) N (by omega)
 have fG:=cFilmT L (ts:=[t,[gapC N]]) (by simp) (mem2 ht (gap_trk (madeP L) (by omega) (by omega))) N (by omega)
 have fN:=cFilmT L (ts:=[t,[]]) (by simp) (mem2 ht (nil_trk (madeP L))) N (by omega)
 have fTU:=cFilmT L (ts:=[t,u]) (by simp) (mem2 ht hu) N (by omega)
 have fU:=cFilmT L (ts:=[u]) (by simp) (mem1 hu) N (by omega)
 rw [topL_gap] at fG
 rw [topL_nil] at fN
 have lT:=trkL_len (madeP L) [t] N
 have lTU:=trkL_len (madeP L) [t,u] N
 have lU:=trkL_len (madeP L) [u] N
 have gT:=fun (k:Nat) (h:k<N)=>trkL_get (madeP L) [t] h
 have gTU:=fun (k:Nat) (h:k<N)=>trkL_get (madeP L) [t,u] h
 have gU:=fun (k:Nat) (h:k<N)=>trkL_get (madeP L) [u] h
 have hov:=fun (k:Nat)=>top_over (madeP L) t u (i:=(k:Int)) (by omega)
 generalize trkL (madeP L) [t] N=A at *
 generalize trkL (madeP L) [t,u] N=B at *
 generalize trkL (madeP L) [u] N=C at *
 have cAll:=cAllSelf A (by omega)
 have iR1:∀ {a:T},ImpR [[a]] [[a]]:=⟨⟨imp_refl,trivial⟩,trivial⟩
 have wT:=cWithT L [t] (raw := .list 1 [.lit (.slice none 0 0)] [[tclips t]]) (imp_list (by exact ⟨⟨imp_refl,trivial⟩,trivial⟩))
 have wU:=cWithT L [u] (raw := .list 1 [.lit (.slice none 0 0)] [[tclips u]]) (imp_list (by exact ⟨⟨imp_refl,trivial⟩,trivial⟩))
 have wTU:=cWithT L [t,u] (raw := .list 1 [.lit (.slice none 0 0)] [[tclips t],[tclips u]]) (imp_list (by exact ⟨⟨imp_refl,trivial⟩,⟨imp_refl,trivial⟩,trivial⟩))
 have wN:=cWithT L [t,[]] (raw := .list 1 [.lit (.slice none 0 0)] [[tclips t],[.lit (.slice none 0 0)]]) (imp_list (by exact ⟨⟨imp_refl,trivial⟩,⟨imp_nil,trivial⟩,trivial⟩))
 refine cpure_of Tryz.xen12 Tryz.func12 rfl Tryz.ntmps12 (by rw [Tryz.results12]) (aw_ok _ ?_)
 simp only [go_sem,simprocAttr,decide_true,decide_false]
 refine icall_io hM [] rfl (by omega) (by decide) ?_ rfl rfl rfl rfl ?_
 ·simp only [go_sem,simprocAttr,decide_true,decide_false]
 simp only [go_sem,simprocAttr,decide_true,decide_false,List.getElem?_nil]
 refine icall_box cT rfl rfl rfl ?_
 simp only [go_sem,simprocAttr,decide_true,decide_false]
 refine ⟨_,cLt,?_⟩
 simp only [go_sem,simprocAttr,decide_true,decide_false]
 refine ⟨_,cLu,?_⟩
 simp only [go_sem,simprocAttr,decide_true,decide_false,w1,w2]
 refine drawP_of [4,5,11,20,26] 33 .done rfl (by kernel_rfl) (by kernel_rfl) (by decide) ?_
 simp only [go_sem,simprocAttr,decide_true,decide_false]
 refine ⟨_,cWithT L [t,[gapC N]] (imp_list (by exact ⟨⟨imp_refl,trivial⟩,⟨imp_list (by exact ⟨⟨imp_refl,imp_refl,imp_refl,imp_refl,imp_refl,imp_refl,imp_refl,imp_refl,imp_refl,imp_refl,imp_refl,imp_refl,imp_refl,imp_refl,imp_refl,imp_refl,imp_refl,imp_refl,imp_refl,imp_refl,imp_refl,imp_nil,trivial⟩,trivial⟩),trivial⟩,trivial⟩)),?_⟩
 simp only [go_sem,simprocAttr,decide_true,decide_false]
 refine ⟨_,fG,?_⟩
 simp only [go_sem,simprocAttr,decide_true,decide_false]
 refine ⟨_,wT,?_⟩
 simp only [go_sem,simprocAttr,decide_true,decide_false]
 refine ⟨_,fT,?_⟩
 simp only [go_sem,simprocAttr,decide_true,decide_false]
 refine ⟨_,cAll,?_⟩
 simp only [go_sem,simprocAttr,decide_true,decide_false]
 refine ⟨_,wN,?_⟩
 simp only [go_sem,simprocAttr,decide_true,decide_false]
 refine ⟨_,fN,?_⟩
 simp only [go_sem,simprocAttr,decide_true,decide_false]
 refine ⟨_,wT,?_⟩
 simp only [go_sem,simprocAttr,decide_true,decide_false]
 refine ⟨_,fT,?_⟩
 simp only [go_sem,simprocAttr,decide_true,decide_false]
 refine ⟨_,cAll,?_⟩
 simp only [go_sem,simprocAttr,decide_true,decide_false]
 refine ⟨by kernel_rfl,?_⟩
 refine drawP_of [3,9,15] 22 .done rfl (by kernel_rfl) (by kernel_rfl) (by decide) ?_
 simp only [go_sem,simprocAttr,decide_true,decide_false]
 refine ⟨_,wTU,?_⟩
 simp only [go_sem,simprocAttr,decide_true,decide_false]
 refine ⟨_,fTU,?_⟩
 simp only [go_sem,simprocAttr,decide_true,decide_false]
 refine ⟨_,wU,?_⟩
 simp only [go_sem,simprocAttr,decide_true,decide_false]
 refine ⟨_,fU,?_⟩
 simp only [go_sem,simprocAttr,decide_true,decide_false]
 refine ⟨_,wT,?_⟩
 simp only [go_sem,simprocAttr,decide_true,decide_false]
 refine ⟨_,fT,?_⟩
 simp only [go_sem,simprocAttr,decide_true,decide_false,lTU,lU,lT]
 refine ⟨by kernel_rfl,?_⟩
 refine awp_loop_f (fun (k:Nat) σ => setS 11 (vint k) (deadS [12,13,14,15,16,17,18,19,20,21,22,23,24,25,26,27,28,29,30,31,32,33,34,35,36,37,38,39,40,41,42,43,44,45,46,47,48,49,50,51,52,53,54,55,56,57,58,59,60,61,62,63,64,65,66,67,68,69,70,71,72,73,74,75,76,77,78,79,80,81,82,83,84,85,86,87,88,89,90,91,92,93,94,95,96,97,98,99,100,101,102,103,104,105,106,107,108,109,110,111,112,113,114,115,116,117,118,119,120,121,122,123,124,125,126,127,128,129,130,131,132,133] (cleanS σ))) (fun k=>k≤N) (fun k=>N - k) 0 (weak_self ?_) (Nat.zero_le _) ?_
 ·simp only [go_sem,simprocAttr,decide_true,decide_false]
  simp
 ·intro k hk
  refine aw_ok _ ?_
  simp only [go_sem,simprocAttr,decide_true,decide_false]
  refine ⟨fun hlt=>?_,fun hge=>?_⟩
  ·simp only [bxx] at hlt
   have hkN:k<N:=by omega
   have hfd:=cPFind u (k:Int) ⟨by omega,by omega⟩ huf
   have efd:findT u k=findL u 0 k:=by unfold findT;rw [if_pos ⟨hul.1,by omega⟩]
   rw [efd] at hfd
   have hat:=findL_at u u 0 (k:Int)
   have hv:=hov k
   unfold seenB at hv
   have nA:=fun d=>nth_expr d (l:=A) (k:=k) (by omega)
   have nB:=fun d=>nth_expr d (l:=B) (k:=k) (by omega)
   have nC:=fun d=>nth_expr d (l:=C) (k:=k) (by omega)
   rw [gT k hkN] at nA
   rw [gTU k hkN] at nB
   rw [gU k hkN] at nC
   generalize trkE (madeP L) [t] k=ea at *
   generalize trkE (madeP L) [t,u] k=eb at *
   generalize trkE (madeP L) [u] k=ec at *
   have cS:=cSameE eb eb
   rw [eqE_iff.2 rfl] at cS
   have hwk:IntKind.i64.wrap ((k:Int)+1)=((k+1:Nat):Int):=by rw [wrap1 (by omega)];omega
   generalize findL u 0 (k:Int)=r at *
   obtain ⟨j,off,ok⟩:=r
   obtain ⟨opa,mediaa,framea,numa,dena,parama,texta,argsa⟩:=ea
   obtain ⟨opb,mediab,frameb,numb,denb,paramb,textb,argsb⟩:=eb
   obtain ⟨opc,mediac,framec,numc,denc,paramc,textc,argsc⟩:=ec
   simp only [ExprR.c,cs_eq] at nA nB nC
   unfold awS
   simp only [go_sem,simprocAttr,decide_true,decide_false]
   refine ⟨_,hfd,?_⟩
   simp only [go_sem,simprocAttr,decide_true,decide_false,nA,lT]
   refine ⟨⟨by omega,by omega⟩,fun hok=>?_,fun hb=>?_,fun hb=>?_⟩
   ·obtain ⟨jj,q1,q2⟩:=hat hok
    simp only at q2
    omega
   ·rw [hb] at hv
    simp only [if_true] at hv
    injection hv with a1 a2 a3 a4 a5 a6 a7 a8
    subst a1 a2 a3 a4 a5 a6 a7 a8
    unfold awS
    simp only [go_sem,simprocAttr,decide_true,decide_false,nC,lU]
    refine ⟨⟨by omega,by omega⟩,?_⟩
    refine drawC_of 7 .done rfl (by kernel_rfl) (by kernel_rfl) (by decide) ?_
    simp only [go_sem,simprocAttr,decide_true,decide_false,nB,lTU]
    refine ⟨⟨by omega,by omega⟩,_,cS,?_⟩
    simp only [go_sem,simprocAttr,decide_true,decide_false]
    refine ⟨by kernel_rfl,k+1,weak_self ?_,by omega,by omega⟩
    simp only [go_sem,simprocAttr,decide_true,decide_false,hwk]
    simp
   ·rw [hb] at hv
    simp only [Bool.false_eq_true,if_false] at hv
    injection hv with a1 a2 a3 a4 a5 a6 a7 a8
    subst a1 a2 a3 a4 a5 a6 a7 a8
    unfold awS
    simp only [go_sem,simprocAttr,decide_true,decide_false,nA,lT]
    refine drawC_of 7 .done rfl (by kernel_rfl) (by kernel_rfl) (by decide) ?_
    simp only [go_sem,simprocAttr,decide_true,decide_false,nB,lTU]
    refine ⟨⟨by omega,by omega⟩,_,cS,?_⟩
    simp only [go_sem,simprocAttr,decide_true,decide_false]
    refine ⟨by kernel_rfl,k+1,weak_self ?_,by omega,by omega⟩
    simp only [go_sem,simprocAttr,decide_true,decide_false,hwk]
    simp
  ·simp only [bxx] at hge
   unfold awS
   simp only [go_sem,simprocAttr,decide_true,decide_false]
   refine ⟨_,cAwake25,?_⟩
   simp only [go_sem,simprocAttr,decide_true,decide_false]
end Go.Proofs.YtmbmmijdmdoalaaGreat
