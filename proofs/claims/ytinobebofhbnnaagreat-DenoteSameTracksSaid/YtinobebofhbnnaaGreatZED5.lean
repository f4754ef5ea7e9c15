/- Proved here: 'DenoteSameTracks' returns true, for use in the proofs of the given statements; conditions stand in each theorem. -/
import Derived.Test.YtinobebofhbnnaaGreatWC
import Derived.Test.YtinobebofhbnnaaGreatZG
import Derived.Test.YtinobebofhbnnaaGreatYT
set_option linter.unusedSimpArgs false
set_option linter.unusedVariables false
set_option linter.unusedSectionVars false
set_option linter.unnecessarySimpa false
namespace Go.Proofs.YtinobebofhbnnaaGreat
open Go.RowKit
set_option maxRecDepth 4000
theorem cCutI2 {m:Int} {t F:List ClipR} (h:CutOk m t F) (hl:t.length≤60) (hF:F.length≤1000) (a b:Int) (ha : 0≤a) (ham:a≤m) (hm:m≤1000) (hb:a≤b) (hb2:b≤1000) (hlm:totL t≤m) :
  CIO Tryz.prog 37 0 [] [.t (tclips t),vint a,vint b] (.tup [.own 0,vint 0]) [(0,RowC (pk (cutT t a (b - a))))] 1:=by
 obtain ⟨k1,k2⟩:=cutOk_cut h hl ha ham (n:=b - a) (by omega) (by omega)
 obtain ⟨t1,t2,t3⟩:=track_all k1.tr
 have hf:∀ c∈cutT t a (b - a),c.fit:=fun c hc=>(k1.gd c hc).fit
 have hT:Trk (cutT t a (b - a)):=trk_mk (by omega) t2 t3
 have e:=packP_pk k1.tr hf
 have hv:=(track_all h.tr).2.1
 have h1:∀ c∈t,1≤c.len:=fun c hc=>(vClip_len (hv c hc)).1
 have hc:=cCutIO t a b (fun c hc=>(h.gd c hc).fit) h.tr ha hb (by omega) (fun i o hi o0 o1 hfi=>by
   have hg:=h.gd _ (mem_getD (d:=default) hi)
   have hle:=len_le_tot h1 _ (mem_getD (d:=default) hi)
   have hp:=hg.pl o o0 (by omega)
   exact advC_ok hg.ok o0 o1 hp.1 hp.2) (fun hin=>by
   rcases findL_fr t 0 a hv ha with ⟨_,j,o,g2,g3,g4,g5,_,_⟩ | ⟨g1,_⟩
   ·rw [Nat.zero_add] at g2
    exact ⟨j,o,g2,g3,g4,g5⟩
   ·rw [g1] at hin;cases hin) hT hf (by rw [e];exact Nat.le_trans (pk_size _) t1)
 rw [e] at hc
 exact hc
theorem same56 (L:List Int) (x:Int) (hx:I64 x):CPure Tryz.prog 9 [.t (tints L),vint x] (vbool true):=by
 have ht:=madeT_trk L
 have hcu:=madeT_cut L
 obtain ⟨hl,hfl⟩:=madeT_len L
 have htf:∀ c∈madeT L,c.fit:=fun c hc=>(ht.cl c hc).1
 have cLt:=cPLength (madeT L) htf
 have eL:lenT (madeT L)=totL (madeT L):=by unfold lenT;rw [if_pos ht.ok]
 have hM:=cMade L
 have htt:=hcu.tot
 generalize fr (madeT L)=F at *
 generalize madeT L=t at *
 obtain ⟨n,hn⟩:∃ n:Nat,n=F.length:=⟨_,rfl⟩
 have en:totL t=n:=by omega
 rw [eL,en] at cLt
 obtain ⟨hx1,hx2⟩:=hx
 have m0:=Int.tmod_lt_of_pos x (b:=(n:Int)+1) (by omega)
 have m1:=Int.lt_tmod_of_pos x (b:=(n:Int)+1) (by omega)
 generalize hy:x.tmod ((n:Int)+1)=y at *
 have k0:=Int.tmod_nonneg (a:=y+n+1) (n+1:Int) (by omega)
 have k1:=Int.tmod_lt_of_pos (y+n+1) (b:=(n:Int)+1) (by omega)
 obtain ⟨k,hk⟩:∃ k:Nat,(y+n+1).tmod ((n:Int)+1)=k:=⟨((y+n+1).tmod ((n:Int)+1)).toNat,by omega⟩
 have hkn:k≤n:=by omega
 obtain ⟨hs,he⟩:=same_trk hcu ht hl (by omega) (k:=k) (by omega)
 have ca:=cCutI2 hcu (by omega) (by omega) 0 k (by omega) (by omega) (by omega) (by omega) (by omega) (by omega)
 have cb:=cCutI2 hcu (by omega) (by omega) k (n+2) (by omega) (by omega) (by omega) (by omega) (by omega) (by omega)
 rw [Int.sub_zero] at ca
 rw [← hn] at hs he
 generalize pk (cutT t 0 k)=A at *
 generalize pk (cutT t k (n+2 - k))=B at *
 have w1:IntKind.i64.wrap ((n:Int)+1)=n+1:=wrap64 (by omega) (by omega)
 have w2:IntKind.i64.wrap (y+n)=y+n:=wrap64 (by omega) (by omega)
 have w3:IntKind.i64.wrap (y+n+1)=y+n+1:=wrap64 (by omega) (by omega)
 have w4:IntKind.i64.wrap ((n:Int)+2)=n+2:=wrap64 (by omega) (by omega)
 have c2:(n:Int)+2=((n+2:Nat):Int):=rfl
 have mem1:∀ {a:List ClipR},TrkP (madeP L) a → ∀ x ∈ [a],TrkP (madeP L) x:=fun ha x hx=>by
  simp only [List.mem_cons,List.not_mem_nil,or_false] at hx
  subst hx
  exact ha
 have fT:=cFilmT L (ts:=[t]) (by simp) (mem1 ht) (n+2) (by omega)
 have fS:=cFilmT L (ts:=[A++B]) (by simp) (mem1 hs) (n+2) (by omega)
 have eS:trkL (madeP L) [A++B] (n+2)=trkL (madeP L) [t] (n+2):=List.map_congr_left fun i _=>he i
 rw [eS] at fS
 have lT:=trkL_len (madeP L) [t] (n+2)
 generalize trkL (madeP L) [t] (n+2)=Q at *
 have cAll:=cAllSelf Q (by omega)
 have wT:=cWithT L [t] (raw := .list 1 [.lit (.slice none 0 0)] [[tclips t]]) (imp_list (by exact ⟨⟨imp_refl,trivial⟩,trivial⟩))
 have wS:=cWithT L [A++B] (raw := .list 1 [.lit (.slice none 0 0)] [[tclips (A++B)]]) (imp_list (by exact ⟨⟨imp_refl,trivial⟩,trivial⟩))
 refine cpure_of Tryz.xen9 Tryz.func9 rfl Tryz.ntmps9 (by rw [Tryz.results9]) (aw_ok _ ?_)
 simp only [go_sem,simprocAttr,decide_true,decide_false]
 refine icall_io hM [] rfl (by omega) (by decide) ?_ rfl rfl rfl rfl ?_
 ·simp only [go_sem,simprocAttr,decide_true,decide_false]
 simp only [go_sem,simprocAttr,decide_true,decide_false,List.getElem?_nil]
 refine ⟨_,cLt,?_⟩
 simp only [go_sem,simprocAttr,decide_true,decide_false,w1,hy,w2,w3,hk]
 refine ⟨by omega,by omega,?_⟩
 refine icall_io ca [] rfl (by omega) (by decide) ?_ rfl rfl rfl rfl ?_
 ·simp only [go_sem,simprocAttr,decide_true,decide_false]
 simp only [go_sem,simprocAttr,decide_true,decide_false,List.getElem?_nil,w4]
 refine icall_io cb [] rfl (by omega) (by decide) ?_ rfl rfl rfl rfl ?_
 ·simp only [go_sem,simprocAttr,decide_true,decide_false]
 simp only [go_sem,simprocAttr,decide_true,decide_false,List.getElem?_nil,w4]
 refine drawQ_of [9,18] [17] 29 .done rfl (by kernel_rfl) (by kernel_rfl) (by decide) ?_
 simp only [go_sem,simprocAttr,decide_true,decide_false,w4]
 refine ⟨_,wT,?_⟩
 simp only [go_sem,simprocAttr,decide_true,decide_false,w4]
 refine ⟨_,fT,?_⟩
 simp only [go_sem,simprocAttr,decide_true,decide_false,w4]
 have hAB:=(track_all hs.ok).1
 rw [List.length_append] at hAB
 rw [← List.map_append]
 refine ⟨⟨by unfold maxLen;omega,by omega⟩,_,wS,?_⟩
 simp only [go_sem,simprocAttr,decide_true,decide_false,w4]
 refine ⟨_,fS,?_⟩
 simp only [go_sem,simprocAttr,decide_true,decide_false]
 refine ⟨_,cAll,?_⟩
 simp only [go_sem,simprocAttr,decide_true,decide_false]
 refine ⟨_,cAwake25,?_⟩
 simp only [go_sem,simprocAttr,decide_true,decide_false]
 kernel_rfl
end Go.Proofs.YtinobebofhbnnaaGreat
