/- Proved here: The project in memory of its own; conditions stand in each theorem. -/
import Derived.Test.YtbfnemkngoaeeaaGreatQ35
import Derived.Test.YtbfnemkngoaeeaaGreatQ38
import Derived.Test.YtbfnemkngoaeeaaGreatQ37
import Derived.Test.YtbfnemkngoaeeaaGreatQ40
import Derived.Test.YtbfnemkngoaeeaaGreatQ06
set_option linter.unusedSimpArgs false
set_option linter.unusedVariables false
set_option linter.unusedSectionVars false
set_option linter.unnecessarySimpa false
namespace Go.Proofs.YtbfnemkngoaeeaaGreat
open Go.RowKit
set_option maxRecDepth 4000
theorem Wz {α : Type} [Inhabited α] (c : α → List T) {L:List α} {j:Nat} (hj:j<L.length) {r:List T} (h:r=c (L.getD j default)):(L.map c).set j r=L.map c:=by
 refine zC (by rw [List.length_map];exact hj) ?_;rw [List.getElem_map,h,aJ hj]
theorem Uh (l:List CueR) (hl:l.length≤65536) (hll:∀ c∈l,c.lines.length≤65536):aM Tryz.prog 126 [.t (vQ l)] (.t (vQ l)):=by
 refine aH Tryz.X126 Tryz.func126 rfl Tryz.ntmps126 (by rw [Tryz.results126]) (aD _ ?_);simp only [go_sem,simprocAttr,dtf];refine cG (aNm l hl) [] rfl (by omega) (by decide) ?_ rfl rfl rfl rfl ?_
 ·simp only [go_sem,simprocAttr,dtf]
 ·simp only [go_sem,simprocAttr,dtf,List.getElem?_nil];refine aF (fun (k:Nat) σ => cJ 9 (aC k) (bN [4,10,11,12,13,14,15,16,17,18,19,20,21,22] (bK σ))) (fun k=>k≤l.length) (fun k=>l.length - k) 0 (aB ?_) (Nat.zero_le _) ?_
  ·simp only [go_sem,simprocAttr,dtf];simp
  ·intro k hk;refine aD _ ?_;simp only [go_sem,simprocAttr,dtf];refine ⟨fun hlt=>?_,fun hge=>?_⟩
   ·simp only [bxx] at hlt;have hkl:k<l.length:=by omega
    unfold awS;simp only [go_sem,simprocAttr,dtf];refine ⟨⟨by omega,by omega⟩,by omega,kU (Zw _ (hll _ (aW hkl))) rfl ?_⟩;simp only [go_sem,simprocAttr,dtf];rw [Wz CueR.c hkl (by rfl)];refine ⟨⟨by omega,by omega⟩,by omega,k+1,aB ?_,by omega,by omega⟩;simp only [go_sem,simprocAttr,dtf];simp [bX (show k<9223372036854775807 by omega)]
   ·simp only [bxx] at hge;unfold awS;simp only [go_sem,simprocAttr,dtf]
set_option maxHeartbeats 4000000 in
theorem Hs (ts:List (List ClipR)) (h1:ts.length≤65536) (h2:∀ t∈ts,t.length≤65536 ∧ ∀ c∈t,c.chan.length≤65536):aM Tryz.prog 127 [.t (gF ts)] (.t (gF ts)):=by
 refine aH Tryz.X127 Tryz.func127 rfl Tryz.ntmps127 (by rw [Tryz.results127]) (aD _ ?_);simp only [go_sem,simprocAttr,dtf];refine cG (aH8 ts h1) [] rfl (by omega) (by decide) ?_ rfl rfl rfl rfl ?_
 ·simp only [go_sem,simprocAttr,dtf]
 ·simp only [go_sem,simprocAttr,dtf,List.getElem?_nil];refine aF (fun (i:Nat) σ => cJ 10 (aC i) (bN [4,5,11,12,13,14,15,16,17,18,19,20,21,22,23,24,25,26,27,28,29,30,31,32,33,34,35,36,37,38,39,40,41,42,43,44,45,46] (bK σ))) (fun i=>i≤ts.length) (fun i=>ts.length - i) 0 (aB ?_) (by omega) ?_
  ·simp only [go_sem,simprocAttr,dtf];simp
  ·intro i hi;refine aD _ ?_;simp only [go_sem,simprocAttr,dtf];refine ⟨fun hlt=>?_,fun hge=>?_⟩
   ·simp only [bxx] at hlt;have hil:i<ts.length:=by omega
    obtain ⟨L,hL⟩:∃ L,L=ts.getD i default:=⟨_,rfl⟩
    have hLm:L∈ts:=by rw [hL];exact aW hil
    obtain ⟨q1,q2⟩:=h2 L hLm;have hnt:∀ d,nth d (ts.map dA) i=dA L:=fun d=>by
     unfold nth;rw [List.getElem?_map,List.getElem?_eq_getElem hil,hL,aJ hil];rfl
    unfold awS;simp only [go_sem,simprocAttr,dtf,hnt,List.length_map];refine ⟨⟨by omega,by omega⟩,by omega,cG (aHa L q1) [] rfl (by omega) (by decide) ?_ rfl rfl rfl rfl ?_⟩
    ·simp only [go_sem,simprocAttr,dtf]
    ·simp only [go_sem,simprocAttr,dtf,List.getElem?_nil,List.length_map];obtain ⟨R,hR⟩:∃ R,R=(aL (ts.map dA)).set i [V.own 1]:=⟨_,rfl⟩
     have hRl:R.length=ts.length:=by rw [hR,zJ]
     have hRn:∀ d,qD d R i = [V.own 1]:=fun d=>by rw [hR];exact vR dA hil d _
     have hRo:wW R=true:=by rw [hR];exact Dx _ _ (by rw [List.length_map];exact hil)
     rw [← hR];simp only [go_sem,simprocAttr,dtf,hRl,hRn];refine ⟨⟨by omega,by omega⟩,by omega,⟨by omega,by omega⟩,by omega,?_⟩;refine aF (fun (j:Nat) σ => cJ 26 (aC j) (bN [5,27,28,29,30,31,32,33,34,35,36,37,38,39,40,41,42,43,44,45] (bK σ))) (fun j=>j≤L.length) (fun j=>L.length - j) 0 (aB ?_) (by omega) ?_
     ·simp only [go_sem,simprocAttr,dtf,hRo];refine ⟨by simp,by simp,?_⟩;rw [hR];exact vN (k:=1) _ _ (by rfl) _ _
     ·intro j hj;refine aD _ ?_;simp only [go_sem,simprocAttr,dtf];refine ⟨fun hlt2=>?_,fun hge2=>?_⟩
      ·simp only [bxx] at hlt2;have hjl:j<L.length:=by omega
       unfold awS;simp only [go_sem,simprocAttr,dtf];refine aK 17 .done rfl (by kernel_rfl) (by kernel_rfl) (by decide) ?_;simp only [go_sem,simprocAttr,dtf,hRl,hRn,List.length_map];refine ⟨⟨by omega,by omega⟩,by omega,⟨by omega,by omega⟩,by omega,⟨by omega,by omega⟩,by omega,_,aKz _ (q2 _ (aW hjl)),?_⟩;simp only [go_sem,simprocAttr,dtf,hRl,hRn,List.length_map];rw [wV ClipR.c hjl (by rfl)];refine ⟨⟨by omega,by omega⟩,by omega,by kernel_rfl,j+1,aB ?_,by omega,by omega⟩;simp only [go_sem,simprocAttr,dtf,hRo];refine ⟨⟨by simp,by simp,?_⟩,by rw [bX (show j<9223372036854775807 by omega)];simp⟩;rw [hR];exact vN (k:=1) _ _ (by rfl) _ _
      ·simp only [bxx] at hge2;have:j=L.length:=by omega
       subst this;unfold awS;simp only [go_sem,simprocAttr,dtf];refine ⟨i+1,aN [(0,some 0)] ?_,by omega,by omega⟩;simp only [go_sem,simprocAttr,dtf];have hk:aX [(1,Hu L),(0, .row 27 1 (dA []) R)] 6 (.own 1)=some (eD L):=by
        simp only [go_sem,simprocAttr]<;>rfl
       have hfR:lendRs (aX [(1,Hu L),(0, .row 27 1 (dA []) R)] 6) R=some (ts.map dA):=by
        conv=>lhs;rw [hR]
        rw [Ef (fun a=>by simp only [aX]) (by rw [← hR];exact hk),Wz dA hil (by rw [← hL];rfl)]
       have hfr:reachRs (nR [(1,Hu L),(0, .row 27 1 (dA []) R)] 8) R = [1]:=by
        conv=>lhs;rw [hR]
        rw [zK (fun x=>Ga _ _ x) _ _ (by rw [List.length_map];exact hil)];simp only [go_sem,simprocAttr]
       rw [hfR,hfr,bX (show i<9223372036854775807 by omega)];simp only [go_sem,simprocAttr,dtf];simp
   ·simp only [bxx] at hge;unfold awS;simp only [go_sem,simprocAttr,dtf]
theorem aKy (p:ProjR) (hp:p.media.length≤65536) (hq:p.seqs.length≤65536) (hm:∀ m∈p.media,m.cues.length≤65536 ∧ ∀ c∈m.cues,c.lines.length≤65536)
  (hs:∀ s∈p.seqs,(s.cues.length≤65536 ∧ ∀ c∈s.cues,c.lines.length≤65536)∧(s.video.length≤65536 ∧ ∀ t∈s.video,t.length≤65536 ∧ ∀ c∈t,c.chan.length≤65536)∧(s.sound.length≤65536 ∧ ∀ t∈s.sound,t.length≤65536 ∧ ∀ c∈t,c.chan.length≤65536)) :
  aM Tryz.prog 58 [rN p] (rN p):=by
 refine aH Tryz.X58 Tryz.func58 rfl Tryz.ntmps58 (by rw [Tryz.results58]) (aD _ ?_);simp only [go_sem,simprocAttr,dtf];refine Tk [] [2,5] 9 .done rfl (by kernel_rfl) (by kernel_rfl) (by decide) ?_;simp only [go_sem,simprocAttr,dtf];refine Yx (aNn p.media hp) rfl ?_;simp only [go_sem,simprocAttr,dtf];refine Yx (aH9 p.seqs hq) rfl ?_;simp only [go_sem,simprocAttr,dtf];refine ⟨by kernel_rfl,?_⟩;refine aF (fun (k:Nat) σ => cJ 17 (aC k) (bN [4,7,8,9,10,11,12,13,18,19,20,21,22,23,24,25,26,27,28,29,30,31,32] (bK σ))) (fun k=>k≤p.media.length) (fun k=>p.media.length - k) 0 (aB ?_) (Nat.zero_le _) ?_
 ·simp only [go_sem,simprocAttr,dtf];simp
 ·intro k hk;refine aD _ ?_;simp only [go_sem,simprocAttr,dtf];refine ⟨fun hlt=>?_,fun hge=>?_⟩
  ·simp only [bxx] at hlt;have hkl:k<p.media.length:=by omega
   unfold awS;simp only [go_sem,simprocAttr,dtf];refine aK 13 .done rfl (by kernel_rfl) (by kernel_rfl) (by decide) ?_;simp only [go_sem,simprocAttr,dtf];refine ⟨⟨by omega,by omega⟩,by omega,_,Uh _ (hm _ (aW hkl)).1 (hm _ (aW hkl)).2,?_⟩;simp only [go_sem,simprocAttr,dtf];rw [aF4,wV MediumR.c hkl (by rfl)];refine ⟨⟨by omega,by omega⟩,by omega,by kernel_rfl,k+1,aB ?_,by omega,by omega⟩;simp only [go_sem,simprocAttr,dtf];simp [bX (show k<9223372036854775807 by omega)]
  ·simp only [bxx] at hge;have:k=p.media.length:=by omega
   subst this;unfold awS;simp only [go_sem,simprocAttr,dtf];refine aF (fun (k:Nat) σ => cJ 36 (aC k) (bN [4,5,6,18,19,20,21,22,23,24,25,26,27,28,29,30,31,32,37,38,39,40,41,42,43,44,45,46,47,48,49,50,51,52,53,54,55,56,57,58,59,60,61,62,63,64,65,66,67] (bK σ))) (fun k=>k≤p.seqs.length) (fun k=>p.seqs.length - k) 0 (aB ?_) (Nat.zero_le _) ?_
   ·simp only [go_sem,simprocAttr,dtf];simp
   ·intro k hk;refine aD _ ?_;simp only [go_sem,simprocAttr,dtf];refine ⟨fun hlt=>?_,fun hge=>?_⟩
    ·simp only [bxx] at hlt;have hkl:k<p.seqs.length:=by omega
     obtain ⟨q1,q2,q3⟩:=hs _ (aW (d:=default) hkl);have hn2:=vR SequenceR.c hkl;have hl2:=zJ SequenceR.c p.seqs k;unfold awS;simp only [go_sem,simprocAttr,dtf];refine ⟨⟨by omega,by omega⟩,?_⟩;refine aK 27 .done rfl (by kernel_rfl) (by kernel_rfl) (by decide) ?_;simp only [go_sem,simprocAttr,dtf];refine ⟨hkl,_,Hs _ q2.1 q2.2,?_⟩;simp only [go_sem,simprocAttr,dtf];refine ⟨hkl,_,Hs _ q3.1 q3.2,?_⟩;simp only [go_sem,simprocAttr,dtf];refine ⟨hkl,_,Uh _ q1.1 q1.2,?_⟩;simp only [go_sem,simprocAttr,dtf,hn2,hl2,List.set_set];rw [wV SequenceR.c hkl (by rfl)];refine ⟨hkl,hkl,hkl,by kernel_rfl,k+1,aB ?_,by omega,by omega⟩;simp only [go_sem,simprocAttr,dtf];simp [bX (show k<9223372036854775807 by omega)]
    ·simp only [bxx] at hge;have:k=p.seqs.length:=by omega
     subst this;unfold awS;simp only [go_sem,simprocAttr,dtf]
open Go.RowKit
set_option maxRecDepth 4000
def qQ (s:StateR) (L:List ByteArray):List ByteArray:=L.filter fun n=>decide (status s n≠1)
def kD (s:StateR) (a:ProjR×List ByteArray) (n:ByteArray):ProjR×List ByteArray :=
 if status s (bW s n)=1∧(mP a.1 n (bW s n)).2=0 then ((mP a.1 n (bW s n)).1,a.2) else (a.1,a.2 ++ [n])
def qC (s:StateR) (p:ProjR) (K:List ByteArray):ProjR×List ByteArray:=K.foldl (kD s) (p,[])
def jS (s:StateR) (p:ProjR) (name:ByteArray):ProjR×List ByteArray×Int :=
 if fL s=false then (⟨[],[]⟩,[],1) else
 if (dN p name).2≠0 then (⟨[],[]⟩,[],(dN p name).2) else
 ((qC s p (cU (qQ s (dN p name).1))).1,cU (qC s p (cU (qQ s (dN p name).1))).2,0)
def zN (s:StateR) (L:List ByteArray):List Ent:=L.map fun n=>(.string n,false,[gJ (bW s n)])
theorem zM (s:StateR) (n:ByteArray) (L:List ByteArray):tEs (zN s (n::L))=(.string n,bM (bW s n))::tEs (zN s L):=rfl
theorem zL (s:StateR) (L:List ByteArray):(tEs (zN s L)).map (·.1)=L.map Value.string:=by
 unfold zN tEs;rw [List.map_map,List.map_map];rfl
theorem Ag (a b:ByteArray):nD (.string a) (.string b)=decide (a=b):=rfl
theorem aM2 (s:StateR) {n:ByteArray}:∀ {L:List ByteArray},n ∉ L→Cs (.string n) (bM (bW s n)) (tEs (zN s L))=tEs (zN s (L ++ [n]))
 | [],_=>rfl
 | a::L,h=>by
  rw [List.mem_cons,not_or] at h;have ih:=aM2 s (L:=L) h.2;rw [zM,List.cons_append,zM, ← ih];show (if nD (.string n) (.string a)=true then _ else _)=_
  rw [if_neg (show ¬ nD (.string n) (.string a)=true by rw [Ag,decide_eq_true_eq];exact h.1)]
theorem aEd (s:StateR) {n:ByteArray}:∀ {L:List ByteArray},n∈L→qK (.string n) (tEs (zN s L))=some (bM (bW s n))
 | [],h=>by cases h
 | a::L,h=>by
  rw [zM];show (if nD (.string n) (.string a)=true then _ else _)=_
  by_cases e:n=a
  ·subst e;rw [if_pos (show nD (.string n) (.string n)=true by rw [Ag,decide_eq_true_eq])]
  ·rw [if_neg (show ¬ nD (.string n) (.string a)=true by rw [Ag,decide_eq_true_eq];exact e)];exact aEd s (by rcases List.mem_cons.1 h with h | h;exact absurd h e;exact h)
theorem aM1 (s:StateR) {n:ByteArray}:∀ {L:List ByteArray},L.Nodup→rmE (.string n) (tEs (zN s L))=tEs (zN s (L.filter fun x=>decide (x≠n)))
 | [],_=>rfl
 | a::L,h=>by
  rw [List.nodup_cons] at h;have ih:=aM1 s (n:=n) h.2;rw [zM];show (if nD (.string n) (.string a)=true then _ else _)=_
  by_cases e:n=a
  ·subst e;rw [if_pos (show nD (.string n) (.string n)=true by rw [Ag,decide_eq_true_eq]),List.filter_cons_of_neg (by simp)];congr 2;refine (List.filter_eq_self.2 fun x hx=>?_).symm;rw [decide_eq_true_eq];exact fun h1=>h.1 (h1 ▸ hx)
  ·rw [if_neg (show ¬ nD (.string n) (.string a)=true by rw [Ag,decide_eq_true_eq];exact e),List.filter_cons_of_pos (by simpa using fun h1=>e h1.symm),ih];rfl
theorem Jt (s:StateR) (L:List ByteArray):gP .string (tEs (zN s L))=true:=by
 induction L with
 | nil=>rfl
 | cons a L ih =>
  rw [zM];simp only [gP,ih,Bool.and_true];rfl
theorem wP {p:ProjR} (h:p.fit) {name:ByteArray} (h0:(dN p name).2=0):FilmOk p∧(dN p name).1.Nodup∧(∀ x∈(dN p name).1,x∈p.media.map MediumR.name∧x.size≤maxLen)∧(dN p name).1.length≤16:=by
 unfold dN at h0 ⊢
 by_cases hv:bT p≠0
 ·rw [if_pos hv] at h0;exact absurd h0 hv
 ·rw [if_neg hv] at h0 ⊢;have hv0:bT p=0:=by omega
  have hok:=nY h hv0;cases hs:bL p.seqs name with
  | none=>rw [hs] at h0;simp at h0
  | some q =>
   simp only;have hcm:=Tu hok 5 name ([],[]) (fun x hx=>by cases hx);have hsm:=uM hv0;have hm:∀ x∈cU (qY (gS p 5 name ([],[])).1),x∈p.media.map MediumR.name∧x.size≤maxLen:=fun x hx=>Rp hok (hcm x (rT.1 ((cK _).mem_iff.1 hx)))
   refine ⟨hok,(cK _).nodup_iff.2 (tR _),hm,?_⟩;have:=Gg ((cK _).nodup_iff.2 (tR (gS p 5 name ([],[])).1)) fun x hx=>(hm x hx).1
   rw [List.length_map] at this;omega
theorem aPc {p:ProjR} (h:p.fit) (f g:ByteArray):(mP p f g).1.fit:=by
 have z:(⟨[],[]⟩:ProjR).fit:=⟨fun m hm=>(by cases hm),fun s hs=>(by cases hs)⟩
 unfold mP;split
 ·exact z
 ·split
  ·split
   ·exact We h f g
   ·exact z
  ·exact z
theorem Bk (s:StateR) (p:ProjR) {K:List ByteArray} {k:Nat} (h:k<K.length):qC s p (K.take (k+1))=kD s (qC s p (K.take k)) (K.getD k default):=by
 unfold qC;rw [cA h,List.foldl_append];rfl
theorem aDx {s:StateR} {p:ProjR} (h:p.fit) (K:List ByteArray):∀ k,k≤K.length→(qC s p (K.take k)).1.fit
 | 0,_=>h
 | k+1,hk=>by
  rw [Bk s p (by omega)];have ih:=aDx (s:=s) h K k (by omega);unfold kD;split
  ·exact aPc ih _ _
  ·exact ih
theorem vS (s:StateR) (p:ProjR) (K:List ByteArray):∀ k,k≤K.length → ∀ x∈(qC s p (K.take k)).2,x∈K.take k
 | 0,_=>fun x hx=>by cases hx
 | k+1,hk=>fun x hx=>by
  rw [Bk s p (by omega)] at hx;rw [cA (by omega),List.mem_append];unfold kD at hx;split at hx
  ·exact .inl (vS s p K k (by omega) x hx)
  ·rcases List.mem_append.1 hx with hx | hx
   ·exact .inl (vS s p K k (by omega) x hx)
   ·exact .inr hx
theorem zT {α : Type} [Inhabited α] {K:List α} (h:K.Nodup) {k:Nat} (hk:k<K.length):K.getD k default ∉ K.take k:=by
 intro hm;obtain ⟨i,hi,e⟩:=List.getElem_of_mem hm;rw [List.length_take] at hi;rw [List.getElem_take,aJ hk] at e;have:=(List.getElem_inj h).1 e;omega
theorem aP9 (s:StateR) {L:List ByteArray} {k:Nat} (h:k<L.length):qQ s (L.take (k+1))=if status s (L.getD k default)≠1 then qQ s (L.take k) ++ [L.getD k default] else qQ s (L.take k):=by
 unfold qQ;rw [cA h,List.filter_append]
 by_cases e:status s (L.getD k default)=1
 ·rw [if_neg (by simpa using e),List.filter_cons_of_neg (by simpa using e)];simp
 ·rw [if_pos e,List.filter_cons_of_pos (by simpa using e)];rfl
def aUm (s:StateR) (p:ProjR) (K:List ByteArray) (k:Nat) (n:ByteArray):Bool := !uH n (K.take k)||uH n (qC s p (K.take k)).2
def left (s:StateR) (p:ProjR) (U K:List ByteArray) (k:Nat):List ByteArray:=U.filter (aUm s p K k)
theorem rB {s:StateR} {p:ProjR} {K:List ByteArray} {k:Nat} {n:ByteArray}:aUm s p K k n=true ↔ (n ∉ K.take k∨n∈(qC s p (K.take k)).2):=by
 unfold aUm;rw [Bool.or_eq_true,Gp,Bool.not_eq_true', ← Bool.not_eq_true,Gp]
theorem aQp (s:StateR) (p:ProjR) (U K:List ByteArray):left s p U K 0=U:=by
 unfold left;refine List.filter_eq_self.2 fun x _=>?_
 exact rB.2 (.inl (by simp))
theorem aUj {s:StateR} {p:ProjR} {U K:List ByteArray} {k:Nat} (hK:K.Nodup) (hU:∀ x∈K,x∈U) (hk:k<K.length):K.getD k default∈left s p U K k:=by
 unfold left;exact List.mem_filter.2 ⟨hU _ (aW hk),rB.2 (.inl (zT hK hk))⟩
theorem Yf {s:StateR} {p:ProjR} {U K:List ByteArray} {k:Nat} (hK:K.Nodup) (hk:k<K.length) (h:qC s p (K.take (k+1))=((qC s p (K.take k)).1,(qC s p (K.take k)).2 ++ [K.getD k default])):left s p U K (k+1)=left s p U K k:=by
 unfold left;refine List.filter_congr fun x _=>?_
 rw [Bool.eq_iff_iff,rB,rB,h,cA hk];simp only [List.mem_append,List.mem_singleton,not_or]
 by_cases e:x=K.getD k default
 ·rw [e];simp only [not_true_eq_false,and_false,or_true,false_or,true_iff];exact .inl (zT hK hk)
 ·simp only [e,not_false_eq_true,and_true,or_false]
theorem aQq {s:StateR} {p:ProjR} {U K:List ByteArray} {k:Nat} (hK:K.Nodup) (hk:k<K.length) (h:(qC s p (K.take (k+1))).2=(qC s p (K.take k)).2):left s p U K (k+1)=(left s p U K k).filter fun x=>decide (x≠K.getD k default):=by
 unfold left;rw [List.filter_filter];refine List.filter_congr fun x _=>?_
 rw [Bool.eq_iff_iff,Bool.and_eq_true,decide_eq_true_eq,rB,rB,h,cA hk];simp only [List.mem_append,List.mem_singleton,not_or];have hn:=zT hK hk;have hsub:=vS s p K k (by omega)
 by_cases e:x=K.getD k default
 ·rw [e];simp only [not_true_eq_false,and_false,false_or,ne_eq,false_and,iff_false];exact fun hm=>hn (hsub _ hm)
 ·simp only [e,not_false_eq_true,and_true,ne_eq,true_and]
theorem aUk {s:StateR} {p:ProjR} {U K:List ByteArray} (hU:U.Nodup) (hK:K.Nodup) (hm:∀ x,x∈K ↔ x∈U) (hd:(qC s p K).2.Nodup):cU (left s p U K K.length)=cU (qC s p K).2:=by
 refine Uy ?_;unfold left;refine (List.perm_ext_iff_of_nodup (hU.filter _) hd).2 fun x=>?_
 rw [List.mem_filter,rB,List.take_length];have hsub:=vS s p K K.length (Nat.le_refl _) x;rw [List.take_length] at hsub;constructor
 ·rintro ⟨h1,h2 | h2⟩
  ·exact absurd ((hm x).2 h1) h2
  ·exact h2
 ·exact fun h=>⟨(hm x).1 (hsub h), .inr h⟩
theorem Dy {s:StateR} {p:ProjR} {K:List ByteArray} (hK:K.Nodup):∀ k,k≤K.length→(qC s p (K.take k)).2.Nodup
 | 0,_=>List.nodup_nil
 | k+1,hk=>by
  rw [Bk s p (by omega)];have ih:=Dy (s:=s) (p:=p) hK k (by omega);unfold kD;split
  ·exact ih
  ·refine List.nodup_append.2 ⟨ih,by simp,fun a ha b hb=>?_⟩;simp only [List.mem_cons,List.not_mem_nil,or_false] at hb;subst hb;exact fun e=>zT hK (show k<K.length by omega) (e ▸ vS s p K k (by omega) a ha)
open Go.RowKit
set_option maxRecDepth 4000
abbrev aCe (r:ProjR×List ByteArray×Int):V := .tup [rN r.1, .t (yV r.2.1),aC r.2.2]
theorem Qj (k:Int) {h:Heap}:vW (aCe (⟨[],[]⟩,[],k)) (.tup [.agg [.t (.lit (.slice none 0 0)), .t (.lit (.slice none 0 0))], .t (.lit (.slice none 0 0)),aC k]) h :=
 rR (r' := .tup [.agg [.t (.lit (.slice none 0 0)), .t (.lit (.slice none 0 0))], .t (.lit (.slice none 0 0)),aC k]) rfl rfl (tF (by exact ⟨jZ (by exact ⟨eN,eN,trivial⟩),eN,cC,trivial⟩))
set_option maxHeartbeats 8000000 in
theorem aW7 (s:StateR) (p:ProjR) (name:ByteArray) (hf:s.files.length≤maxLen) (hl:s.links.length≤maxLen) (h:p.fit):aM Tryz.prog 20 [fW s,rN p,bM name] (aCe (jS s p name)):=by
 refine cR Tryz.X20 Tryz.func20 rfl Tryz.ntmps20 (by rw [Tryz.results20]) (aD _ ?_);simp only [go_sem,simprocAttr,dtf];refine ⟨_,aC2 s hf hl,?_⟩;simp only [go_sem,simprocAttr,dtf];refine ⟨fun hv=>?_,fun hv=>?_⟩
 ·have e:jS s p name=(⟨[],[]⟩,[],1):=by unfold jS;rw [if_pos (nt hv)]
  rw [e];unfold awS;simp only [go_sem,simprocAttr,dtf];exact Qj _
 ·have hv':=nf hv;unfold awS;simp only [go_sem,simprocAttr,dtf];refine ⟨_,cUsesP p h name,?_⟩;simp only [go_sem,simprocAttr,dtf];obtain ⟨u,hu⟩:∃ u,u=dN p name:=⟨_,rfl⟩
  rw [← hu];refine brW (b:=decide (u.2≠0)) ?_ ⟨fun h0=>?_,fun h0=>?_⟩
  ·rw [Bool.eq_iff_iff,decide_eq_true_eq,bne_iff_ne]
  ·have h1:=of_decide_eq_true h0;have e:jS s p name=(⟨[],[]⟩,[],u.2):=by unfold jS;rw [if_neg (by rw [hv'];decide), ← hu,if_pos h1]
   rw [e];unfold awS;simp only [go_sem,simprocAttr,dtf];exact Qj _
  ·have h1:u.2=0:=by simpa using h0
   obtain ⟨hok,hnd,hnm,hl16⟩:=wP (p:=p) (name:=name) h (by rw [← hu];exact h1);rw [← hu] at hnd hnm hl16;have e:jS s p name=((qC s p (cU (qQ s u.1))).1,cU (qC s p (cU (qQ s u.1))).2,0):=by unfold jS;rw [if_neg (by rw [hv'];decide), ← hu,if_neg (by omega)]
   rw [e];obtain ⟨N,hN⟩:∃ N,N=u.1:=⟨_,rfl⟩
   rw [← hN] at hnd hnm hl16 ⊢;unfold awS;simp only [go_sem,simprocAttr,dtf];refine aF (fun (k:Nat) σ => zD 3 (.map (tEs (zN s (qQ s (N.take k))))) (cJ 37 (aC k) (bN [13,38,39,40,41,42,43,44,45,46,47,48,49] (bK σ)))) (fun k=>k≤N.length) (fun k=>N.length - k) 0 (aB ?_) (Nat.zero_le _) ?_
   ·simp only [go_sem,simprocAttr,dtf];exact ⟨by simp,rfl,by simp,by simp,by simp⟩
   ·intro k hk;refine aD _ ?_;simp only [go_sem,simprocAttr,dtf];refine ⟨fun hlt=>?_,fun hge=>?_⟩
    ·simp only [bxx] at hlt;have hkl:k<N.length:=by omega
     obtain ⟨n,hn⟩:∃ n,n=N.getD k default:=⟨_,rfl⟩
     have hT:=aP9 s hkl;rw [← hn] at hT;have hni:n ∉ qQ s (N.take k):=fun hm=>by
      unfold qQ at hm;rw [hn] at hm;exact zT hnd hkl (List.mem_filter.1 hm).1
     unfold awS;simp only [go_sem,simprocAttr,dtf];rw [show N.getD k ⟨#[]⟩=n from hn.symm];refine ⟨⟨by omega,by omega⟩,_,yD s n hf hl,?_⟩;simp only [go_sem,simprocAttr,dtf];refine brW (b:=decide (status s n≠1)) ?_ ⟨fun h2=>?_,fun h2=>?_⟩
     ·rw [Bool.eq_iff_iff,decide_eq_true_eq,bne_iff_ne]
     ·have h3:=of_decide_eq_true h2;rw [if_pos h3] at hT;unfold awS;simp only [go_sem,simprocAttr,dtf];refine ⟨_,cProxy s n hl,?_⟩;simp only [go_sem,simprocAttr,dtf,Jt];rw [aM2 s hni, ← hT];refine ⟨k+1,aB ?_,by omega,by omega⟩;simp only [go_sem,simprocAttr,dtf];rw [bX (show k<9223372036854775807 by omega)];simp
     ·have h3 : ¬ status s n≠1:=by simpa using h2
      rw [if_neg h3] at hT;unfold awS;simp only [go_sem,simprocAttr,dtf];refine ⟨k+1,aB ?_,by omega,by omega⟩;simp only [go_sem,simprocAttr,dtf];rw [hT,bX (show k<9223372036854775807 by omega)];simp
    ·simp only [bxx] at hge;have:k=N.length:=by omega
     subst this;rw [List.take_length];unfold awS;simp only [go_sem,simprocAttr,dtf];have hlm:=aF5 hok;have hls:=aDj hok;have hsm:=hok.small;unfold dC at hsm;simp only [Bool.and_eq_true,decide_eq_true_eq] at hsm;refine ⟨_,aKy p (by omega) (by omega) hlm hls,?_⟩;simp only [go_sem,simprocAttr,dtf];refine kV Tryz.X60 Tryz.func60 rfl Tryz.ntmps60 (by rw [Tryz.results60]) (aD _ ?_);simp only [go_sem,simprocAttr,dtf];have hun:(qQ s N).Nodup:=hnd.filter _;have huz:∀ x∈qQ s N,x.size≤maxLen:=fun x hx=>(hnm x (List.mem_filter.1 hx).1).2
     have hul:(qQ s N).length≤16:=Nat.le_trans (List.length_filter_le _ _) hl16;refine gN Tryz.X59 (cG (uE (tEs (zN s (qQ s N))) (qQ s N) (yP ⟨#[]⟩) (zL s _) hun huz (by omega)) [5,3] rfl (by omega) (by decide) ?_ rfl rfl rfl rfl ?_)
     ·simp only [go_sem,simprocAttr,dtf,(cP id _).2,(cP _ _).1]
     ·simp only [go_sem,simprocAttr,dtf,(cP id _).2,(cP _ _).1];obtain ⟨U,hUe⟩:∃ U,U=qQ s N:=⟨_,rfl⟩
      obtain ⟨K,hKe⟩:∃ K,K=cU U:=⟨_,rfl⟩
      have hUn:U.Nodup:=by rw [hUe];exact hun
      have hUz:∀ x∈U,x.size≤maxLen:=by rw [hUe];exact huz
      have hUl:U.length≤16:=by rw [hUe];exact hul
      have hKm:∀ x,x∈K ↔ x∈U:=fun x=>by rw [hKe];exact (cK _).mem_iff
      have hKn:K.Nodup:=by rw [hKe,(cK _).nodup_iff,hUe];exact hun
      have hKl:K.length≤16:=by rw [hKe,(cK _).length_eq,hUe];exact hul
      have hKk:(K.map fun k=>[T.lit (Value.string k)])=K.map yP:=rfl;rw [← hUe, ← hKe] at *;refine aF (fun (k:Nat) σ => zD 4 (.box [.t (Dn (qC s p (K.take k)).1.media), .t (Kv (qC s p (K.take k)).1.seqs)]) (zD 3 (.map (tEs (zN s (left s p U K k)))) (cJ 57 (aC k) (bN [16,17,18,19,53,54,58,59,60,61,62,63,64,65,66,67,68,69,70,71,72,73,74,75,76,77,78,79,80] (bK σ))))) (fun k=>k≤K.length) (fun k=>K.length - k) 0 (aB ?_) (Nat.zero_le _) ?_
      ·simp only [go_sem,simprocAttr,dtf];rw [aQp];refine ⟨?_,?_,?_,?_⟩<;>first | rfl | exact ⟨rfl,rfl⟩ | (simp;done) | (simp;exact ⟨rfl,rfl⟩)
      ·intro k hk;refine rM (aD _ ?_);simp only [go_sem,simprocAttr,dtf];refine rM (aD _ ?_);simp only [go_sem,simprocAttr,dtf];refine ⟨fun hlt=>?_,fun hge=>?_⟩
       ·simp only [bxx] at hlt;have hkl:k<K.length:=by omega
        obtain ⟨n,hn⟩:∃ n,n=K.getD k default:=⟨_,rfl⟩
        have hin:=aUj (s:=s) (p:=p) (U:=U) hKn (fun x hx=>(hKm x).1 hx) hkl;have hR:=Bk s p hkl;have hfit:=aDx (s:=s) h K k hk;rw [← hn] at hin hR;have hnK:nth (yP ⟨#[]⟩) (K.map fun k=>[T.lit (Value.string k)]) k = [gJ n]:=by rw [hn];exact pR yP ⟨#[]⟩ K k
        unfold awS;simp only [go_sem,simprocAttr,dtf];refine rM (Zz (rM (aD _ ?_)));simp only [go_sem,simprocAttr,dtf,hnK];refine ⟨⟨by omega,by omega⟩,rM (aD _ ?_)⟩;simp only [go_sem,simprocAttr,dtf,Jt,aEd s hin];refine rM (aD _ ?_);simp only [go_sem,simprocAttr,dtf];refine ⟨_,yD s (bW s n) hf hl,?_⟩;simp only [go_sem,simprocAttr,dtf];unfold kD at hR;refine brW (b:=decide (status s (bW s n)≠1)) ?_ ⟨fun h2=>?_,fun h2=>?_⟩
        ·rw [Bool.eq_iff_iff,decide_eq_true_eq,bne_iff_ne]
        ·have h3:=of_decide_eq_true h2;rw [if_neg (fun h=>h3 h.1)] at hR;unfold awS;simp only [go_sem,simprocAttr,dtf];refine aD _ ?_;simp only [go_sem,simprocAttr,dtf];refine ⟨k+1,aB ?_,by omega,by omega⟩;simp only [go_sem,simprocAttr,dtf];rw [bX (show k<9223372036854775807 by omega),Yf hKn hkl (by rw [hR,hn]),hR];simp
        ·have h3:status s (bW s n)=1:=by simpa using h2
         unfold awS;simp only [go_sem,simprocAttr,dtf];refine rM (aD _ ?_);simp only [go_sem,simprocAttr,dtf];refine ⟨_,cSwapP _ hfit n (bW s n),?_⟩;simp only [go_sem,simprocAttr,dtf];obtain ⟨r,hr⟩:∃ r,r=mP (qC s p (K.take k)).1 n (bW s n):=⟨_,rfl⟩
         rw [← hr] at hR ⊢;refine rM (aD _ ?_);simp only [go_sem,simprocAttr,dtf];refine aHf ?_;simp only [go_sem,simprocAttr,dtf];refine brW (b:=decide (r.2=0)) ?_ ⟨fun h4=>?_,fun h4=>?_⟩
         ·rw [Bool.eq_iff_iff,decide_eq_true_eq,beq_iff_eq]
         ·have h5:=of_decide_eq_true h4;rw [if_pos ⟨h3,h5⟩] at hR;refine rM (aD _ ?_);simp only [go_sem,simprocAttr,dtf];refine Na 2 ?_;simp only [go_sem,simprocAttr,dtf,List.take_succ_cons,List.take_zero,List.drop_succ_cons,List.drop_zero,List.take,List.drop];refine aT0 rfl rfl rfl rfl ?_;simp only [go_sem,simprocAttr,dtf,Jt];refine aJe ?_;simp only [go_sem,simprocAttr,dtf];refine aD _ ?_;simp only [go_sem,simprocAttr,dtf];refine ⟨k+1,aB ?_,by omega,by omega⟩;simp only [go_sem,simprocAttr,dtf];have hln:(left s p U K k).Nodup:=hUn.filter _;rw [bX (show k<9223372036854775807 by omega),aM1 s hln,aQq hKn hkl (by rw [hR]),hR, ← hn];simp
         ·have h5 : ¬ r.2=0:=by simpa using h4
          rw [if_neg (fun h=>h5 h.2)] at hR;refine aD _ ?_;simp only [go_sem,simprocAttr,dtf];refine aD _ ?_;simp only [go_sem,simprocAttr,dtf];refine ⟨k+1,aB ?_,by omega,by omega⟩;simp only [go_sem,simprocAttr,dtf];rw [bX (show k<9223372036854775807 by omega),Yf hKn hkl (by rw [hR,hn]),hR];simp
       ·simp only [bxx] at hge;have:k=K.length:=by omega
        subst this;unfold awS;simp only [go_sem,simprocAttr,dtf];rw [List.take_length];refine aVm (.alt (.step 0 (.step 1 (.step 2 (.step 3 (.step 4 (.step 5 (.step 6 .done))))))) (.step 1 (.alt (.step 0 (.step 2 (.step 3 (.step 4 (.step 5 (.step 6 .done)))))) (.step 2 (.alt (.step 0 (.step 3 (.step 4 (.step 5 (.step 6 .done))))) (.step 3 (.step 0 (.step 4 (.step 5 (.step 6 .done)))))))))) rfl (by kernel_rfl) ?_;have hMe:=aUk (s:=s) (p:=p) hUn hKn hKm (by have:=Dy (s:=s) (p:=p) hKn K.length (Nat.le_refl _);rw [List.take_length] at this;exact this);have hMn:(left s p U K K.length).Nodup:=hUn.filter _;have hMz:∀ x∈left s p U K K.length,x.size≤maxLen:=fun x hx=>hUz x (List.mem_filter.1 hx).1
        have hMl:(left s p U K K.length).length≤16:=Nat.le_trans (List.length_filter_le _ _) hUl;obtain ⟨M,hM⟩:∃ M,M=left s p U K K.length:=⟨_,rfl⟩
        rw [← hM] at hMe hMn hMz hMl ⊢;simp only [go_sem,simprocAttr,dtf];refine ⟨?_,?_,?_⟩
        ·refine kV Tryz.X60 Tryz.func60 rfl Tryz.ntmps60 (by rw [Tryz.results60]) (aD _ ?_);simp only [go_sem,simprocAttr,dtf];refine gN Tryz.X59 (cG (uE (tEs (zN s M)) M (yP ⟨#[]⟩) (zL s _) hMn hMz (by omega)) [6,3] rfl (by omega) (by decide) ?_ rfl rfl rfl rfl ?_)
         ·simp only [go_sem,simprocAttr,dtf,(cP id _).2,(cP _ _).1]
         ·simp only [go_sem,simprocAttr,dtf,(cP id _).2,(cP _ _).1];rw [hMe];exact aU rfl rfl
        ·refine kV Tryz.X60 Tryz.func60 rfl Tryz.ntmps60 (by rw [Tryz.results60]) (aD _ ?_);simp only [go_sem,simprocAttr,dtf];refine gN Tryz.X59 (cG (uE (tEs (zN s M)) M (yP ⟨#[]⟩) (zL s _) hMn hMz (by omega)) [6,3] rfl (by omega) (by decide) ?_ rfl rfl rfl rfl ?_)
         ·simp only [go_sem,simprocAttr,dtf,(cP id _).2,(cP _ _).1]
         ·simp only [go_sem,simprocAttr,dtf,(cP id _).2,(cP _ _).1];rw [hMe];exact aU rfl rfl
        ·refine kV Tryz.X60 Tryz.func60 rfl Tryz.ntmps60 (by rw [Tryz.results60]) (aD _ ?_);simp only [go_sem,simprocAttr,dtf];refine ⟨?_,?_⟩
         ·refine gN Tryz.X59 (cG (uE (tEs (zN s M)) M (yP ⟨#[]⟩) (zL s _) hMn hMz (by omega)) [6,3] rfl (by omega) (by decide) ?_ rfl rfl rfl rfl ?_)
          ·simp only [go_sem,simprocAttr,dtf,(cP id _).2,(cP _ _).1]
          ·simp only [go_sem,simprocAttr,dtf,(cP id _).2,(cP _ _).1];rw [hMe];exact aU rfl rfl
         ·refine gN Tryz.X59 (cG (uE (tEs (zN s M)) M (yP ⟨#[]⟩) (zL s _) hMn hMz (by omega)) [6,3] rfl (by omega) (by decide) ?_ rfl rfl rfl rfl ?_)
          ·simp only [go_sem,simprocAttr,dtf,(cP id _).2,(cP _ _).1]
          ·simp only [go_sem,simprocAttr,dtf,(cP id _).2,(cP _ _).1];rw [hMe];exact aU rfl rfl
end Go.Proofs.YtbfnemkngoaeeaaGreat
