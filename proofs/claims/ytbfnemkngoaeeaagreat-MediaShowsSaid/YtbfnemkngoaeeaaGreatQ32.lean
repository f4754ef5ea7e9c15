/- Proved here: The media that a sequence needs, as the program collects them; conditions stand in each theorem. -/
import Derived.Test.YtbfnemkngoaeeaaGreatQ13
import Derived.Test.YtbfnemkngoaeeaaGreatQ19
import Derived.Test.YtbfnemkngoaeeaaGreatQ31
set_option linter.unusedSimpArgs false
set_option linter.unusedVariables false
set_option linter.unusedSectionVars false
set_option linter.unnecessarySimpa false
namespace Go.Proofs.YtbfnemkngoaeeaaGreat
open Go.RowKit
set_option maxRecDepth 4000
def uQ (p:ProjR) (n:ByteArray) (kind:Int):List ByteArray:=jE ((bL p.seqs n).getD default) kind
def uH (n:ByteArray) (l:List ByteArray):Bool:=(eU (fun m:ByteArray=>m) n l).isSome
theorem Gp {n:ByteArray} {l:List ByteArray}:uH n l=true ↔ n∈l:=by
 unfold uH;cases e:eU (fun m:ByteArray=>m) n l with
 | none =>
  have:=gW.1 e;exact ⟨fun h=>(by cases h),fun h=>absurd rfl (this n h)⟩
 | some y =>
  obtain ⟨h1,h2⟩:=cV e;exact ⟨fun _=>by rw [← h2];exact h1,fun _=>rfl⟩
def gS (p:ProjR):Nat→ByteArray→List ByteArray×List ByteArray→List ByteArray×List ByteArray
 | 0,_,r=>r
 | f+1,n,r=>if uH n r.2=true then r else (uQ p n 2).foldl (fun r x=>gS p f x r) (r.1++uQ p n 1,r.2 ++ [n])
theorem Ab (n:ByteArray) (l:List ByteArray):qJ (.string n) (sF l)=if uH n l=true then some (aS true) else none:=by
 unfold sF uH;rw [rU];cases eU (fun m:ByteArray=>m) n l<;>rfl
theorem aD4 {l:List ByteArray} {k:Nat} (h:k<l.length) (d:List T):nth d (l.map yP) k = [gJ (l.getD k default)]:=by
 unfold nth;rw [List.getElem?_map,List.getElem?_eq_getElem h,aJ h];rfl
theorem aSu {p:ProjR} (h:FilmOk p):ShownOk p :=
 Fs h.small (by rw [List.all_eq_true.2 h.med,List.all_eq_true.2 h.seq];rfl) (List.all_eq_true.2 h.compl)
theorem Xu {s:SequenceR} (h:SeqOk s) (kind:Int):(jE s kind).length≤1000000:=by
 unfold jE;rw [(cK _).length_eq];exact Nat.le_trans (pQ _) (h.hn kind)
set_option maxHeartbeats 4000000 in
theorem aH7 (p:ProjR) (hp:ShownOk p):∀ (f:Nat) (n:ByteArray) (r:List ByteArray×List ByteArray),(bL p.seqs n).isSome=true → ¬ Wk p f n →
  CIO Tryz.prog 72 2 [(1, .map (tEs (sF r.2))),(0, .map (tEs (sF r.1)))] [aS8 p,bM n, .own 0, .own 1] (.tup []) [(1, .map (tEs (sF (gS p f n r).2))),(0, .map (tEs (sF (gS p f n r).1)))] 2
 | 0,n,r,_,h=>absurd trivial h
 | f+1,n,r,hs,hk=>by
  obtain ⟨s,hsn⟩:=Option.isSome_iff_exists.1 hs;obtain ⟨hsm,hsname⟩:=cV hsn;have hso:=hp.ok s hsm;have ih:=aH7 p hp f;have e1:∀ kind,uQ p n kind=jE s kind:=fun kind=>by unfold uQ;rw [hsn];rfl
  have hin:eH p n=jE s 2:=by unfold eH;rw [hsn];rfl
  have c1:=aC4 p n 1 s hsn hso.hv hso.hs hso.hm (hso.hz 1) (hso.hn 1);have c2:=aC4 p n 2 s hsn hso.hv hso.hs hso.hm (hso.hz 2) (hso.hn 2);have l1:=Xu hso 1;have l2:=Xu hso 2;have hth:∀ x∈jE s 2,(bL p.seqs x).isSome=true ∧ ¬ Wk p f x:=fun x hx=>⟨hp.there s hsm x (jG.1 hx),Nu hk (by rw [hin];exact hx)⟩
  refine mW Tryz.X72 Tryz.func72 rfl Tryz.ntmps72 (by rw [Tryz.results72]) (aD _ ?_);cases hm:uH n r.2 with
  | true =>
   have e0:gS p (f+1) n r=r:=by unfold gS;rw [if_pos hm]
   rw [e0];simp only [go_sem,simprocAttr,Ab,hm];refine aN [(1,some 1),(0,some 0)] ?_;simp only [go_sem,simprocAttr]<;>simp
  | false =>
   have e0:gS p (f+1) n r=(jE s 2).foldl (fun r x=>gS p f x r) (r.1++jE s 1,r.2 ++ [n]):=by
    conv=>lhs;unfold gS
    rw [if_neg (by rw [hm];decide),e1,e1]
   rw [e0];clear e0;generalize jE s 1=ns at c1 l1 ⊢;generalize jE s 2=ms at c2 l2 hth ⊢;simp only [go_sem,simprocAttr,Ab,hm,Bp];refine ⟨_,c1,?_⟩;simp only [go_sem,simprocAttr];refine aF (fun (k:Nat) σ => zD 0 (.map (tEs (sF (r.1++ns.take k)))) (cJ 21 (aC k) (bN [9,22,23,24,25,26,27] (bK σ)))) (fun k=>k≤ns.length) (fun k=>ns.length - k) 0 (aB ?_) (Nat.zero_le _) ?_
   ·simp only [go_sem,simprocAttr]<;>simp
   ·intro k hk;refine aD _ ?_;simp only [go_sem,simprocAttr];refine ⟨fun hlt=>?_,fun hge=>?_⟩
    ·simp only [bxx] at hlt;have hk':k<ns.length:=by omega
     have hwk:IntKind.i64.wrap ((k:Int)+1)=((k+1:Nat):Int):=by rw [bX (by omega)];omega
     have hx:=aD4 hk';have htk:=cA hk';generalize ns.getD k default=x at hx htk;unfold awS;simp only [go_sem,simprocAttr,hx,List.length_map,Bp];refine ⟨⟨by omega,by omega⟩,k+1,aB ?_,by omega,by omega⟩;simp only [go_sem,simprocAttr,hwk,htk,List.append_assoc];simp
    ·simp only [bxx] at hge;unfold awS;simp only [go_sem,simprocAttr];rw [List.take_of_length_le (show ns.length≤k by omega)];refine ⟨_,c2,?_⟩;simp only [go_sem,simprocAttr];refine aF (fun (k:Nat) σ => zD 0 (.map (tEs (sF ((ms.take k).foldl (fun r x=>gS p f x r) (r.1++ns,r.2 ++ [n])).1))) (zD 1 (.map (tEs (sF ((ms.take k).foldl (fun r x=>gS p f x r) (r.1++ns,r.2 ++ [n])).2))) (cJ 32 (aC k) (bN [9,11,22,23,24,25,26,27,33,34,35,36,37,38,39,40,41] (bK σ))))) (fun k=>k≤ms.length) (fun k=>ms.length - k) 0 (aB ?_) (Nat.zero_le _) ?_
     ·simp only [go_sem,simprocAttr]<;>simp
     ·intro j hj;refine aD _ ?_;simp only [go_sem,simprocAttr];refine ⟨fun hlt2=>?_,fun hge2=>?_⟩
      ·simp only [bxx] at hlt2;have hj':j<ms.length:=by omega
       have hwj:IntKind.i64.wrap ((j:Int)+1)=((j+1:Nat):Int):=by rw [bX (by omega)];omega
       have hx:=aD4 hj';have htk:=cA hj';have hxm:=hth _ (aW (d:=default) hj');have hfl:(ms.take (j+1)).foldl (fun r x=>gS p f x r) (r.1++ns,r.2 ++ [n])=gS p f (ms.getD j default) ((ms.take j).foldl (fun r x=>gS p f x r) (r.1++ns,r.2 ++ [n])):=by
        rw [htk,List.foldl_append];rfl
       obtain ⟨q,hq⟩:∃ q,q=(ms.take j).foldl (fun r x=>gS p f x r) (r.1++ns,r.2 ++ [n]):=⟨_,rfl⟩
       rw [← hq] at hfl ⊢;generalize ms.getD j default=x at hx hxm hfl;unfold awS;simp only [go_sem,simprocAttr,hx,List.length_map];refine ⟨⟨by omega,by omega⟩,gN Tryz.X72 (cG (ih x q hxm.1 hxm.2) [0,1] rfl (by omega) (by decide) ?_ rfl rfl rfl rfl ?_)⟩
       ·simp only [go_sem,simprocAttr,(cP id _).2,(cP _ _).1]
       ·simp only [go_sem,simprocAttr];refine ⟨j+1,aB ?_,by omega,by omega⟩;simp only [go_sem,simprocAttr,hwj,hfl];simp [(cP _ _).1]
      ·simp only [bxx] at hge2;unfold awS;simp only [go_sem,simprocAttr];rw [List.take_of_length_le (show ms.length≤j by omega)];refine aN [(1,some 1),(0,some 0)] ?_;simp only [go_sem,simprocAttr]<;>simp
theorem Gg {α : Type}:∀ {l m:List α},l.Nodup→(∀ x∈l,x∈m)→l.length≤m.length
 | [],m,_,_=>Nat.zero_le _
 | x::l,m,hn,h=>by
  rw [List.nodup_cons] at hn;obtain ⟨a,b,rfl⟩:=List.append_of_mem (h x (by simp));have:=Gg (l:=l) (m:=a++b) hn.2 fun y hy=>by
   have h1:=h y (by simp [hy]);simp only [List.mem_append,List.mem_cons] at h1 ⊢;rcases h1 with h1 | rfl | h1
   ·exact .inl h1
   ·exact absurd hy hn.1
   ·exact .inr h1
  simp only [List.length_cons,List.length_append] at this ⊢;omega
theorem aFu {α β : Type} {P : α → Prop} {f : α → β → α} (hf:∀ a b,P a→P (f a b)):∀ (l:List β) (a : α),P a→P (l.foldl f a)
 | [],a,h=>h
 | b::l,a,h=>aFu hf l (f a b) (hf a b h)
theorem Tu {p:ProjR} (hp:FilmOk p):∀ (f:Nat) (n:ByteArray) (r:List ByteArray×List ByteArray),(∀ x∈r.1,(nC p.media x).isSome=true) → ∀ x∈(gS p f n r).1,(nC p.media x).isSome=true
 | 0,n,r,h=>h
 | f+1,n,r,h=>by
  unfold gS;split
  ·exact h
  ·refine aFu (P:=fun r:List ByteArray×List ByteArray => ∀ x∈r.1,(nC p.media x).isSome=true) (fun r x hr=>Tu hp f x r hr) _ _ fun x hx=>?_
   rcases List.mem_append.1 hx with hx | hx
   ·exact h x hx
   ·unfold uQ at hx;cases hs:bL p.seqs n with
    | none =>
     rw [hs] at hx;cases jG.1 hx
    | some s =>
     rw [hs] at hx;have hx:=jG.1 hx;unfold dG at hx;obtain ⟨y,hy,rfl⟩:=List.mem_map.1 hx;obtain ⟨hy1,hy2⟩:=List.mem_filter.1 hy;obtain ⟨c,hc,hyc⟩:=List.mem_flatMap.1 hy1;have hcl:=List.all_eq_true.1 (hp.compl s (cV hs).1) c hc;unfold dP at hcl;rw [Bool.and_eq_true] at hcl;have hy3:cW p y=true:=by
      simp only [List.mem_cons,List.not_mem_nil,or_false] at hyc;rcases hyc with rfl | rfl
      ·exact hcl.1
      ·exact hcl.2
     unfold cW at hy3;cases e:nC p.media y.name with
     | some _=>rfl
     | none =>
      rw [e,hy2] at hy3;simp at hy3
theorem Rp {p:ProjR} (hp:FilmOk p) {x:ByteArray} (h:(nC p.media x).isSome=true):x∈p.media.map MediumR.name∧x.size≤maxLen:=by
 obtain ⟨m,hm⟩:=Option.isSome_iff_exists.1 h;obtain ⟨h1,h2⟩:=cV hm;refine ⟨by rw [← h2];exact List.mem_map_of_mem h1,?_⟩;have:=hp.med m h1;unfold fC aT at this;simp only [Bool.and_eq_true,decide_eq_true_eq] at this;have h3:m.name=x:=h2;rw [h3] at this;unfold maxLen;omega
def dN (p:ProjR) (name:ByteArray):List ByteArray×Int :=
 if bT p≠0 then ([],bT p) else
 match bL p.seqs name with
 | none=>([],7)
 | some _=>(cU (qY (gS p 5 name ([],[])).1),0)
abbrev vuses (r:List ByteArray×Int):V := .tup [.t (yV r.1),aC r.2]
theorem Qh (k:Int) {h:Heap}:vW (vuses ([],k)) (.tup [.t (.lit (.slice none 0 0)),aC k]) h :=
 rR (r' := .tup [.t (.lit (.slice none 0 0)),aC k]) rfl rfl (tF (by exact ⟨eN,cC,trivial⟩))
theorem aB6:aHn Tryz.prog 69:=by
 refine ⟨Tryz.X69,fun cap w=>callsDIn_of_wpSIn Tryz.func69 rfl trivial fun c₀ cs hu=>?_⟩;have k1 : 2<cap.size+(4 - cap.size):=by omega
 have k2 : 3<cap.size+(4 - cap.size):=by omega
 have k3 : 2<max 4 cap.size:=by omega
 have k4 : 3<max 4 cap.size:=by omega
 apply wpSIn_seq;apply wpSIn_region;simp [wpOpsSIn,Fence.wide,go_sem,recoverD,hu,Tryz.ntmps69,Exit.thenS,k1,k2,k3,k4];refine wpSIn_cond (t:=false) (by simp [Act.eval,k2,k4]) ?_;refine wpSIn_of_wpIn rfl (wpIn_skip ?_);refine ⟨rfl, .returning,by rw [← hu], .tuple #[],?_,⟨_,rfl⟩,rfl,rfl⟩;simp [results,Tryz.results69,go_sem]
theorem cUsesP (p:ProjR) (h:p.fit) (name:ByteArray):aM Tryz.prog 25 [rN p,bM name] (vuses (dN p name)):=by
 refine cR Tryz.X25 Tryz.func25 rfl Tryz.ntmps25 (by rw [Tryz.results25]) (aD _ ?_);simp only [go_sem,simprocAttr,dtf];refine ⟨_,aKv p h,?_⟩;simp only [go_sem,simprocAttr,dtf];refine brW (b:=decide (bT p≠0)) ?_ ⟨fun hv=>?_,fun hv=>?_⟩
 ·rw [Bool.eq_iff_iff,decide_eq_true_eq,bne_iff_ne]
 ·have hv':=of_decide_eq_true hv;have e:dN p name=([],bT p):=by unfold dN;rw [if_pos hv']
  rw [e];unfold awS;simp only [go_sem,simprocAttr,dtf];exact ⟨aB6,Qh _⟩
 ·have hv':bT p=0:=by simpa using hv
  have hok:=nY h hv';unfold awS;simp only [go_sem,simprocAttr,dtf];have hsm:=uM hv';refine kU (cCat p hsm.1 hsm.2.1) rfl ?_;cases hs:bL p.seqs name with
  | none =>
   have e:dN p name=([],7):=by unfold dN;rw [hv',hs];rfl
   rw [e];simp only [go_sem,simprocAttr,dtf,xK,hs,Option.map_none];exact ⟨aB6,Qh _⟩
  | some s =>
   have e:dN p name=(cU (qY (gS p 5 name ([],[])).1),0):=by unfold dN;rw [hv',hs];rfl
   rw [e];simp only [go_sem,simprocAttr,dtf,xK,hs,Option.map_some];have hw:=hok.wk s (cV hs).1;rw [show s.name=name from (cV hs).2] at hw;have hcm:=Tu hok 5 name ([],[]) (fun x hx=>by cases hx);have hC:=aH7 p (aSu hok) 5 name ([],[]) (by rw [hs];rfl) hw;generalize gS p 5 name ([],[])=q at hC hcm ⊢;have hol:(qY q.1).length≤1000000:=by
    have:=Gg (tR q.1) fun x hx=>(Rp hok (hcm x (rT.1 hx))).1
    rw [List.length_map] at this;have:=hsm.1;omega
   refine gN Tryz.X72 (cG hC [5,6] rfl (by omega) (by decide) ?_ rfl rfl rfl rfl ?_)
   ·simp only [go_sem,simprocAttr,(cP id _).2,(cP _ _).1];rfl
   ·simp only [go_sem,simprocAttr,(cP id _).2,(cP _ _).1];refine kV Tryz.X73 Tryz.func73 rfl Tryz.ntmps73 (by rw [Tryz.results73]) (aD _ ?_);simp only [go_sem,simprocAttr];refine gN Tryz.X59 (cG (Zm (tEs (sF q.1)) (qY q.1) (yP ⟨#[]⟩) (Yg _) (tR _) (fun x hx=>(Rp hok (hcm x (rT.1 hx))).2) hol) [7,5] rfl (by omega) (by decide) ?_ rfl rfl rfl rfl ?_)
    ·simp only [go_sem,simprocAttr,(cP id _).2,(cP _ _).1];exact decide_eq_true trivial
    ·simp only [go_sem,simprocAttr,dtf];exact ⟨aB6,aU rfl rfl⟩
end Go.Proofs.YtbfnemkngoaeeaaGreat
