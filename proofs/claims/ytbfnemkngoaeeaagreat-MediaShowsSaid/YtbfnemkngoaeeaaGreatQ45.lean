/- Proved here: The index of a project's frames: places, layers, maps; conditions stand in each theorem. -/
import Derived.Test.YtbfnemkngoaeeaaGreatQ19
import Derived.Test.YtbfnemkngoaeeaaGreatQ31
set_option linter.unusedSimpArgs false
set_option linter.unusedVariables false
set_option linter.unusedSectionVars false
set_option linter.unnecessarySimpa false
namespace Go.Proofs.YtbfnemkngoaeeaaGreat
open Go.RowKit
set_option maxRecDepth 4000
def Qp (s:SourceR):List T:=[ti s.kind,gJ s.name,ti s.pos.num,ti s.pos.den,ti s.speed.num,ti s.speed.den,tbl s.smooth,ti (aR s),ti (atS s),ti (mZ s)]
abbrev Hx (s:SourceR):V := .agg [aC s.kind,bM s.name,aC s.pos.num,aC s.pos.den,aC s.speed.num,aC s.speed.den,aS s.smooth,aC (aR s),aC (atS s),aC (mZ s)]
@[go_sem] theorem placC_t (s:SourceR):(Qp s).map V.t = [aC s.kind,bM s.name,aC s.pos.num,aC s.pos.den,aC s.speed.num,aC s.speed.den,aS s.smooth,aC (aR s),aC (atS s),aC (mZ s)]:=rfl
theorem z_place:aR zSource=0∧atS zSource=0∧mZ zSource=0:=⟨by decide,by decide,by decide⟩
theorem isZ_eq {s:SourceR} (h:s.isZ=true):s=zSource:=by
 unfold SourceR.isZ SourceR.eqb at h;simp only [Bool.and_eq_true,beq_iff_eq] at h;obtain ⟨⟨⟨⟨⟨⟨h1,h2⟩,h3⟩,h4⟩,h5⟩,h6⟩,h7⟩:=h;obtain ⟨k,n,⟨p1,p2⟩,⟨q1,q2⟩,b⟩:=s;have hn:n=zSource.name:=(bq n zSource.name).1 (by simpa using h2);simp only at h1 h3 h4 h5 h6 h7;subst h1 h3 h4 h5 h6 hn;cases b
 ·rfl
 ·cases h7
theorem kind0_z {s:SourceR} (hv:aY s=true) (h:s.kind=0):s=zSource:=by
 have hz:s.isZ=true:=by
  cases hz:s.isZ with
  | true=>rfl
  | false =>
   obtain ⟨p,d,ok⟩:=yX hv hz;rcases ok.kind with e | e<;>omega
 exact isZ_eq hz
theorem zP {s:SourceR} {p d:Nat} (ok:SrcOk s p d):aR s=p / Nat.gcd p d*d∧atS s=s.pos.num*((aR s / p:Nat):Int)∧mZ s=s.speed.num*((aR s / d:Nat):Int)∧0<aR s∧aR s≤65536 ∧
  (atS s).natAbs≤72057594037927936∧(mZ s).natAbs≤67108864:=by
 have e1:aKm s=p:=by unfold aKm;rw [ok.hp];rfl
 have e2:aKk s=d:=by unfold aKk;rw [ok.hd];rfl
 have e3:aR s=Nat.lcm p d:=by unfold aR;rw [e1,e2]
 have hl:=Nat.lcm_pos ok.p1 ok.d1;refine ⟨by rw [e3,aUp],by unfold atS;rw [e1],by unfold mZ;rw [e2],by rw [e3];exact hl,by rw [e3];exact ok.lcm,?_,?_⟩
 ·have:=(aEt ok (n:=0) (by decide)).1;unfold atS;rw [e1,e3];exact this
 ·have e4:d*(Nat.lcm p d / d)=Nat.lcm p d:=Nat.mul_div_cancel' (Nat.dvd_lcm_right p d);unfold mZ;rw [e2,e3,Int.natAbs_mul,Int.natAbs_natCast]
  calc s.speed.num.natAbs*(Nat.lcm p d / d)≤1024*d*(Nat.lcm p d / d):=Nat.mul_le_mul_right _ ok.snum
   _=1024*Nat.lcm p d:=by rw [Nat.mul_assoc,e4]
   _≤1024*65536:=Nat.mul_le_mul_left _ ok.lcm
   _=67108864:=by decide
theorem aH2 (s:SourceR) (hf:s.fit) (hv:aY s=true):aM Tryz.prog 219 [uL s] (Hx s):=by
 refine aH Tryz.X219 Tryz.func219 rfl Tryz.ntmps219 (by rw [Tryz.results219]) (aD _ ?_);simp only [go_sem,simprocAttr];refine ⟨fun h=>?_,fun h=>?_⟩
 ·simp only [bxx] at h;have hz:=kind0_z hv h;subst hz;unfold awS;simp only [go_sem,simprocAttr];obtain ⟨z1,z2,z3⟩:=z_place;unfold Hx;rw [z1,z2,z3];rfl
 ·simp only [bxx] at h;obtain ⟨p,d,ok⟩:=Ch hv h;obtain ⟨f1,f2,f3,f4,f5,f6,f7⟩:=zP ok;unfold awS;simp only [go_sem,simprocAttr];refine cL [0,1,2,3,4,5,6,7] .done rfl (by kernel_rfl) (by kernel_rfl) (by decide) ?_;simp only [go_sem,simprocAttr,ok.hp,ok.hd];refine aF (fun (x:Nat×Nat) σ => cJ 3 (aC x.1) (cJ 4 (aC x.2) σ)) (fun x=>Nat.gcd x.1 x.2=Nat.gcd p d) (fun x=>x.2) (p,d) (aB ?_) rfl ?_
  ·simp only [go_sem,simprocAttr]<;>simp
  ·rintro ⟨x,y⟩ hg;simp only at hg;refine aD _ ?_;simp only [go_sem,simprocAttr];refine brW (b := !decide (y=0)) ?_ ⟨fun hb=>?_,fun hb=>?_⟩
   ·rw [Bool.eq_iff_iff];simp only [bxx];omega
   ·unfold awS;simp only [go_sem,simprocAttr];have hy:y≠0:=by simpa using hb
    refine cL [0,1,2,3,4,5] .done rfl (by kernel_rfl) (by kernel_rfl) (by decide) ?_;simp only [go_sem,simprocAttr];refine ⟨by omega,(y,x % y),aB ?_,?_,Nat.mod_lt _ (by omega)⟩
    ·simp only [go_sem,simprocAttr,yW]<;>simp
    ·simp only;rw [← hg,Nat.gcd_comm x y,Nat.gcd_rec y x,Nat.gcd_comm]
   ·unfold awS;simp only [go_sem,simprocAttr];have hy:y=0:=by simpa using hb
    subst hy;rw [Nat.gcd_zero_right] at hg;subst hg;have hg0 : 0<Nat.gcd p d:=Nat.gcd_pos_of_pos_left _ ok.p1;have q1:p / Nat.gcd p d≤p:=Nat.div_le_self _ _;have q2:aR s / p≤aR s:=Nat.div_le_self _ _;have q3:aR s / d≤aR s:=Nat.div_le_self _ _;have p1:=ok.p1;have p2:=ok.ple;have d1:=ok.d1;refine cL [0,1,2,3,4,5,6,7,8,9] .done rfl (by kernel_rfl) (by kernel_rfl) (by decide) ?_;have hB:((p / Nat.gcd p d:Nat):Int)*(d:Int)=(aR s:Int):=by rw [f1,Int.natCast_mul]
    simp only [go_sem,simprocAttr,ok.hp,ok.hd,mY,fG (n:=p / Nat.gcd p d) (by omega),hB,fG (n:=aR s) (by omega)];refine ⟨by omega,?_⟩;refine aK 22 .done rfl (by kernel_rfl) (by kernel_rfl) (by decide) ?_;simp only [go_sem,simprocAttr,ok.hp,ok.hd,mY,fG (n:=aR s / p) (by omega),fG (n:=aR s / d) (by omega), ← f2, ← f3,wrap64 (x:=atS s) (by omega) (by omega),wrap64 (x:=mZ s) (by omega) (by omega)];unfold Hx;rw [ok.hp,ok.hd];exact ⟨by omega,by omega,by kernel_rfl,rfl⟩
def vA (t:List ClipR):List Int:=(List.range t.length).map fun i=>bU (t.take (i+1))
def zQ (c:ClipR):List T:=Qp c.a++Qp c.b
abbrev aJ1 (l:List (List T)):T := .list 20 ((Qp zSource)++(Qp zSource)) l
def Ep (t:List ClipR):List T:=[eD t,bY (vA t),aJ1 (t.map zQ)]
abbrev vlay (t:List ClipR):V := .agg [.t (eD t), .t (bY (vA t)), .t (aJ1 (t.map zQ))]
theorem aR7 {t:List ClipR} {k:Nat} (h:k<t.length):vA (t.take (k+1))=vA (t.take k) ++ [bU (t.take (k+1))]:=by
 unfold vA;rw [List.length_take,List.length_take,Nat.min_eq_left (by omega),Nat.min_eq_left (by omega),List.range_succ,List.map_append];congr 1
 ·refine List.map_congr_left fun i hi=>?_
  rw [List.mem_range] at hi;rw [List.take_take,List.take_take,Nat.min_eq_left (by omega),Nat.min_eq_left (by omega)]
 ·simp [List.take_take]
theorem aWj (t : List ClipR) (hf : ∀ c ∈ t, c.fit) (hv : bC t = true) : aM Tryz.prog 168 [.t (eD t)] (vlay t) := by
  have hv' := hv;unfold bC at hv';simp only [Bool.and_eq_true, decide_eq_true_eq, List.all_eq_true] at hv';obtain ⟨⟨h64, hvc⟩, hsum⟩ := hv';have hpos : ∀ c ∈ t, 1 ≤ c.len ∧ c.len ≤ 2147483647 := fun c hc => bZ (hvc c hc)
  refine aH Tryz.X168 Tryz.func168 rfl Tryz.ntmps168 (by rw [Tryz.results168]) (aD _ ?_);simp only [go_sem, simprocAttr];refine aF (fun (k : Nat) σ => { fr := (bN [6, 12, 13, 14, 15, 16, 17, 18, 19, 20, 21, 22, 23, 24, 25, 26, 27, 28, 29, 30, 31, 32, 33, 34, 35, 36, 37] (cJ 4 (aC (bU (t.take k))) (cJ 11 (aC k) σ))).fr, h := [(3, .row 245 20 (Qp zSource ++ Qp zSource) (aL ((t.take k).map zQ))), (2, .row 2 1 (xQ 0) (aL ((vA (t.take k)).map xQ))), (1, .box [.t (eD t), .own 2, .own 3]), (0, .box [.t (.lit (.slice none 0 0)), .t (.lit (.slice none 0 0)), .t (.lit (.slice none 0 0))])], nx := 4 })
    (fun k => k ≤ t.length) (fun k => t.length - k) 0 (aN [(3, none), (2, none), (1, some 1), (0, some 0)] ?_) (Nat.zero_le _) ?_
  · simp only [go_sem, simprocAttr] <;> simp [aL, vA, Fg]
  · intro k hk
    refine aD _ ?_;simp only [go_sem, simprocAttr];refine ⟨fun hlt => ?_, fun hge => ?_⟩
    · simp only [bxx] at hlt
      have hkl : k < t.length := by omega
      have hc := hvc _ (aW (d := default) hkl);obtain ⟨va, vb⟩ := rF hc;have fc := hf _ (aW (d := default) hkl);have tk := qR t k hkl;have b0 := nH (t.take k) fun c hc => hpos c (List.mem_of_mem_take hc)
      have b1 := nH (t.take (k + 1)) fun c hc => hpos c (List.mem_of_mem_take hc)
      have hlen := bZ hc;have hlt' : (t.take k).length = k := by rw [List.length_take]; omega
      have hw : IntKind.i64.wrap (bU (t.take k) + (t.getD k default).len) = bU (t.take (k + 1)) := by
        rw [← tk, wrap64 (by omega) (by have : (t.take (k + 1)).length ≤ 64 := by rw [List.length_take]; omega
                                        omega)]
      have hel : (vA (t.take k)).length = k := by unfold vA; simp [hlt']
      have hwk : IntKind.i64.wrap ((k : Int) + 1) = ((k + 1 : Nat) : Int) := by rw [bX (by omega)]; omega
      unfold awS;simp only [go_sem, simprocAttr, hw];refine ⟨⟨by omega, by omega⟩, ⟨by unfold maxLen; omega, by omega⟩, ?_⟩;refine aK 13 .done rfl (by kernel_rfl) (by kernel_rfl) (by decide) ?_;simp only [go_sem, simprocAttr];refine ⟨_, aH2 _ fc.a va, ?_⟩;simp only [go_sem, simprocAttr];refine ⟨_, aH2 _ fc.b vb, ?_⟩;simp only [go_sem, simprocAttr];refine ⟨⟨by unfold maxLen; omega, by omega⟩, by kernel_rfl, k + 1, aN [(3, some 17), (2, some 6), (1, some 1), (0, some 0)] ?_, by omega, by omega⟩;simp only [go_sem, simprocAttr, hwk];have e1 : List.map zQ (t.take (k + 1)) = List.map zQ (t.take k) ++ [zQ (t.getD k default)] := by rw [cA hkl, List.map_append]; rfl
      rw [e1, aR7 hkl, List.map_append];exact ⟨by simp, rfl, by simp, rfl, by simp, by simp⟩
    · simp only [bxx] at hge
      unfold awS;simp only [go_sem, simprocAttr];rw [List.take_of_length_le (show t.length ≤ k by omega)]
abbrev Nt:List T:=[.lit (.slice none 0 0), .lit (.slice none 0 0), .lit (.slice none 0 0)]
def fmC (m:MediumR):Bool×List T:=(false,[ti m.frames])
def lyC (s:SequenceR):Bool×List T:=(false,[.list 3 Nt (s.video.map Ep)])
def frM (l:List MediumR):List Ent:=kG MediumR.name fmC l
def lyM (l:List SequenceR):List Ent:=kG SequenceR.name lyC l
abbrev vix (p:ProjR):V := .agg [.t (.map (frM p.media)), .t (.map (lyM p.seqs))]
theorem put_fr (k:Value) (m:MediumR) (es:List Ent):Cs k (aC m.frames) (tEs es)=tEs (sR k (fmC m) es):=vV k (fmC m) es
theorem put_ly (k:Value) (s:SequenceR) (es:List Ent):Cs k (.t (.list 3 Nt (s.video.map Ep))) (tEs es)=tEs (sR k (lyC s) es):=vV k (lyC s) es
theorem aUt (l:List MediumR):rD .string (frM l)=true:=tZ (nW _ _ _)
theorem aUs (l:List SequenceR):rD .string (lyM l)=true:=tZ (nW _ _ _)
theorem lend_fr (l:List MediumR) (h:Heap) (n:Nat):qL (aX h n) (tEs (frM l))=some (frM l):=Cc _ (pU h n) _ (sU _ _ (fun _=>rfl) _)
theorem lend_ly (l:List SequenceR) (h:Heap) (n:Nat):qL (aX h n) (tEs (lyM l))=some (lyM l):=Cc _ (pU h n) _ (sU _ _ (fun _=>rfl) _)
attribute [go_sem] aUt aUs lend_fr lend_ly
def yJ (v:List (List ClipR)) (k:Nat):List (List T):=(v.take k).map Ep++List.replicate (v.length - k) Nt
theorem aPy (v:List (List ClipR)) {k:Nat} (h:k≤v.length):(yJ v k).length=v.length:=by
 unfold yJ;simp;omega
theorem rowsK_0 (v:List (List ClipR)):yJ v 0=List.replicate v.length Nt:=by simp [yJ]
theorem rowsK_n (v:List (List ClipR)):yJ v v.length=v.map Ep:=by simp [yJ]
theorem aPw (v:List (List ClipR)) {k:Nat} (h:k<v.length):(yJ v k).set k (Ep (v.getD k default))=yJ v (k+1):=by
 unfold yJ;have h1:((v.take k).map Ep).length=k:=by rw [List.length_map,List.length_take];omega
 have h2:v.length - k=(v.length - (k+1))+1:=by omega
 rw [h2,List.replicate_succ,List.set_append_right _ _ (by omega),h1,Nat.sub_self,List.set_cons_zero,cA h,List.map_append,List.append_assoc];rfl
theorem aPx (v:List (List ClipR)) {k:Nat} (h:k<v.length) (d:List T):nth d (yJ v k) k=Nt:=by
 have h1:((v.take k).map Ep).length=k:=by rw [List.length_map,List.length_take];omega
 have h2:v.length - k=(v.length - (k+1))+1:=by omega
 unfold nth yJ;rw [List.getElem?_append_right (by omega),h1,Nat.sub_self,h2,List.replicate_succ];rfl
theorem aRh (p:ProjR) (h:FilmOk p):aM Tryz.prog 94 [rN p] (vix p):=by
 have hs:=h.small;unfold dC at hs;simp only [Bool.and_eq_true,decide_eq_true_eq] at hs;have h1:p.media.length≤16:=by omega
 have h2:p.seqs.length≤16:=by omega
 refine aH Tryz.X94 Tryz.func94 rfl Tryz.ntmps94 (by rw [Tryz.results94]) (aD _ ?_);simp only [go_sem,simprocAttr];refine aF (fun (k:Nat) σ => { σ with fr := σ.fr.set 17 (aC k),h := σ.h.set 2 (.map (tEs (frM (p.media.take k)))) }) (fun k=>k≤p.media.length) (fun k=>p.media.length - k) 0 (aB ?_) (Nat.zero_le _) ?_
 ·simp only [go_sem,simprocAttr]<;>simp [frM,kG,tEs]
 ·intro k hk;refine aD _ ?_;simp only [go_sem,simprocAttr];refine ⟨fun hlt=>?_,fun hge=>?_⟩
  ·simp only [bxx] at hlt;unfold awS;simp only [go_sem,simprocAttr];refine ⟨⟨by omega,by omega⟩,k+1,aB ?_,by omega,by omega⟩;simp only [go_sem,simprocAttr];rw [put_fr,bX (show k<9223372036854775807 by omega)];unfold frM;rw [xH _ _ (show k<p.media.length by omega)];simp
  ·simp only [bxx] at hge;unfold awS;simp only [go_sem,simprocAttr];rw [List.take_of_length_le (show p.media.length≤k by omega)];refine aF (fun (j:Nat) σ => { σ with fr := σ.fr.set 31 (aC j),h := σ.h.set 3 (.map (tEs (lyM (p.seqs.take j)))) }) (fun j=>j≤p.seqs.length) (fun j=>p.seqs.length - j) 0 (aB ?_) (Nat.zero_le _) ?_
   ·simp only [go_sem,simprocAttr]<;>simp [lyM,kG,tEs]
   ·intro j hj;refine aD _ ?_;simp only [go_sem,simprocAttr];refine ⟨fun hlt=>?_,fun hge=>?_⟩
    ·simp only [bxx] at hlt;have hjl:j<p.seqs.length:=by omega
     obtain ⟨s,hs'⟩:∃ s,s=p.seqs.getD j default:=⟨_,rfl⟩
     have hms:s∈p.seqs:=by rw [hs'];exact aW hjl
     have hsm:=List.all_eq_true.1 hs.2 s hms;unfold dQ at hsm;simp only [Bool.and_eq_true,decide_eq_true_eq] at hsm;have hvt:∀ t∈s.video,bC t=true:=fun t ht=>sX (h.seq s hms) t (List.mem_append_left _ ht)
     have hft:=(h.fit.seqs s hms).video;unfold awS;simp only [go_sem,simprocAttr];rw [← hs'];refine ⟨⟨by omega,by omega⟩,⟨by omega,by unfold maxLen;omega,by omega⟩,?_⟩;refine aRn [6] ?_;refine aF (fun (k:Nat) σ => { σ with fr := σ.fr.set 42 (aC k),h := σ.h.set 6 (.row 239 3 Nt (aL (yJ s.video k))) }) (fun k=>k≤s.video.length) (fun k=>s.video.length - k) 0 (aB ?_) (Nat.zero_le _) ?_
     ·simp only [go_sem,simprocAttr];rw [rowsK_0];simp
     ·intro k hk;refine aD _ ?_;simp only [go_sem,simprocAttr];refine ⟨fun hlt2=>?_,fun hge2=>?_⟩
      ·simp only [bxx] at hlt2;have hkl:k<s.video.length:=by omega
       have hmt:s.video.getD k []∈s.video:=by rw [List.getD_eq_getElem?_getD,List.getElem?_eq_getElem hkl];exact List.getElem_mem hkl
       have hrl:=aPy s.video (k:=k) (by omega);have hst:=aPw s.video hkl;rw [show s.video.getD k default=s.video.getD k [] from rfl] at hst;unfold Ep at hst;unfold awS;simp only [go_sem,simprocAttr];refine ⟨⟨by omega,by omega⟩,_,aWj _ (hft _ hmt) (hvt _ hmt),?_⟩;simp only [go_sem,simprocAttr,hrl,aPx _ hkl];refine ⟨⟨by omega,by omega⟩,by omega,k+1,aB ?_,by omega,by omega⟩;simp only [go_sem,simprocAttr];rw [hst,bX (show k<9223372036854775807 by omega)];simp
      ·simp only [bxx] at hge2;have:k=s.video.length:=by omega
       subst this;unfold awS;simp only [go_sem,simprocAttr,rowsK_n];refine ⟨j+1,aB ?_,by omega,by omega⟩;simp only [go_sem,simprocAttr];have e1:=put_ly (.string s.name) s (lyM (p.seqs.take j));rw [e1,bX (show j<9223372036854775807 by omega)];unfold lyM;rw [xH _ _ hjl, ← hs'];simp
    ·simp only [bxx] at hge;unfold awS;simp only [go_sem,simprocAttr];rw [List.take_of_length_le (show p.seqs.length≤j by omega)]
end Go.Proofs.YtbfnemkngoaeeaaGreat
