/- Proved here: The index of a project's frames: places, layers, maps, for use in the proofs of the given statements; conditions stand in each theorem. -/
import Derived.Test.YtinobebofhbnnaaGreatYJ
import Derived.Test.YtinobebofhbnnaaGreatY6
set_option linter.unusedSimpArgs false
set_option linter.unusedVariables false
set_option linter.unusedSectionVars false
set_option linter.unnecessarySimpa false
namespace Go.Proofs.YtinobebofhbnnaaGreat
open Go.RowKit
set_option maxRecDepth 4000
def placC (s:SourceR):List T:=[ti s.kind,tstr s.name,ti s.pos.num,ti s.pos.den,ti s.speed.num,ti s.speed.den,tbl s.smooth,ti (baseS s),ti (atS s),ti (stepS s)]
abbrev vplace (s:SourceR):V := .agg [vint s.kind,vstr s.name,vint s.pos.num,vint s.pos.den,vint s.speed.num,vint s.speed.den,vbool s.smooth,vint (baseS s),vint (atS s),vint (stepS s)]
@[go_sem] theorem placC_t (s:SourceR):(placC s).map V.t = [vint s.kind,vstr s.name,vint s.pos.num,vint s.pos.den,vint s.speed.num,vint s.speed.den,vbool s.smooth,vint (baseS s),vint (atS s),vint (stepS s)]:=rfl
theorem z_place:baseS zSource=0∧atS zSource=0∧stepS zSource=0:=⟨by decide,by decide,by decide⟩
theorem isZ_eq {s:SourceR} (h:s.isZ=true):s=zSource:=by
 unfold SourceR.isZ SourceR.eqb at h
 simp only [Bool.and_eq_true,beq_iff_eq] at h
 obtain ⟨⟨⟨⟨⟨⟨h1,h2⟩,h3⟩,h4⟩,h5⟩,h6⟩,h7⟩:=h
 obtain ⟨k,n,⟨p1,p2⟩,⟨q1,q2⟩,b⟩:=s
 have hn:n=zSource.name:=(bq n zSource.name).1 (by simpa using h2)
 simp only at h1 h3 h4 h5 h6 h7
 subst h1 h3 h4 h5 h6 hn
 cases b
 ·rfl
 ·cases h7
theorem kind0_z {s:SourceR} (hv:vSource s=true) (h:s.kind=0):s=zSource:=by
 have hz:s.isZ=true:=by
  cases hz:s.isZ with
  | true=>rfl
  | false =>
   obtain ⟨p,d,ok⟩:=srcOk_of hv hz
   rcases ok.kind with e | e<;>omega
 exact isZ_eq hz
theorem place_facts {s:SourceR} {p d:Nat} (ok:SrcOk s p d):baseS s=p / Nat.gcd p d*d∧atS s=s.pos.num*((baseS s / p:Nat):Int)∧stepS s=s.speed.num*((baseS s / d:Nat):Int)∧0<baseS s∧baseS s≤65536 ∧
  (atS s).natAbs≤72057594037927936∧(stepS s).natAbs≤67108864:=by
 have e1:denP s=p:=by unfold denP;rw [ok.hp];rfl
 have e2:denS s=d:=by unfold denS;rw [ok.hd];rfl
 have e3:baseS s=Nat.lcm p d:=by unfold baseS;rw [e1,e2]
 have hl:=Nat.lcm_pos ok.p1 ok.d1
 refine ⟨by rw [e3,lcm_eq],by unfold atS;rw [e1],by unfold stepS;rw [e2],by rw [e3];exact hl,by rw [e3];exact ok.lcm,?_,?_⟩
 ·have:=(numB_bounds ok (n:=0) (by decide)).1
  unfold atS
  rw [e1,e3]
  exact this
 ·have e4:d*(Nat.lcm p d / d)=Nat.lcm p d:=Nat.mul_div_cancel' (Nat.dvd_lcm_right p d)
  unfold stepS
  rw [e2,e3,Int.natAbs_mul,Int.natAbs_natCast]
  calc s.speed.num.natAbs*(Nat.lcm p d / d)≤1024*d*(Nat.lcm p d / d):=Nat.mul_le_mul_right _ ok.snum
   _=1024*Nat.lcm p d:=by rw [Nat.mul_assoc,e4]
   _≤1024*65536:=Nat.mul_le_mul_left _ ok.lcm
   _=67108864:=by decide
theorem cPlaceOf (s:SourceR) (hf:s.fit) (hv:vSource s=true):CPure Tryz.prog 232 [vsource s] (vplace s):=by
 refine cpure_of Tryz.xen232 Tryz.func232 rfl Tryz.ntmps232 (by rw [Tryz.results232]) (aw_ok _ ?_)
 simp only [go_sem,simprocAttr]
 refine ⟨fun h=>?_,fun h=>?_⟩
 ·simp only [bxx] at h
  have hz:=kind0_z hv h
  subst hz
  unfold awS
  simp only [go_sem,simprocAttr]
  obtain ⟨z1,z2,z3⟩:=z_place
  unfold vplace
  rw [z1,z2,z3]
  rfl
 ·simp only [bxx] at h
  obtain ⟨p,d,ok⟩:=kind_nz hv h
  obtain ⟨f1,f2,f3,f4,f5,f6,f7⟩:=place_facts ok
  unfold awS
  simp only [go_sem,simprocAttr]
  refine drawR_of [0,1,2,3,4,5,6,7] .done rfl (by kernel_rfl) (by kernel_rfl) (by decide) ?_
  simp only [go_sem,simprocAttr,ok.hp,ok.hd]
  refine awp_loop_f (fun (x:Nat×Nat) σ => setS 3 (vint x.1) (setS 4 (vint x.2) σ)) (fun x=>Nat.gcd x.1 x.2=Nat.gcd p d) (fun x=>x.2) (p,d) (weak_self ?_) rfl ?_
  ·simp only [go_sem,simprocAttr]<;>simp
  ·rintro ⟨x,y⟩ hg
   simp only at hg
   refine aw_ok _ ?_
   simp only [go_sem,simprocAttr]
   refine brW (b := !decide (y=0)) ?_ ⟨fun hb=>?_,fun hb=>?_⟩
   ·rw [Bool.eq_iff_iff];simp only [bxx];omega
   ·unfold awS
    simp only [go_sem,simprocAttr]
    have hy:y≠0:=by simpa using hb
    refine drawR_of [0,1,2,3,4,5] .done rfl (by kernel_rfl) (by kernel_rfl) (by decide) ?_
    simp only [go_sem,simprocAttr]
    refine ⟨by omega,(y,x % y),weak_self ?_,?_,Nat.mod_lt _ (by omega)⟩
    ·simp only [go_sem,simprocAttr,tmod_nat]<;>simp
    ·simp only
     rw [← hg,Nat.gcd_comm x y,Nat.gcd_rec y x,Nat.gcd_comm]
   ·unfold awS
    simp only [go_sem,simprocAttr]
    have hy:y=0:=by simpa using hb
    subst hy
    rw [Nat.gcd_zero_right] at hg
    subst hg
    have hg0 : 0<Nat.gcd p d:=Nat.gcd_pos_of_pos_left _ ok.p1
    have q1:p / Nat.gcd p d≤p:=Nat.div_le_self _ _
    have q2:baseS s / p≤baseS s:=Nat.div_le_self _ _
    have q3:baseS s / d≤baseS s:=Nat.div_le_self _ _
    have p1:=ok.p1
    have p2:=ok.ple
    have d1:=ok.d1
    refine drawR_of [0,1,2,3,4,5,6,7,8,9] .done rfl (by kernel_rfl) (by kernel_rfl) (by decide) ?_
    have hB:((p / Nat.gcd p d:Nat):Int)*(d:Int)=(baseS s:Int):=by rw [f1,Int.natCast_mul]
    simp only [go_sem,simprocAttr,ok.hp,ok.hd,tdiv_nat,wrapN (n:=p / Nat.gcd p d) (by omega),hB,wrapN (n:=baseS s) (by omega)]
    refine ⟨by omega,?_⟩
    refine drawC_of 22 .done rfl (by kernel_rfl) (by kernel_rfl) (by decide) ?_
    simp only [go_sem,simprocAttr,ok.hp,ok.hd,tdiv_nat,wrapN (n:=baseS s / p) (by omega),wrapN (n:=baseS s / d) (by omega), ← f2, ← f3,wrap64 (x:=atS s) (by omega) (by omega),wrap64 (x:=stepS s) (by omega) (by omega)]
    unfold vplace
    rw [ok.hp,ok.hd]
    exact ⟨by omega,by omega,by kernel_rfl,rfl⟩
def endsT (t:List ClipR):List Int:=(List.range t.length).map fun i=>totL (t.take (i+1))
def pairC (c:ClipR):List T:=placC c.a++placC c.b
abbrev tpairs (l:List (List T)):T := .list 20 ((placC zSource)++(placC zSource)) l
def layC (t:List ClipR):List T:=[tclips t,tints (endsT t),tpairs (t.map pairC)]
abbrev vlay (t:List ClipR):V := .agg [.t (tclips t), .t (tints (endsT t)), .t (tpairs (t.map pairC))]
theorem ends_take {t:List ClipR} {k:Nat} (h:k<t.length):endsT (t.take (k+1))=endsT (t.take k) ++ [totL (t.take (k+1))]:=by
 unfold endsT
 rw [List.length_take,List.length_take,Nat.min_eq_left (by omega),Nat.min_eq_left (by omega),List.range_succ,List.map_append]
 congr 1
 ·refine List.map_congr_left fun i hi=>?_
  rw [List.mem_range] at hi
  rw [List.take_take,List.take_take,Nat.min_eq_left (by omega),Nat.min_eq_left (by omega)]
 ·simp [List.take_take]
theorem cLayerOf (t : List ClipR) (hf : ∀ c ∈ t, c.fit) (hv : vTrack t = true) : CPure Tryz.prog 183 [.t (tclips t)] (vlay t) := by
  have hv' := hv
  unfold vTrack at hv'
  simp only [Bool.and_eq_true, decide_eq_true_eq, List.all_eq_true] at hv'
  obtain ⟨⟨h64, hvc⟩, hsum⟩ := hv'
  have hpos : ∀ c ∈ t, 1 ≤ c.len ∧ c.len ≤ 2147483647 := fun c hc => vClip_len (hvc c hc)
  refine cpure_of Tryz.xen183 Tryz.func183 rfl Tryz.ntmps183 (by rw [Tryz.results183]) (aw_ok _ ?_)
  simp only [go_sem, simprocAttr]
  refine awp_loop_f (fun (k : Nat) σ => { fr := (deadS [6, 12, 13, 14, 15, 16, 17, 18, 19, 20, 21, 22, 23, 24, 25, 26, 27, 28, 29, 30, 31, 32, 33, 34, 35, 36, 37] (setS 4 (vint (totL (t.take k))) (setS 11 (vint k) σ))).fr, h := [(3, .row 258 20 (placC zSource ++ placC zSource) (tRows ((t.take k).map pairC))), (2, .row 2 1 (intC 0) (tRows ((endsT (t.take k)).map intC))), (1, .box [.t (tclips t), .own 2, .own 3]), (0, .box [.t (.lit (.slice none 0 0)), .t (.lit (.slice none 0 0)), .t (.lit (.slice none 0 0))])], nx := 4 })
    (fun k => k ≤ t.length) (fun k => t.length - k) 0 (weak_of [(3, none), (2, none), (1, some 1), (0, some 0)] ?_) (Nat.zero_le _) ?_
  · simp only [go_sem, simprocAttr] <;> simp [tRows, endsT, totL_nil]
  · intro k hk
    refine aw_ok _ ?_
    simp only [go_sem, simprocAttr]
    refine ⟨fun hlt => ?_, fun hge => ?_⟩
    · simp only [bxx] at hlt
      have hkl : k < t.length := by omega
      have hc := hvc _ (mem_getD (d := default) hkl)
      obtain ⟨va, vb⟩ := clip_srcs hc
      have fc := hf _ (mem_getD (d := default) hkl)
      have tk := totL_take t k hkl
      have b0 := totL_bound (t.take k) fun c hc => hpos c (List.mem_of_mem_take hc)
      have b1 := totL_bound (t.take (k + 1)) fun c hc => hpos c (List.mem_of_mem_take hc)
      have hlen := vClip_len hc
      have hlt' : (t.take k).length = k := by rw [List.length_take]; omega
      have hw : IntKind.i64.wrap (totL (t.take k) + (t.getD k default).len) = totL (t.take (k + 1)) := by
        rw [← tk, wrap64 (by omega) (by have : (t.take (k + 1)).length ≤ 64 := by rw [List.length_take]; omega
                                        omega)]
      have hel : (endsT (t.take k)).length = k := by unfold endsT; simp [hlt']
      have hwk : IntKind.i64.wrap ((k : Int) + 1) = ((k + 1 : Nat) : Int) := by rw [wrap1 (by omega)]; omega
      unfold awS
      simp only [go_sem, simprocAttr, hw]
      refine ⟨⟨by omega, by omega⟩, ⟨by unfold maxLen; omega, by omega⟩, ?_⟩
      refine drawC_of 13 .done rfl (by kernel_rfl) (by kernel_rfl) (by decide) ?_
      simp only [go_sem, simprocAttr]
      refine ⟨_, cPlaceOf _ fc.a va, ?_⟩
      simp only [go_sem, simprocAttr]
      refine ⟨_, cPlaceOf _ fc.b vb, ?_⟩
      simp only [go_sem, simprocAttr]
      refine ⟨⟨by unfold maxLen; omega, by omega⟩, by kernel_rfl, k + 1, weak_of [(3, some 17), (2, some 6), (1, some 1), (0, some 0)] ?_, by omega, by omega⟩
      simp only [go_sem, simprocAttr, hwk]
      have e1 : List.map pairC (t.take (k + 1)) = List.map pairC (t.take k) ++ [pairC (t.getD k default)] := by rw [take_snoc hkl, List.map_append]; rfl
      rw [e1, ends_take hkl, List.map_append]
      exact ⟨by simp, rfl, by simp, rfl, by simp, by simp⟩
    · simp only [bxx] at hge
      unfold awS
      simp only [go_sem, simprocAttr]
      rw [List.take_of_length_le (show t.length ≤ k by omega)]
abbrev zLayT:List T:=[.lit (.slice none 0 0), .lit (.slice none 0 0), .lit (.slice none 0 0)]
def fmC (m:MediumR):Bool×List T:=(false,[ti m.frames])
def lyC (s:SequenceR):Bool×List T:=(false,[.list 3 zLayT (s.video.map layC)])
def frM (l:List MediumR):List Ent:=mapOf MediumR.name fmC l
def lyM (l:List SequenceR):List Ent:=mapOf SequenceR.name lyC l
abbrev vix (p:ProjR):V := .agg [.t (.map (frM p.media)), .t (.map (lyM p.seqs))]
theorem put_fr (k:Value) (m:MediumR) (es:List Ent):putE k (vint m.frames) (tEs es)=tEs (putT k (fmC m) es):=putE_tEs k (fmC m) es
theorem put_ly (k:Value) (s:SequenceR) (es:List Ent):putE k (.t (.list 3 zLayT (s.video.map layC))) (tEs es)=tEs (putT k (lyC s) es):=putE_tEs k (lyC s) es
theorem kinds_fr (l:List MediumR):kindsT .string (frM l)=true:=kindsT_str (mapOf_str _ _ _)
theorem kinds_ly (l:List SequenceR):kindsT .string (lyM l)=true:=kindsT_str (mapOf_str _ _ _)
theorem lend_fr (l:List MediumR) (h:Heap) (n:Nat):lendE (lendC h n) (tEs (frM l))=some (frM l):=lendE_t _ (lendC_t h n) _ (entsOk_mapOf _ _ (fun _=>rfl) _)
theorem lend_ly (l:List SequenceR) (h:Heap) (n:Nat):lendE (lendC h n) (tEs (lyM l))=some (lyM l):=lendE_t _ (lendC_t h n) _ (entsOk_mapOf _ _ (fun _=>rfl) _)
attribute [go_sem] kinds_fr kinds_ly lend_fr lend_ly
def rowsK (v:List (List ClipR)) (k:Nat):List (List T):=(v.take k).map layC++List.replicate (v.length - k) zLayT
theorem rowsK_len (v:List (List ClipR)) {k:Nat} (h:k≤v.length):(rowsK v k).length=v.length:=by
 unfold rowsK
 simp
 omega
theorem rowsK_0 (v:List (List ClipR)):rowsK v 0=List.replicate v.length zLayT:=by simp [rowsK]
theorem rowsK_n (v:List (List ClipR)):rowsK v v.length=v.map layC:=by simp [rowsK]
theorem rowsK_set (v:List (List ClipR)) {k:Nat} (h:k<v.length):(rowsK v k).set k (layC (v.getD k default))=rowsK v (k+1):=by
 unfold rowsK
 have h1:((v.take k).map layC).length=k:=by rw [List.length_map,List.length_take];omega
 have h2:v.length - k=(v.length - (k+1))+1:=by omega
 rw [h2,List.replicate_succ,List.set_append_right _ _ (by omega),h1,Nat.sub_self,List.set_cons_zero,take_snoc h,List.map_append,List.append_assoc]
 rfl
theorem rowsK_nth (v:List (List ClipR)) {k:Nat} (h:k<v.length) (d:List T):nth d (rowsK v k) k=zLayT:=by
 have h1:((v.take k).map layC).length=k:=by rw [List.length_map,List.length_take];omega
 have h2:v.length - k=(v.length - (k+1))+1:=by omega
 unfold nth rowsK
 rw [List.getElem?_append_right (by omega),h1,Nat.sub_self,h2,List.replicate_succ]
 rfl
theorem cNewIndex (p:ProjR) (h:FilmOk p):CPure Tryz.prog 110 [vproj p] (vix p):=by
 have hs:=h.small
 unfold smallB at hs
 simp only [Bool.and_eq_true,decide_eq_true_eq] at hs
 have h1:p.media.length≤16:=by omega
 have h2:p.seqs.length≤16:=by omega
 refine cpure_of Tryz.xen110 Tryz.func110 rfl Tryz.ntmps110 (by rw [Tryz.results110]) (aw_ok _ ?_)
 simp only [go_sem,simprocAttr]
 refine awp_loop_f (fun (k:Nat) σ => { σ with fr := σ.fr.set 17 (vint k),h := σ.h.set 2 (.map (tEs (frM (p.media.take k)))) }) (fun k=>k≤p.media.length) (fun k=>p.media.length - k) 0 (weak_self ?_) (Nat.zero_le _) ?_
 ·simp only [go_sem,simprocAttr]<;>simp [frM,mapOf,tEs]
 ·intro k hk
  refine aw_ok _ ?_
  simp only [go_sem,simprocAttr]
  refine ⟨fun hlt=>?_,fun hge=>?_⟩
  ·simp only [bxx] at hlt
   unfold awS
   simp only [go_sem,simprocAttr]
   refine ⟨⟨by omega,by omega⟩,k+1,weak_self ?_,by omega,by omega⟩
   simp only [go_sem,simprocAttr]
   rw [put_fr,wrap1 (show k<9223372036854775807 by omega)]
   unfold frM
   rw [mapOf_take _ _ (show k<p.media.length by omega)]
   simp
  ·simp only [bxx] at hge
   unfold awS
   simp only [go_sem,simprocAttr]
   rw [List.take_of_length_le (show p.media.length≤k by omega)]
   refine awp_loop_f (fun (j:Nat) σ => { σ with fr := σ.fr.set 31 (vint j),h := σ.h.set 3 (.map (tEs (lyM (p.seqs.take j)))) }) (fun j=>j≤p.seqs.length) (fun j=>p.seqs.length - j) 0 (weak_self ?_) (Nat.zero_le _) ?_
   ·simp only [go_sem,simprocAttr]<;>simp [lyM,mapOf,tEs]
   ·intro j hj
    refine aw_ok _ ?_
    simp only [go_sem,simprocAttr]
    refine ⟨fun hlt=>?_,fun hge=>?_⟩
    ·simp only [bxx] at hlt
     have hjl:j<p.seqs.length:=by omega
     obtain ⟨s,hs'⟩:∃ s,s=p.seqs.getD j default:=⟨_,rfl⟩
     have hms:s∈p.seqs:=by rw [hs'];exact mem_getD hjl
     have hsm:=List.all_eq_true.1 hs.2 s hms
     unfold seqSmall at hsm
     simp only [Bool.and_eq_true,decide_eq_true_eq] at hsm
     have hvt:∀ t∈s.video,vTrack t=true:=fun t ht=>valid_trk (h.seq s hms) t (List.mem_append_left _ ht)
     have hft:=(h.fit.seqs s hms).video
     unfold awS
     simp only [go_sem,simprocAttr]
     rw [← hs']
     refine ⟨⟨by omega,by omega⟩,⟨by omega,by unfold maxLen;omega,by omega⟩,?_⟩
     refine awp_after [6] ?_
     refine awp_loop_f (fun (k:Nat) σ => { σ with fr := σ.fr.set 42 (vint k),h := σ.h.set 6 (.row 252 3 zLayT (tRows (rowsK s.video k))) }) (fun k=>k≤s.video.length) (fun k=>s.video.length - k) 0 (weak_self ?_) (Nat.zero_le _) ?_
     ·simp only [go_sem,simprocAttr]
      rw [rowsK_0]
      simp
     ·intro k hk
      refine aw_ok _ ?_
      simp only [go_sem,simprocAttr]
      refine ⟨fun hlt2=>?_,fun hge2=>?_⟩
      ·simp only [bxx] at hlt2
       have hkl:k<s.video.length:=by omega
       have hmt:s.video.getD k []∈s.video:=by rw [List.getD_eq_getElem?_getD,List.getElem?_eq_getElem hkl];exact List.getElem_mem hkl
       have hrl:=rowsK_len s.video (k:=k) (by omega)
       have hst:=rowsK_set s.video hkl
       rw [show s.video.getD k default=s.video.getD k [] from rfl] at hst
       unfold layC at hst
       unfold awS
       simp only [go_sem,simprocAttr]
       refine ⟨⟨by omega,by omega⟩,_,cLayerOf _ (hft _ hmt) (hvt _ hmt),?_⟩
       simp only [go_sem,simprocAttr,hrl,rowsK_nth _ hkl]
       refine ⟨⟨by omega,by omega⟩,by omega,k+1,weak_self ?_,by omega,by omega⟩
       simp only [go_sem,simprocAttr]
       rw [hst,wrap1 (show k<9223372036854775807 by omega)]
       simp
      ·simp only [bxx] at hge2
       have:k=s.video.length:=by omega
       subst this
       unfold awS
       simp only [go_sem,simprocAttr,rowsK_n]
       refine ⟨j+1,weak_self ?_,by omega,by omega⟩
       simp only [go_sem,simprocAttr]
       have e1:=put_ly (.string s.name) s (lyM (p.seqs.take j))
       rw [e1,wrap1 (show j<9223372036854775807 by omega)]
       unfold lyM
       rw [mapOf_take _ _ hjl, ← hs']
       simp
    ·simp only [bxx] at hge
     unfold awS
     simp only [go_sem,simprocAttr]
     rw [List.take_of_length_le (show p.seqs.length≤j by omega)]
end Go.Proofs.YtinobebofhbnnaaGreat
