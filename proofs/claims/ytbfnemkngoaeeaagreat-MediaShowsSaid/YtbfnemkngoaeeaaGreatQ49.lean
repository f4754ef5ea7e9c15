/- Proved here: Frames of films, the reference: shares, sources, pictures; conditions stand in each theorem. -/
import Derived.Test.YtbfnemkngoaeeaaGreatQ48
import Derived.Test.YtbfnemkngoaeeaaGreatQ16
import Derived.Test.YtbfnemkngoaeeaaGreatQ24
set_option linter.unusedSimpArgs false
set_option linter.unusedVariables false
set_option linter.unusedSectionVars false
set_option linter.unnecessarySimpa false
namespace Go.Proofs.YtbfnemkngoaeeaaGreat
open Go.RowKit
set_option maxRecDepth 4000
open Go.RowKit
set_option maxRecDepth 4000
def late (frm:Int) (k:Nat):Bool:=decide (frm > 9223372036854775807 - (k:Int))
def filmL (p:ProjR) (name:ByteArray) (frm:Int) (n:Nat):List ExprR:=(List.range n).map fun k=>if late frm k=true then zeroE else fJ dM p 5 name (frm+(k:Int))
def rowF (p:ProjR) (name:ByteArray) (frm:Int) (n:Nat):List (List T):=(List.range n).map fun k=>if late frm k=true then zE else ExprR.c (fJ dM p 5 name (frm+(k:Int)))
def filmR (p:ProjR) (name:ByteArray) (frm n:Int):List ExprR×Int :=
 if bT p≠0 then ([],bT p) else
 match bL p.seqs name with
 | none=>([],7)
 | some _=>if n<0 then ([],1) else if n > 65536 then ([],5) else (filmL p name frm n.toNat,0)
abbrev vfilm (r:List ExprR×Int):V := .tup [.t (pF r.1),aC r.2]
open Go.RowKit
set_option maxRecDepth 4000
def vY:List (List ClipR)→Int→Int
 | [],m=>m
 | t::l,m=>vY l (max m (Kd (jU t)))
theorem aF6 (t:List ClipR):∀ (l:List (List ClipR)) (m:Int),vY (l ++ [t]) m=max (vY l m) (Kd (jU t))
 | [],m=>rfl
 | x::l,m=>aF6 t l _
theorem Xw {l:List (List ClipR)} {k:Nat} (h:k<l.length) (m:Int):vY (l.take (k+1)) m=max (vY (l.take k) m) (Kd (jU (l.getD k []))):=by
 have e:l.take (k+1)=l.take k ++ [l.getD k []]:=by
  rw [List.take_add_one,List.getElem?_eq_getElem h,List.getD_eq_getElem?_getD,List.getElem?_eq_getElem h];rfl
 rw [e,aF6]
def fF (p:ProjR) (name:ByteArray):Int×Int :=
 if bT p≠0 then (0,bT p) else
 match bL p.seqs name with
 | none=>(0,7)
 | some s=>(vY s.sound (vY s.video 0),0)
theorem Jx:aHn Tryz.prog 91:=by
 refine ⟨Tryz.X91,fun cap w=>callsDIn_of_wpSIn Tryz.func91 rfl trivial fun c₀ cs hu=>?_⟩;have k1 : 2<cap.size+(4 - cap.size):=by omega
 have k2 : 3<cap.size+(4 - cap.size):=by omega
 have k3 : 2<max 4 cap.size:=by omega
 have k4 : 3<max 4 cap.size:=by omega
 apply wpSIn_seq;apply wpSIn_region;simp [wpOpsSIn,Fence.wide,go_sem,recoverD,hu,Tryz.ntmps91,Exit.thenS,k1];refine wpSIn_cond (t:=false) (by simp [Act.eval,k2]) ?_;refine wpSIn_of_wpIn rfl (wpIn_skip ?_);refine ⟨rfl, .returning,by rw [← hu], .tuple #[],?_,⟨_,rfl⟩,rfl,rfl⟩;simp [results,Tryz.results91,go_sem]
theorem aH6 (p:ProjR) (h:p.fit) (name:ByteArray):aM Tryz.prog 32 [rN p,bM name] (.tup [aC (fF p name).1,aC (fF p name).2]):=by
 have hf:=aWm p name h;rw [aFx p h name] at hf;refine aH Tryz.X32 Tryz.func32 rfl Tryz.ntmps32 (by rw [Tryz.results32]) (aD _ ?_);simp only [go_sem,↓reduceIte,Nat.reduceAdd,Nat.reduceSub,Nat.reduceLeDiff,reduceCtorEq,Bool.and_true];refine ⟨_,hf,?_⟩
 by_cases hv:bT p=0
 ·have hok:=nY h hv;cases hs:bL p.seqs name with
  | none =>
   have e:fF p name=(0,7):=by unfold fF;rw [hv,hs];rfl
   rw [if_neg (by rw [hv];decide),e];simp only [hs];simp only [go_sem,↓reduceIte,Nat.reduceAdd,Nat.reduceLeDiff,Nat.reduceEqDiff,Int.reduceBNe,Bool.and_true];refine aK 3 .done rfl (by kernel_rfl) (by kernel_rfl) (by decide) ?_;simp only [go_sem,↓reduceIte,Nat.reduceAdd,Nat.reduceLeDiff,Nat.reduceEqDiff,Bool.and_true];exact ⟨by kernel_rfl,Jx⟩
  | some s =>
   have e:fF p name=(vY s.sound (vY s.video 0),0):=by unfold fF;rw [hv,hs];rfl
   rw [if_neg (by rw [hv];decide),e];simp only [hs];simp only [go_sem,Nat.reduceGT,↓reduceIte,Nat.reduceAdd,Nat.reduceLeDiff,Nat.reduceEqDiff,reduceCtorEq,Bool.and_true];have hfv:=(h.seqs s (jY hs).1).video;have hfs:=(h.seqs s (jY hs).1).sound;have hvv:∀ t∈s.video,bC t=true:=fun t ht=>sX (hok.seq s (jY hs).1) t (List.mem_append_left _ ht)
   have hvs:∀ t∈s.sound,bC t=true:=fun t ht=>sX (hok.seq s (jY hs).1) t (List.mem_append_right _ ht)
   have hl8:s.video.length≤8∧s.sound.length≤8:=by
    have:=hok.small;unfold dC at this;simp only [Bool.and_eq_true,decide_eq_true_eq] at this;have:=List.all_eq_true.1 this.2 s (jY hs).1;unfold dQ at this;simp only [Bool.and_eq_true,decide_eq_true_eq] at this;omega
   refine dH ?_;refine aV (aD _ ?_);simp only [go_sem,↓reduceIte,Nat.reduceMul,Int.reduceLT,Int.reduceLE,Int.reduceToNat,decide_true];refine ⟨by decide,?_⟩;refine aF (fun (k:Nat) σ => { cJ 31 (aC k) (bN [10,32,33,34,35,36,37,38,39] (bK σ)) with h := σ.h.set 1 (.box [aC (vY (s.video.take k) 0)]) }) (fun k=>k≤s.video.length) (fun k=>s.video.length - k) 0 (aB ?_) (Nat.zero_le _) ?_
   ·simp only [go_sem,Nat.reduceLT,↓reduceIte,Nat.reduceLeDiff,Nat.reduceEqDiff,reduceCtorEq]<;>simp [vY]
   ·intro k hk;refine aD _ ?_;simp only [go_sem,↓reduceIte,Nat.reduceEqDiff,reduceCtorEq];refine ⟨fun hlt=>?_,fun hge=>?_⟩
    ·simp only [decide_eq_true_eq] at hlt;have hkl:k<s.video.length:=by omega
     have hmem:s.video.getD k []∈s.video:=by rw [List.getD_eq_getElem?_getD,List.getElem?_eq_getElem hkl];exact List.getElem_mem hkl
     have hfm:=hfv _ hmem;have hvm:=hvv _ hmem;have hst:=Xw hkl 0;have hwk:IntKind.i64.wrap ((k:Int)+1)=((k+1:Nat):Int):=by rw [bX (by omega)];omega
     unfold awS;simp only [go_sem,↓reduceIte];refine ⟨⟨by omega,by omega⟩,?_⟩;refine aK 6 .done rfl (by kernel_rfl) (by kernel_rfl) (by decide) ?_;simp only [go_sem,↓reduceIte,Nat.reduceAdd,Nat.reduceEqDiff];refine ⟨_,aNg _ hfm,?_⟩;simp only [go_sem,↓reduceIte,Nat.reduceAdd];refine ⟨_,aH5 _ (aEv hvm hfm),?_⟩;simp only [go_sem,↓reduceIte,Nat.reduceAdd,Nat.reduceLeDiff,Nat.reduceEqDiff];rw [← hst];refine ⟨by kernel_rfl,k+1,aB ?_,by omega,by omega⟩;simp only [go_sem,Nat.reduceLT,↓reduceIte,Nat.reduceLeDiff,Nat.reduceEqDiff,reduceCtorEq,hwk]<;>simp
    ·simp only [decide_eq_false_iff_not] at hge;unfold awS;simp only [go_sem,↓reduceIte];rw [List.take_of_length_le (show s.video.length≤k by omega)];refine aV (aD _ ?_);simp only [go_sem,↓reduceIte,Nat.reduceMul,Int.reduceLT,Int.reduceLE,Int.reduceAdd,Int.reduceToNat,decide_true,cw1];refine ⟨by decide,?_⟩;refine aF (fun (k:Nat) σ => { cJ 31 (aC k) (bN [10,32,33,34,35,36,37,38,39] (bK σ)) with h := σ.h.set 1 (.box [aC (vY (s.sound.take k) (vY s.video 0))]) }) (fun k=>k≤s.sound.length) (fun k=>s.sound.length - k) 0 (aB ?_) (Nat.zero_le _) ?_
     ·simp only [go_sem,Nat.reduceLT,↓reduceIte,Nat.reduceLeDiff,Nat.reduceEqDiff,reduceCtorEq]<;>simp [vY]
     ·intro k hk;refine aD _ ?_;simp only [go_sem,↓reduceIte,Nat.reduceEqDiff,reduceCtorEq];refine ⟨fun hlt=>?_,fun hge=>?_⟩
      ·simp only [decide_eq_true_eq] at hlt;have hkl:k<s.sound.length:=by omega
       have hmem:s.sound.getD k []∈s.sound:=by rw [List.getD_eq_getElem?_getD,List.getElem?_eq_getElem hkl];exact List.getElem_mem hkl
       have hfm:=hfs _ hmem;have hvm:=hvs _ hmem;have hst:=Xw hkl (vY s.video 0);have hwk:IntKind.i64.wrap ((k:Int)+1)=((k+1:Nat):Int):=by rw [bX (by omega)];omega
       unfold awS;simp only [go_sem,↓reduceIte];refine ⟨⟨by omega,by omega⟩,?_⟩;refine aK 6 .done rfl (by kernel_rfl) (by kernel_rfl) (by decide) ?_;simp only [go_sem,↓reduceIte,Nat.reduceAdd,Nat.reduceEqDiff];refine ⟨_,aNg _ hfm,?_⟩;simp only [go_sem,↓reduceIte,Nat.reduceAdd];refine ⟨_,aH5 _ (aEv hvm hfm),?_⟩;simp only [go_sem,↓reduceIte,Nat.reduceAdd,Nat.reduceLeDiff,Nat.reduceEqDiff];rw [← hst];refine ⟨by kernel_rfl,k+1,aB ?_,by omega,by omega⟩;simp only [go_sem,Nat.reduceLT,↓reduceIte,Nat.reduceLeDiff,Nat.reduceEqDiff,reduceCtorEq,hwk]<;>simp
      ·simp only [decide_eq_false_iff_not] at hge;unfold awS;simp only [go_sem,↓reduceIte];rw [List.take_of_length_le (show s.sound.length≤k by omega)];refine aV (aD _ ?_);simp only [go_sem,↓reduceIte,Nat.reduceLeDiff,Nat.reduceEqDiff,Int.reduceLT,Int.reduceAdd,decide_false,Bool.and_true,cw2];exact Jx
 ·have e:fF p name=(0,bT p):=by unfold fF;rw [if_pos hv]
  rw [if_pos hv,e];simp only [go_sem,↓reduceIte,Nat.reduceAdd,Nat.reduceLeDiff,Nat.reduceEqDiff,Bool.and_true];refine ⟨fun h1=>?_,fun h1=>?_⟩
  ·unfold awS;simp only [go_sem];refine aK 3 .done rfl (by kernel_rfl) (by kernel_rfl) (by decide) ?_;simp only [go_sem,↓reduceIte,Nat.reduceAdd,Nat.reduceLeDiff,Nat.reduceEqDiff,Bool.and_true];exact ⟨by kernel_rfl,Jx⟩
  ·exact absurd h1 (by simpa using hv)
end Go.Proofs.YtbfnemkngoaeeaaGreat
