/- Proved here: How projects are read by the abstract machine; conditions stand in each theorem. -/
import Derived.Test.YtbfnemkngoaeeaaGreatQ09
import Derived.Test.YtbfnemkngoaeeaaGreatQ11
set_option linter.unusedSimpArgs false
set_option linter.unusedVariables false
set_option linter.unusedSectionVars false
set_option linter.unnecessarySimpa false
namespace Go.Proofs.YtbfnemkngoaeeaaGreat
open Go.RowKit
set_option maxRecDepth 4000
open Go.ChangeShapes Go.WideShapes
def aE7 (v:Option Value):Int :=
 match v with
 | some (.int _ b)=>b
 | _=>0
theorem Xc {w:World} {S:Nat→Prop}:∀ l:List Int,RdTs w S (l.map fun b=>T.lit (.int .u8 b)) (l.map fun b=>Value.int .u8 b)
 | []=>trivial
 | b::l=>⟨.lit _ rfl trivial,Xc l⟩
theorem aG8 {P:Program} {t e:TypeId} {n:Nat} (ht:P.underlying t=some (.array n e)) (he:P.underlying e=some (.int .u8)) (hk:P.cellsOf e=1) (hn:P.cellsOf t=n):Opens P t fun q:Nat→Int=>(List.range n).map fun i=>T.lit (.int .u8 (q i)):=by
 intro H enc w spare held fuel cs x hx;obtain ⟨xs,m,_,_,h1,h2,h3⟩:=DataW.trod_array ht hx;refine ⟨fun i=>aE7 cs[i]?,?_⟩;have hcs:cs=((List.range n).map fun i=>aE7 cs[i]?).map fun b=>Value.int .u8 b:=by
  refine List.ext_getElem (by simp;omega) fun i q1 q2=>?_
  have hi:i<n:=by omega
  have h4:=h3 i hi;rw [hk,Nat.mul_one,List.getElem?_eq_getElem (by omega)] at h4;obtain ⟨b,hb,_,_⟩:=DataW.trod_int he h4;have h5:cs[i]=Value.int .u8 b:=by
   have h6:=congrArg (fun l=>l[0]?) hb;simpa [List.getElem?_take,List.getElem?_drop,List.getElem?_eq_getElem q1] using h6
  simp [List.getElem?_eq_getElem q1,h5,aE7]
 have:=Xc (w:=w) (S:=Uy w) ((List.range n).map fun i=>aE7 cs[i]?);rw [← hcs,List.map_map] at this;exact this
abbrev CueF := { c:CueR // c.fit }
abbrev SeqF := { s:SeqR // s.fit }
abbrev Gp := { m:MediumR // m.fit }
abbrev yB := { s:SequenceR // s.fit }
abbrev aAf := { p:ProjR // p.fit }
def Zc (a b:Nat→Int) (i:Nat):Int:=if i<64 then a i else b (i - 64)
theorem aBd (a b:Nat→Int):((List.range 64).map fun i=>T.lit (.int .u8 (a i)))++(((List.range 64).map fun i=>T.lit (.int .u8 (b i))) ++ [])=aBe (Zc a b):=by
 unfold aBe;rw [List.append_nil,show (128:Nat)=64+64 from rfl,List.range_add,List.map_append,List.map_map];refine congr (congrArg _ (List.map_congr_left fun i hi=>?_)) (List.map_congr_left fun i hi=>?_)
 ·rw [List.mem_range] at hi;unfold Zc;rw [if_pos hi]
 ·have e:Zc a b (64+i)=b i:=by
   unfold Zc;rw [if_neg (by omega),Nat.add_sub_cancel_left]
  simp only [Function.comp,e]
theorem oU64:Opens Tryz.prog 67 fun n:Int=>[T.lit (.int .u64 n)]:=Qd (k := .u64) Tryz.underlying67
theorem oQ:Opens Tryz.prog 77 fun q:Nat→Int=>(List.range 64).map fun i=>T.lit (.int .u8 (q i)):=aG8 Tryz.underlying77 Tryz.underlying5 (by kernel_rfl) (by kernel_rfl)
theorem oSeq:Opens Tryz.prog 79 fun s:SeqF=>s.1.c :=
 Opens.map (fun x:pA×pA×aNz×Bool×pA×pA×(Nat→Int)×(Nat→Int)×Unit=>⟨⟨x.1.1,x.2.1.1,x.2.2.1.1,x.2.2.2.1,x.2.2.2.2.1.1,x.2.2.2.2.2.1.1,Zc x.2.2.2.2.2.2.1 x.2.2.2.2.2.2.2.1⟩,x.1.2,x.2.1.2,x.2.2.1.2,x.2.2.2.2.1.2,x.2.2.2.2.2.1.2⟩)
  (fun x=>by unfold SeqR.c;rw [← aBd];rfl)
  (eP Tryz.underlying79 (by kernel_rfl) (aM Fg (aM Fg (aM oRat (aM oBool (aM Fg (aM Fg (aM oQ (aM oQ gC)))))))))
theorem oStrs:Opens Tryz.prog 57 fun l:List ByteArray=>[uU l]:=gB (Ms ⟨#[]⟩) Tryz.underlying57 (c:=Ms) aKz (by kernel_rfl) (fun _=>rfl) (by decide)
theorem oCue:Opens Tryz.prog 110 fun c:CueF=>c.1.c :=
 Opens.map (fun x:pA×pA×List ByteArray×Unit=>⟨⟨x.1.1,x.2.1.1,x.2.2.1⟩,x.1.2,x.2.1.2⟩) (fun _=>rfl) (eP Tryz.underlying110 (by kernel_rfl) (aM Tq (aM Tq (aM oStrs gC))))
theorem oCues:Opens Tryz.prog 80 fun l:List CueF=>[.list 3 (CueR.c default) (l.map fun c=>c.1.c)]:=gB (k:=3) (CueR.c default) Tryz.underlying80 oCue (by kernel_rfl) (fun _=>rfl) (by decide)
theorem aDt:Opens Tryz.prog 112 fun l:List De=>[.list 1 (bS []) (l.map fun c=>bS c.1)]:=gB (k:=1) (c:=fun t:De=>bS t.1) (bS []) Tryz.underlying112 oTrack (by kernel_rfl) (fun _=>rfl) (by decide)
theorem xH {α : Type} {P : α → Prop} {l:List { x : α // P x }} {y : α} (h:y∈l.map (·.1)):P y:=by
 obtain ⟨x,_,rfl⟩:=List.mem_map.1 h;exact x.2
theorem oMedium:Opens Tryz.prog 82 fun m:Gp=>m.1.c :=
 Opens.map (fun x:ByteArray×Int×SeqF×pA×pA×pA×List CueF×Unit=>(⟨⟨x.1,x.2.1,x.2.2.1.1,x.2.2.2.1.1,x.2.2.2.2.1.1,x.2.2.2.2.2.1.1,x.2.2.2.2.2.2.1.map (·.1)⟩,⟨x.2.2.1.2,x.2.2.2.1.2,x.2.2.2.2.1.2,x.2.2.2.2.2.1.2,fun c hc=>xH hc⟩⟩:Gp))
  (fun x=>by
   obtain ⟨n,u,s,f,c,sa,q,_⟩:=x;show MediumR.c _=_
   unfold MediumR.c fA;simp only [List.map_map];rfl)
  (eP Tryz.underlying82 (by kernel_rfl) (aM aKz (aM oU64 (aM oSeq (aM Tq (aM Fg (aM Tq (aM oCues gC))))))))
theorem aG9:Opens Tryz.prog 114 fun s:yB=>s.1.c :=
 Opens.map (fun x:ByteArray×aNz×pA×pA×List De×List De×List CueF×pA×Unit=>(⟨⟨x.1,x.2.1.1,x.2.2.1.1,x.2.2.2.1.1,x.2.2.2.2.1.map (·.1),x.2.2.2.2.2.1.map (·.1),x.2.2.2.2.2.2.1.map (·.1),x.2.2.2.2.2.2.2.1.1⟩,⟨x.2.1.2,x.2.2.1.2,x.2.2.2.1.2,fun t ht=>xH ht,fun t ht=>xH ht,fun c hc=>xH hc,x.2.2.2.2.2.2.2.1.2⟩⟩:yB))
  (fun x=>by
   obtain ⟨n,r,w,h,v,a,q,c,_⟩:=x;show SequenceR.c _=_
   unfold SequenceR.c cH fA;simp only [List.map_map];rfl)
  (eP Tryz.underlying114 (by kernel_rfl) (aM aKz (aM oRat (aM Fg (aM Fg (aM aDt (aM aDt (aM oCues (aM Fg gC)))))))))
theorem oMedia:Opens Tryz.prog 35 fun l:List Gp=>[.list 141 (MediumR.c default) (l.map fun c=>c.1.c)]:=gB (k:=141) (MediumR.c default) Tryz.underlying35 oMedium (by kernel_rfl) (fun _=>rfl) (by decide)
theorem aBm:Opens Tryz.prog 36 fun l:List yB=>[.list 9 (SequenceR.c default) (l.map fun c=>c.1.c)]:=gB (k:=9) (SequenceR.c default) Tryz.underlying36 aG9 (by kernel_rfl) (fun _=>rfl) (by decide)
theorem oProj:Opens Tryz.prog 38 fun p:aAf=>p.1.c :=
 Opens.map (fun x:List Gp×List yB×Unit=>(⟨⟨x.1.map (·.1),x.2.1.map (·.1)⟩,fun m hm=>xH hm,fun m hm=>xH hm⟩:aAf))
  (fun x=>by
   show ProjR.c _=_
   unfold ProjR.c fC gV;simp only [List.map_map];rfl)
  (eP Tryz.underlying38 (by kernel_rfl) (aM oMedia (aM aBm gC)))
theorem aProj:zS Tryz.prog 38 fun p:aAf=>eD p.1:=My Tryz.underlying38 oProj
end Go.Proofs.YtbfnemkngoaeeaaGreat
