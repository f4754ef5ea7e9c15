/- Proved here: How projects are read by the abstract machine, for use in the proofs of the given statements; conditions stand in each theorem. -/
import Derived.Test.YtmbmmijdmdoalaaGreatZP
import Derived.Test.YtmbmmijdmdoalaaGreatZS
set_option linter.unusedSimpArgs false
set_option linter.unusedVariables false
set_option linter.unusedSectionVars false
set_option linter.unnecessarySimpa false
namespace Go.Proofs.YtmbmmijdmdoalaaGreat
open Go.RowKit
set_option maxRecDepth 4000
open Go.ChangeShapes Go.WideShapes
def intOf (v:Option Value):Int :=
 match v with
 | some (.int _ b)=>b
 | _=>0
theorem rdTs_u8s {w:World} {S:Nat→Prop}:∀ l:List Int,RdTs w S (l.map fun b=>T.lit (.int .u8 b)) (l.map fun b=>Value.int .u8 b)
 | []=>trivial
 | b::l=>⟨.lit _ rfl trivial,rdTs_u8s l⟩
theorem opens_u8s {P:Program} {t e:TypeId} {n:Nat} (ht:P.underlying t=some (.array n e)) (he:P.underlying e=some (.int .u8)) (hk:P.cellsOf e=1) (hn:P.cellsOf t=n):Opens P t fun q:Nat→Int=>(List.range n).map fun i=>T.lit (.int .u8 (q i)):=by
 intro H enc w spare held fuel cs x hx
 obtain ⟨xs,m,_,_,h1,h2,h3⟩:=DataW.trod_array ht hx
 refine ⟨fun i=>intOf cs[i]?,?_⟩
 have hcs:cs=((List.range n).map fun i=>intOf cs[i]?).map fun b=>Value.int .u8 b:=by
  refine List.ext_getElem (by simp;omega) fun i q1 q2=>?_
  have hi:i<n:=by omega
  have h4:=h3 i hi
  rw [hk,Nat.mul_one,List.getElem?_eq_getElem (by omega)] at h4
  obtain ⟨b,hb,_,_⟩:=DataW.trod_int he h4
  have h5:cs[i]=Value.int .u8 b:=by
   have h6:=congrArg (fun l=>l[0]?) hb
   simpa [List.getElem?_take,List.getElem?_drop,List.getElem?_eq_getElem q1] using h6
  simp [List.getElem?_eq_getElem q1,h5,intOf]
 have:=rdTs_u8s (w:=w) (S:=allS w) ((List.range n).map fun i=>intOf cs[i]?)
 rw [← hcs,List.map_map] at this
 exact this
abbrev CueF := { c:CueR // c.fit }
abbrev SeqF := { s:SeqR // s.fit }
abbrev MediumF := { m:MediumR // m.fit }
abbrev SequenceF := { s:SequenceR // s.fit }
abbrev ProjF := { p:ProjR // p.fit }
def joinQ (a b:Nat→Int) (i:Nat):Int:=if i<64 then a i else b (i - 64)
theorem quant_join (a b:Nat→Int):((List.range 64).map fun i=>T.lit (.int .u8 (a i)))++(((List.range 64).map fun i=>T.lit (.int .u8 (b i))) ++ [])=quantC (joinQ a b):=by
 unfold quantC
 rw [List.append_nil,show (128:Nat)=64+64 from rfl,List.range_add,List.map_append,List.map_map]
 refine congr (congrArg _ (List.map_congr_left fun i hi=>?_)) (List.map_congr_left fun i hi=>?_)
 ·rw [List.mem_range] at hi
  unfold joinQ
  rw [if_pos hi]
 ·have e:joinQ a b (64+i)=b i:=by
   unfold joinQ
   rw [if_neg (by omega),Nat.add_sub_cancel_left]
  simp only [Function.comp,e]
theorem oU64:Opens Tryz.prog 57 fun n:Int=>[T.lit (.int .u64 n)]:=opens_int (k := .u64) Tryz.underlying57
theorem oQ:Opens Tryz.prog 71 fun q:Nat→Int=>(List.range 64).map fun i=>T.lit (.int .u8 (q i)):=opens_u8s Tryz.underlying71 Tryz.underlying5 (by kernel_rfl) (by kernel_rfl)
theorem oSeq:Opens Tryz.prog 73 fun s:SeqF=>s.1.c :=
 Opens.map (fun x:I64s×I64s×RatF×Bool×I64s×I64s×(Nat→Int)×(Nat→Int)×Unit=>⟨⟨x.1.1,x.2.1.1,x.2.2.1.1,x.2.2.2.1,x.2.2.2.2.1.1,x.2.2.2.2.2.1.1,joinQ x.2.2.2.2.2.2.1 x.2.2.2.2.2.2.2.1⟩,x.1.2,x.2.1.2,x.2.2.1.2,x.2.2.2.2.1.2,x.2.2.2.2.2.1.2⟩)
  (fun x=>by unfold SeqR.c;rw [← quant_join];rfl)
  (opens_struct Tryz.underlying73 (by kernel_rfl) (opensF_cons oInt (opensF_cons oInt (opensF_cons oRat (opensF_cons oBool (opensF_cons oInt (opensF_cons oInt (opensF_cons oQ (opensF_cons oQ opensF_nil)))))))))
theorem oStrs:Opens Tryz.prog 29 fun l:List ByteArray=>[tstrs l]:=opens_slice (strC ⟨#[]⟩) Tryz.underlying29 (c:=strC) oStr (by kernel_rfl) (fun _=>rfl) (by decide)
theorem oCue:Opens Tryz.prog 113 fun c:CueF=>c.1.c :=
 Opens.map (fun x:I64s×I64s×List ByteArray×Unit=>⟨⟨x.1.1,x.2.1.1,x.2.2.1⟩,x.1.2,x.2.1.2⟩) (fun _=>rfl) (opens_struct Tryz.underlying113 (by kernel_rfl) (opensF_cons oI64 (opensF_cons oI64 (opensF_cons oStrs opensF_nil))))
theorem oCues:Opens Tryz.prog 74 fun l:List CueF=>[.list 3 (CueR.c default) (l.map fun c=>c.1.c)]:=opens_slice (k:=3) (CueR.c default) Tryz.underlying74 oCue (by kernel_rfl) (fun _=>rfl) (by decide)
theorem oTracks:Opens Tryz.prog 93 fun l:List TrackF=>[.list 1 (trackC []) (l.map fun c=>trackC c.1)]:=opens_slice (k:=1) (c:=fun t:TrackF=>trackC t.1) (trackC []) Tryz.underlying93 oTrack (by kernel_rfl) (fun _=>rfl) (by decide)
theorem mem_sub {α : Type} {P : α → Prop} {l:List { x : α // P x }} {y : α} (h:y∈l.map (·.1)):P y:=by
 obtain ⟨x,_,rfl⟩:=List.mem_map.1 h
 exact x.2
theorem oMedium:Opens Tryz.prog 76 fun m:MediumF=>m.1.c :=
 Opens.map (fun x:ByteArray×Int×SeqF×I64s×I64s×I64s×List CueF×Unit=>(⟨⟨x.1,x.2.1,x.2.2.1.1,x.2.2.2.1.1,x.2.2.2.2.1.1,x.2.2.2.2.2.1.1,x.2.2.2.2.2.2.1.map (·.1)⟩,⟨x.2.2.1.2,x.2.2.2.1.2,x.2.2.2.2.1.2,x.2.2.2.2.2.1.2,fun c hc=>mem_sub hc⟩⟩:MediumF))
  (fun x=>by
   obtain ⟨n,u,s,f,c,sa,q,_⟩:=x
   show MediumR.c _=_
   unfold MediumR.c tcues
   simp only [List.map_map]
   rfl)
  (opens_struct Tryz.underlying76 (by kernel_rfl) (opensF_cons oStr (opensF_cons oU64 (opensF_cons oSeq (opensF_cons oI64 (opensF_cons oInt (opensF_cons oI64 (opensF_cons oCues opensF_nil))))))))
theorem oSequence:Opens Tryz.prog 95 fun s:SequenceF=>s.1.c :=
 Opens.map (fun x:ByteArray×RatF×I64s×I64s×List TrackF×List TrackF×List CueF×I64s×Unit=>(⟨⟨x.1,x.2.1.1,x.2.2.1.1,x.2.2.2.1.1,x.2.2.2.2.1.map (·.1),x.2.2.2.2.2.1.map (·.1),x.2.2.2.2.2.2.1.map (·.1),x.2.2.2.2.2.2.2.1.1⟩,⟨x.2.1.2,x.2.2.1.2,x.2.2.2.1.2,fun t ht=>mem_sub ht,fun t ht=>mem_sub ht,fun c hc=>mem_sub hc,x.2.2.2.2.2.2.2.1.2⟩⟩:SequenceF))
  (fun x=>by
   obtain ⟨n,r,w,h,v,a,q,c,_⟩:=x
   show SequenceR.c _=_
   unfold SequenceR.c ttracks tcues
   simp only [List.map_map]
   rfl)
  (opens_struct Tryz.underlying95 (by kernel_rfl) (opensF_cons oStr (opensF_cons oRat (opensF_cons oInt (opensF_cons oInt (opensF_cons oTracks (opensF_cons oTracks (opensF_cons oCues (opensF_cons oInt opensF_nil)))))))))
theorem oMedia:Opens Tryz.prog 22 fun l:List MediumF=>[.list 141 (MediumR.c default) (l.map fun c=>c.1.c)]:=opens_slice (k:=141) (MediumR.c default) Tryz.underlying22 oMedium (by kernel_rfl) (fun _=>rfl) (by decide)
theorem oSequences:Opens Tryz.prog 23 fun l:List SequenceF=>[.list 9 (SequenceR.c default) (l.map fun c=>c.1.c)]:=opens_slice (k:=9) (SequenceR.c default) Tryz.underlying23 oSequence (by kernel_rfl) (fun _=>rfl) (by decide)
theorem oProj:Opens Tryz.prog 25 fun p:ProjF=>p.1.c :=
 Opens.map (fun x:List MediumF×List SequenceF×Unit=>(⟨⟨x.1.map (·.1),x.2.1.map (·.1)⟩,fun m hm=>mem_sub hm,fun m hm=>mem_sub hm⟩:ProjF))
  (fun x=>by
   show ProjR.c _=_
   unfold ProjR.c tmedia tseqs
   simp only [List.map_map]
   rfl)
  (opens_struct Tryz.underlying25 (by kernel_rfl) (opensF_cons oMedia (opensF_cons oSequences opensF_nil)))
theorem aProj:OpensV Tryz.prog 25 fun p:ProjF=>vproj p.1:=opensV_struct Tryz.underlying25 oProj
end Go.Proofs.YtmbmmijdmdoalaaGreat
