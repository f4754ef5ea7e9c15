/- Proved here: the library functions maps.Keys, slices.Sorted and slices.Sort of this program are the library's; conditions stand in each theorem. -/
import Derived.Shelf.SlIter.Nil
import Derived.Shelf.SortM.Plain
import Derived.Shelf.SortM.SortNone
import Derived.Test.YtbfnemkngoaeeaaGreatProg
import Derived.Test.YtbfnemkngoaeeaaGreatQ06
import Derived.Test.YtbfnemkngoaeeaaGreatQ07
import Derived.Test.YtbfnemkngoaeeaaGreatQ11
import Derived.Test.YtbfnemkngoaeeaaGreatQ08
import Derived.Test.YtbfnemkngoaeeaaGreatQ13
set_option linter.unusedSimpArgs false
set_option linter.unusedVariables false
set_option linter.unusedSectionVars false
set_option linter.unnecessarySimpa false
namespace Go.Proofs.YtbfnemkngoaeeaaGreat
open Go.Proofs Go.RowKit Go.Maps Go.Sort Go.Shelf
def En:Go.Shelf.Ren:=⟨fun | 7=>73 | 10=>147 | n=>n,fun | 23=>148 | 26=>9 | 3=>4 | 28=>132 | 0=>0 | 27=>131 | 33=>206 | 4=>4 | n=>n,fun | n=>n⟩
theorem keysLay:Go.Proofs.SlLaysZ.n7 Tryz.prog En where
 mixed:=by kernel_rfl
 f7 := ⟨"maps.Keys[map[string]bool,string,bool]", by decide, Tryz.func73.trans (congrArg some (by kernel_rfl))⟩
 f10 := ⟨"maps.Keys[map[string]bool,string,bool]$1", by decide, Tryz.func147.trans (congrArg some (by kernel_rfl))⟩
 t0:=Tryz.underlying0
 a0:=Tryz.isAgg0
 z0:=Tryz.sizeOf0
 v0:=Tryz.zeroValue0
 t4:=Tryz.underlying4
 a4:=Tryz.isAgg4
 z4:=Tryz.sizeOf4
 v4:=Tryz.zeroValue4
 t23:=Tryz.underlying148
 a23:=Tryz.isAgg148
 z23:=Tryz.sizeOf148
 v23:=Tryz.zeroValue148
 t26:=Tryz.underlying9
 a26:=Tryz.isAgg9
 z26:=Tryz.sizeOf9
 v26:=Tryz.zeroValue9
 t27:=Tryz.underlying131
 a27:=Tryz.isAgg131
 z27:=Tryz.sizeOf131
 v27:=Tryz.zeroValue131
 t28:=Tryz.underlying132
 a28:=Tryz.isAgg132
 z28:=Tryz.sizeOf132
 v28:=Tryz.zeroValue132
 t33:=Tryz.underlying206
 a33:=Tryz.isAgg206
 z33:=Tryz.sizeOf206
 v33:=Tryz.zeroValue206
def rK:Go.Shelf.Ren:=⟨fun | 6=>59 | 8=>128 | 9=>129 | 11=>190 | 13=>192 | 12=>191 | 23=>240 | 24=>241 | 14=>231 | 15=>232 | 16=>233 | 17=>234 | 18=>235 | 19=>236 | 20=>237 | 21=>238 | 22=>239 | 25=>256 | 26=>257 | 27=>258 | 28=>259 | 29=>260 | 30=>261 | 31=>269 | n=>n,fun | 26=>9 | 28=>132 | 24=>57 | 0=>0 | 3=>3 | 37=>259 | 48=>298 | 50=>67 | 4=>4 | 40=>290 | 39=>289 | 45=>295 | 5=>5 | 9=>9 | 51=>308 | 55=>312 | 57=>317 | 58=>318 | 33=>206 | n=>n,fun | n=>n⟩
theorem aFr:Go.Proofs.SlLaysZ.n6 Tryz.prog rK where
 mixed:=by kernel_rfl
 f6 := ⟨"slices.Sorted[string]", by decide, Tryz.func59.trans (congrArg some (by kernel_rfl))⟩
 f8 := ⟨"slices.Collect[string]", by decide, Tryz.func128.trans (congrArg some (by kernel_rfl))⟩
 f11 := ⟨"slices.AppendSeq[[]string,string]", by decide, Tryz.func190.trans (congrArg some (by kernel_rfl))⟩
 t0:=Tryz.underlying0
 a0:=Tryz.isAgg0
 z0:=Tryz.sizeOf0
 v0:=Tryz.zeroValue0
 t24:=Tryz.underlying57
 a24:=Tryz.isAgg57
 z24:=Tryz.sizeOf57
 v24:=Tryz.zeroValue57
 t26:=Tryz.underlying9
 a26:=Tryz.isAgg9
 z26:=Tryz.sizeOf9
 v26:=Tryz.zeroValue9
 t28:=Tryz.underlying132
 a28:=Tryz.isAgg132
 z28:=Tryz.sizeOf132
 v28:=Tryz.zeroValue132
 i26:=by kernel_rfl
def We:Go.Shelf.Ren:=⟨fun | 6=>129 | 8=>192 | 9=>191 | 19=>240 | 20=>241 | 21=>231 | 22=>232 | 23=>233 | 24=>234 | 25=>235 | 26=>236 | 27=>237 | 28=>238 | 29=>239 | 36=>256 | 31=>257 | 32=>258 | 37=>259 | 38=>260 | 39=>261 | 41=>269 | n=>n,fun | 27=>57 | 29=>9 | 3=>3 | 32=>259 | 26=>57 | 0=>0 | 44=>298 | 46=>67 | 4=>4 | 36=>290 | 35=>289 | 41=>295 | 5=>5 | 9=>9 | 53=>308 | 57=>312 | 63=>317 | 64=>318 | n=>n,fun | n=>n⟩
theorem aD4:Go.Proofs.SlLaysM.n6 Tryz.prog We where
 mixed:=by kernel_rfl
 f6 := ⟨"slices.Sort[[]string,string]", by decide, Tryz.func129.trans (congrArg some (by kernel_rfl))⟩
 f8:=Tryz.func192.trans (congrArg some (by kernel_rfl))
 f9 := ⟨"slices.pdqsortOrdered[string]", by decide, Tryz.func191.trans (congrArg some (by kernel_rfl))⟩
 f19:=Tryz.func240.trans (congrArg some (by kernel_rfl))
 f20:=Tryz.func241.trans (congrArg some (by kernel_rfl))
 f21 := ⟨"slices.insertionSortOrdered[string]", by decide, Tryz.func231.trans (congrArg some (by kernel_rfl))⟩
 f22 := ⟨"slices.heapSortOrdered[string]", by decide, Tryz.func232.trans (congrArg some (by kernel_rfl))⟩
 f23 := ⟨"slices.breakPatternsOrdered[string]", by decide, Tryz.func233.trans (congrArg some (by kernel_rfl))⟩
 f24 := ⟨"slices.choosePivotOrdered[string]", by decide, Tryz.func234.trans (congrArg some (by kernel_rfl))⟩
 f25 := ⟨"slices.reverseRangeOrdered[string]", by decide, Tryz.func235.trans (congrArg some (by kernel_rfl))⟩
 f26 := ⟨"slices.partialInsertionSortOrdered[string]", by decide, Tryz.func236.trans (congrArg some (by kernel_rfl))⟩
 f27 := ⟨"cmp.Less[string]", by decide, Tryz.func237.trans (congrArg some (by kernel_rfl))⟩
 f28 := ⟨"slices.partitionEqualOrdered[string]", by decide, Tryz.func238.trans (congrArg some (by kernel_rfl))⟩
 f29 := ⟨"slices.partitionOrdered[string]", by decide, Tryz.func239.trans (congrArg some (by kernel_rfl))⟩
 f31:=Tryz.func257.trans (congrArg some (by kernel_rfl))
 f32:=Tryz.func258.trans (congrArg some (by kernel_rfl))
 f36 := ⟨"slices.siftDownOrdered[string]", by decide, Tryz.func256.trans (congrArg some (by kernel_rfl))⟩
 f37 := ⟨"slices.medianAdjacentOrdered[string]", by decide, Tryz.func259.trans (congrArg some (by kernel_rfl))⟩
 f38 := ⟨"slices.medianOrdered[string]", by decide, Tryz.func260.trans (congrArg some (by kernel_rfl))⟩
 f39 := ⟨"cmp.isNaN[string]", by decide, Tryz.func261.trans (congrArg some (by kernel_rfl))⟩
 f41 := ⟨"slices.order2Ordered[string]", by decide, Tryz.func269.trans (congrArg some (by kernel_rfl))⟩
 t0:=Tryz.underlying0
 a0:=Tryz.isAgg0
 z0:=Tryz.sizeOf0
 v0:=Tryz.zeroValue0
 t3:=Tryz.underlying3
 a3:=Tryz.isAgg3
 z3:=Tryz.sizeOf3
 v3:=Tryz.zeroValue3
 t4:=Tryz.underlying4
 a4:=Tryz.isAgg4
 z4:=Tryz.sizeOf4
 v4:=Tryz.zeroValue4
 t5:=Tryz.underlying5
 a5:=Tryz.isAgg5
 z5:=Tryz.sizeOf5
 v5:=Tryz.zeroValue5
 t9:=Tryz.underlying9
 a9:=Tryz.isAgg9
 z9:=Tryz.sizeOf9
 v9:=Tryz.zeroValue9
 t26:=Tryz.underlying57
 a26:=Tryz.isAgg57
 z26:=Tryz.sizeOf57
 v26:=Tryz.zeroValue57
 t27:=Tryz.underlying57
 a27:=Tryz.isAgg57
 z27:=Tryz.sizeOf57
 v27:=Tryz.zeroValue57
 t29:=Tryz.underlying9
 a29:=Tryz.isAgg9
 z29:=Tryz.sizeOf9
 v29:=Tryz.zeroValue9
 t32:=Tryz.underlying259
 a32:=Tryz.isAgg259
 z32:=Tryz.sizeOf259
 v32:=Tryz.zeroValue259
 t35:=Tryz.underlying289
 a35:=Tryz.isAgg289
 z35:=Tryz.sizeOf289
 v35:=Tryz.zeroValue289
 t36:=Tryz.underlying290
 a36:=Tryz.isAgg290
 z36:=Tryz.sizeOf290
 v36:=Tryz.zeroValue290
 t41:=Tryz.underlying295
 a41:=Tryz.isAgg295
 z41:=Tryz.sizeOf295
 v41:=Tryz.zeroValue295
 t44:=Tryz.underlying298
 a44:=Tryz.isAgg298
 z44:=Tryz.sizeOf298
 v44:=Tryz.zeroValue298
 t46:=Tryz.underlying67
 a46:=Tryz.isAgg67
 z46:=Tryz.sizeOf67
 v46:=Tryz.zeroValue67
 t53:=Tryz.underlying308
 a53:=Tryz.isAgg308
 z53:=Tryz.sizeOf308
 v53:=Tryz.zeroValue308
 t57:=Tryz.underlying312
 a57:=Tryz.isAgg312
 z57:=Tryz.sizeOf312
 v57:=Tryz.zeroValue312
 t63:=Tryz.underlying317
 a63:=Tryz.isAgg317
 z63:=Tryz.sizeOf317
 v63:=Tryz.zeroValue317
 t64:=Tryz.underlying318
 a64:=Tryz.isAgg318
 z64:=Tryz.sizeOf318
 v64:=Tryz.zeroValue318
open Go.RowKit
set_option maxRecDepth 4000
open Go.Maps Go.Sort Go.Shelf Go.WideShapes
def mW (l:List ByteArray):List ByteArray:=((l.map fun s=>s.data.toList).mergeSort leB).map fun b=>⟨b.toArray⟩
theorem aBs (l:List (List UInt8)):l.map encStr=(l.map fun b=>(⟨b.toArray⟩:ByteArray)).map Value.string:=by
 rw [List.map_map];rfl
theorem sY (l:List ByteArray):(mW l).Perm l:=by
 unfold mW;refine ((List.mergeSort_perm _ leB).map _).trans ?_;rw [List.map_map];have:((fun b:List UInt8=>(⟨b.toArray⟩:ByteArray)) ∘ fun s:ByteArray=>s.data.toList)=id:=by
  funext s;simp
 rw [this,List.map_id]
theorem sortsIn (m : Nat) : AnyZ.SortsIn Tryz.prog rK Fence.wide m :=
  ⟨fun blk off cap ss W hH hblk hsz => callsIn_wide.2 (AnyM.slices_Sort_string aD4 blk off cap ss W hH hblk hsz),
   fun p cap W => callsIn_wide.2 (AnyM.slices_Sort_string_none aD4 p cap W)⟩
theorem Pv {w:World} {E:Env}:∀ {es:List (Value×V)} {l:List MapEntry},RdEs w E es l→l.map (·.key)=es.map (·.1)
 | [],[],_=>rfl
 | (k,x)::es,e::l,h=>by
  unfold RdEs at h;rw [List.map_cons,List.map_cons,Pv h.2.2,h.1]
 | [],_::_,h=>h.elim
 | _::_,[],h=>h.elim
theorem aLp {k:TypeId} (hk:Tryz.prog.underlying k=some .string) {s:ByteArray} (hs:s.size≤maxLen):keyOf Tryz.prog k (.string s)=some (.string s.data.toList):=by
 unfold keyOf;rw [hk];simp only [mapKey,hk,hs,if_true]
theorem Pt {w:World} {S:Nat→Prop}:∀ {l:List ByteArray},(∀ s∈l,s.size≤maxLen)→RdTs w S (l.map fun s=>T.lit (.string s)) (l.map Value.string)
 | [],_=>trivial
 | s::l,h=>⟨.lit _ rfl (h s (by simp)),Pt fun x hx=>h x (by simp [hx])⟩
set_option maxHeartbeats 2000000 in
theorem aFq {w:World} {b0 r:Nat} {ty:TypeId} {entries:Array MapEntry} {clock:Nat} {ks:List ByteArray} (hb0:w.heap[b0]? = some (.cells #[.map (some r)] ty (0,0))) (hr0:w.heap[r]? = some (.map entries clock))
  (hbn:(∀ e∈entries.toList,e.born<clock)∧(entries.toList.map (·.born)).Nodup) (hks:entries.toList.map (·.key)=ks.map Value.string) (hnd:ks.Nodup) (hsz:∀ k∈ks,k.size≤maxLen) (hlen:ks.length≤1000000) :
  Calls Tryz.prog 59 #[.func (.func 147) #[] #[.pointer (some ⟨b0,0,none⟩)]] w fun e w' => ∃ v,e = .returned v ∧
   w'.ownsRow w.heap.size 9 1 v (mW ks).length ((mW ks).map Value.string)∧Below w.heap.size w w':=by
 have hesz:entries.size=ks.length:=by
  have:=congrArg List.length hks;simpa using this
 have hkind:Tryz.prog.underlying 9=some .string:=Tryz.underlying9;have hmem:∀ x∈entries.toList, ∃ s∈ks,x.key = .string s:=fun x hx=>by
  have h1:x.key∈entries.toList.map (·.key):=List.mem_map_of_mem hx;rw [hks,List.mem_map] at h1;obtain ⟨s,h2,h3⟩:=h1;exact ⟨s,h2,h3.symm⟩
 let R:Value→Option (DataW Unit×List MemPlace):=fun _=>some (.nil,[])
 have hstr:∀ l:List ByteArray,l.Nodup→(l.map Value.string).Nodup:=fun l h=>by
  refine List.pairwise_map.2 (h.imp fun hne e=>hne ?_);injection e
 have hF:Go.WideElems.Fit Tryz.prog 9 R entries clock:=⟨by rw [hesz];unfold maxLen;omega,⟨hbn.1,hbn.2,by rw [hks];exact hstr _ hnd⟩,fun x hx=>by
  obtain ⟨s,h1,h2⟩:=hmem x hx;exact ⟨_,Go.WideElems.rd_mk (key:=x.key) (val:=x.val) (born:=x.born) (by rw [h2];exact aLp hkind (hsz s h1)) rfl⟩⟩
 have hown:w.ownsMap Tryz.prog 9 R r ks.length (.map ((entries.toList.map (Go.WideElems.rg Tryz.prog 9 R)).foldr DataW.insert [])):=⟨entries,clock,hr0,hF,by omega,rfl⟩
 have hcell:w.cell? ⟨b0,0,none⟩=some (.map (some r)):=by simp [World.cell?,hb0]
 have hlt:b0<w.heap.size:=(Array.getElem?_eq_some_iff.1 hb0).1;have hsize:Maps.size (DataW.map ((entries.toList.map (Go.WideElems.rg Tryz.prog 9 R)).foldr DataW.insert []):DataW Unit)=ks.length:=by
  show List.length _=_
  rw [List.Perm.length_eq (sorted_perm _),List.length_map,Array.length_toList,hesz]
 have hseq:=AnyZ.keys_gives (ρ := En) { keysLay with } Fence.wide 2 trivial rfl (by omega) b0 r ks.length _ w hlt hcell hown;rw [hsize] at hseq;have hperm:(strKeys (DataW.map ((entries.toList.map (Go.WideElems.rg Tryz.prog 9 R)).foldr DataW.insert []):DataW Unit)).Perm (ks.map fun s=>s.data.toList):=by
  show (List.map _ _).Perm _
  refine (List.Perm.map _ (sorted_perm _)).trans ?_;rw [List.map_map];have:entries.toList.map ((fun p:Lit×DataW Unit=>strOf p.1) ∘ Go.WideElems.rg Tryz.prog 9 R)=(entries.toList.map (·.key)).map fun v=>(Ab v).data.toList:=by
   rw [List.map_map];refine List.map_congr_left fun x hx=>?_
   obtain ⟨s,h1,h2⟩:=hmem x hx;simp only [Function.comp_apply];have h3:Go.WideElems.rd Tryz.prog 9 R x=some (.string s.data.toList,DataW.nil):=Go.WideElems.rd_mk (key:=x.key) (val:=x.val) (born:=x.born) (kl := .string s.data.toList) (yv:=(DataW.nil,[])) (by rw [h2];exact aLp hkind (hsz s h1)) rfl;rw [Go.WideElems.rg_of h3,h2];rfl
  rw [this,hks,List.map_map];exact .refl _
 have hS:=AnyZ.sorted_in (ρ := rK) aFr Fence.wide 5 trivial trivial trivial trivial rfl (by omega) (sortsIn _) (enters_of Tryz.func129 (by kernel_rfl) rfl) 147 #[.pointer (some ⟨b0,0,none⟩)] trivial (enters_of Tryz.func147 (by kernel_rfl) rfl) _ ks.length (by unfold maxLen;omega) (by omega) w hseq;refine (callsIn_wide.1 hS).mono ?_;rintro e w' ⟨v,ss,rfl,hp,hrow,hnil,hb⟩;refine ⟨v,rfl,?_,hb⟩;have e1:ss.mergeSort leB=(ks.map fun s=>s.data.toList).mergeSort leB:=mergeSort_of_perm (hp.trans hperm);have e2:(ss.mergeSort leB).map encStr=(mW ks).map Value.string:=by
  rw [e1,aBs];rfl
 have e3:ss.length=(mW ks).length:=by
  rw [(hp.trans hperm).length_eq,(sY ks).length_eq,List.length_map]
 rw [← e3, ← e2];exact hrow
theorem aH8 (es:List (Value×V)) (ks:List ByteArray) (d:List T) (hk:es.map (·.1)=ks.map Value.string) (hnd:ks.Nodup) (hsz:∀ k∈ks,k.size≤maxLen) (hlen:ks.length≤1000000) :
  CIO Tryz.prog 59 2 [(0, .box [.own 1]),(1, .map es)] [.clo 147 [.own 0]] (.t (.list 1 d ((mW ks).map fun k=>[.lit (.string k)]))) [(0, .box [.own 1]),(1, .map es)] 2:=by
 refine ⟨Tryz.X59,fun E w vs hr hbd hargs=>?_⟩;obtain ⟨hv0,hat0,b0,vs0,ty,rfl,hheap0,hrd0,hone0⟩:=hr.has 0 (.box [.own 1]) rfl;obtain ⟨hv1,hat1,r,entries,clock,rfl,hheap1,hrd1,hborn⟩:=hr.has 1 (.map es) rfl;have h0:∃ u,vs0 = #[u]∧RdV w E (.own 1) u:=by
  obtain ⟨vl⟩:=vs0
  match vl,hrd0 with
  | [u],h=>exact ⟨u,rfl,by simpa only [RdVs,and_true] using h⟩
  | [],h=>simp only [RdVs] at h
  | _::_::_,h=>simp only [RdVs,and_false] at h
 obtain ⟨u,rfl,hu⟩:=h0;simp only [RdV] at hu;have hu':=hu.2.2 _ (.inl hat1);subst hu';obtain ⟨v,rfl,hv⟩:∃ v,vs = [v]∧RdV w E (.clo 147 [.own 0]) v:=by
  match vs,hargs with
  | [v],h=>exact ⟨v,rfl,by simpa only [RdVs,and_true] using h⟩
  | [],h=>simp only [RdVs] at h
  | _::_::_,h=>simp only [RdVs,and_false] at h
 simp only [RdV] at hv;obtain ⟨cs,rfl,hcs⟩:=hv;obtain ⟨p,rfl,hp⟩:∃ p,cs = #[p]∧RdV w E (.own 0) p:=by
  obtain ⟨cl⟩:=cs
  match cl,hcs with
  | [u],h=>exact ⟨u,rfl,by simpa only [RdVs,and_true] using h⟩
  | [],h=>simp only [RdVs] at h
  | _::_::_,h=>simp only [RdVs,and_false] at h
 simp only [RdV] at hp;have hb2:=hp.2.2 _ (.inl hat0);subst hb2;refine (aFq hheap0 hheap1 hborn (by rw [Pv hrd1,hk]) hnd hsz hlen).mono ?_;rintro e w' ⟨v,rfl,hrow,hb⟩;have hnew:∀ b,aT v=some b→w.heap.size≤b∧b<w'.heap.size:=fun b hb'=>by
  rcases hrow.2 with ⟨rfl,_⟩ | ⟨g,cap,cur,rfl,h1,h2,_⟩
  ·cases hb'
  ·injection hb' with hb';subst hb';exact ⟨h1,(Array.getElem?_eq_some_iff.1 h2).1⟩
 obtain ⟨k1,k2⟩:=hr.later (S':=fun b=>E.S b∨aT v=some b) hb (fun _ h => .inl h) (fun b h=>h.imp id fun h=>(hnew b h).1) (fun b h=>h.elim (fun h=>Nat.lt_of_lt_of_le (hr.slt b h) hb.size) fun h=>(hnew b h).2);refine ⟨v,_,rfl,k1,hbd,k2,?_⟩;simp only [RdV];have hsz':∀ s∈mW ks,s.size≤maxLen:=fun s hs=>hsz s ((sY ks).mem_iff.1 hs)
 refine Fu (S:=fun _=>False) (e:=9) (cells:=(mW ks).map Value.string) ?_ ?_ ?_ (fun _ h=>h.elim) (fun b hb' => .inr hb')
 ·rw [List.length_map];exact ownsRow_base_a hrow (Nat.zero_le _)
 ·have:(List.map (fun k=>[T.lit (.string k)]) (mW ks)).flatten=(mW ks).map fun s=>T.lit (.string s):=by
   induction mW ks with
   | nil=>rfl
   | cons x l ih=>rw [List.map_cons,List.flatten_cons,ih];rfl
  rw [this];exact Pt hsz'
 ·intro x hx;obtain ⟨s,_,rfl⟩:=List.mem_map.1 hx;rfl
open Go.RowKit
set_option maxRecDepth 4000
theorem put_med (k:Value) (m:MediumR) (es:List Ent):yZ k (.agg (dA m)) (tEs es)=tEs (qQ k (medC m) es):=Am k (medC m) es
theorem put_seq (k:Value) (s:SequenceR) (es:List Ent):yZ k (fN s) (tEs es)=tEs (qQ k (seqC s) es):=Am k (seqC s) es
theorem kinds_M (l:List MediumR):mF .string (Nj l)=true:=qB (jG _ _ _)
theorem kinds_S (l:List SequenceR):mF .string (Mb l)=true:=qB (jG _ _ _)
theorem lend_M (l:List MediumR) (h:Heap) (n:Nat):kM (aR h n) (tEs (Nj l))=some (Nj l):=xK _ (fF h n) _ (nX _ _ (fun _=>rfl) _)
theorem lend_S (l:List SequenceR) (h:Heap) (n:Nat):kM (aR h n) (tEs (Mb l))=some (Mb l):=xK _ (fF h n) _ (nX _ _ (fun _=>rfl) _)
attribute [go_sem] kinds_M kinds_S lend_M lend_S
theorem cCat (p:ProjR) (h1:p.media.length≤16) (h2:p.seqs.length≤16):aN Tryz.prog 71 [eD p] (vcat p):=by
 refine aH Tryz.X71 Tryz.func71 rfl Tryz.ntmps71 (by rw [Tryz.results71]) (aD _ ?_);simp only [go_sem,simprocAttr];refine aF (fun (k:Nat) σ => { σ with fr := σ.fr.set 14 (aC k),h := σ.h.set 2 (.map (tEs (Nj (p.media.take k)))) }) (fun k=>k≤p.media.length) (fun k=>p.media.length - k) 0 (aA ?_) (Nat.zero_le _) ?_
 ·simp only [go_sem,simprocAttr]<;>simp [Nj,gR,tEs]
 ·intro k hk;refine aD _ ?_;simp only [go_sem,simprocAttr];refine ⟨fun hlt=>?_,fun hge=>?_⟩
  ·simp only [bxx] at hlt;unfold awS;simp only [go_sem,simprocAttr];refine ⟨⟨by omega,by omega⟩,k+1,aA ?_,by omega,by omega⟩;simp only [go_sem,simprocAttr];rw [put_med,bJ (show k<9223372036854775807 by omega)];unfold Nj;rw [Kc _ _ (show k<p.media.length by omega)];simp
  ·simp only [bxx] at hge;unfold awS;simp only [go_sem,simprocAttr];rw [List.take_of_length_le (show p.media.length≤k by omega)];refine aF (fun (k:Nat) σ => { σ with fr := σ.fr.set 27 (aC k),h := σ.h.set 3 (.map (tEs (Mb (p.seqs.take k)))) }) (fun k=>k≤p.seqs.length) (fun k=>p.seqs.length - k) 0 (aA ?_) (Nat.zero_le _) ?_
   ·simp only [go_sem,simprocAttr]<;>simp [Mb,gR,tEs]
   ·intro j hj;refine aD _ ?_;simp only [go_sem,simprocAttr];refine ⟨fun hlt=>?_,fun hge=>?_⟩
    ·simp only [bxx] at hlt;unfold awS;simp only [go_sem,simprocAttr];refine ⟨⟨by omega,by omega⟩,j+1,aA ?_,by omega,by omega⟩;simp only [go_sem,simprocAttr];have e1:=put_seq (.string (p.seqs.getD j default).name) (p.seqs.getD j default) (Mb (p.seqs.take j));unfold fN at e1;rw [e1,bJ (show j<9223372036854775807 by omega)];unfold Mb;rw [Kc _ _ (show j<p.seqs.length by omega)];simp
    ·simp only [bxx] at hge;unfold awS;simp only [go_sem,simprocAttr];rw [List.take_of_length_le (show p.seqs.length≤j by omega)]
def cP (s:SequenceR):List ClipR:=(s.video++s.sound).flatten
theorem aNe (s:SequenceR):aN Tryz.prog 206 [fN s] (.clo 243 [.elem 9 (SequenceR.c s) [SequenceR.c s] 0 0]):=by
 refine aH Tryz.X206 Tryz.func206 rfl Tryz.ntmps206 (by rw [Tryz.results206]) (aD _ ?_);simp only [go_sem,simprocAttr]<;>rfl
theorem Rr (d:List T) (a b:List (List ClipR)) (ha:a.length≤8) (hb:b.length≤8):aN Tryz.prog 244 [.t (.list 1 d [[cH a],[cH b]])] (.t (cH (a++b))):=by
 refine aH Tryz.X244 Tryz.func244 rfl Tryz.ntmps244 (by rw [Tryz.results244]) (aD _ ?_);simp only [go_sem,simprocAttr];have c2:((2:Nat):Int)=2:=rfl;have w1:IntKind.i64.wrap 1=1:=by decide
 have w2:IntKind.i64.wrap 2=2:=by decide
 have e0:IntKind.i64.wrap (0+(a.length:Int))=a.length:=by rw [wrap64 (by omega) (by omega)];omega
 have e0':IntKind.i64.wrap (a.length:Int)=a.length:=by rw [wrap64 (by omega) (by omega)]
 have e1:IntKind.i64.wrap ((a.length:Int)+(b.length:Int))=((a++b).length:Nat):=by rw [wrap64 (by omega) (by omega),List.length_append];omega
 have n0 : ¬ ((a.length:Int)<0):=by omega
 have n1 : ¬ ((((a++b).length:Nat):Int)<0):=by omega
 refine eC ?_;refine aZ (aD _ ?_);simp only [go_sem,simprocAttr,dtf,nth,Option.getD_some,List.getElem?_cons_zero,List.getElem?_cons_succ,w1,w2,c2,e0,e0',e1,n0,forall_const,false_implies,true_implies];refine aZ (aD _ ?_);simp only [go_sem,simprocAttr,dtf,nth,Option.getD_some,List.getElem?_cons_zero,List.getElem?_cons_succ,w1,w2,c2,e0,e0',e1,n1,forall_const,false_implies,true_implies];refine aZ (aD _ ?_);simp only [go_sem,simprocAttr,dtf,nth,Option.getD_some,List.getElem?_cons_zero,List.getElem?_cons_succ,w1,w2,c2,e0,e0',e1,n1,forall_const,false_implies,true_implies];refine igrowTr (n:=(a++b).length) (by rw [List.length_append];omega) (bS []) ?_;simp only [go_sem,simprocAttr];refine eC ?_;refine aZ (aD _ ?_);simp only [go_sem,simprocAttr,dtf,nth,Option.getD_some,List.getElem?_cons_zero,List.getElem?_cons_succ,w1,w2,c2,forall_const,false_implies,true_implies];refine ⟨by unfold maxLen;omega,?_⟩;refine aZ (aD _ ?_);simp only [go_sem,simprocAttr,dtf,nth,Option.getD_some,List.getElem?_cons_zero,List.getElem?_cons_succ,w1,w2,c2,forall_const,false_implies,true_implies];refine ⟨⟨by unfold maxLen;omega,by omega⟩,?_⟩;refine aZ (aD _ ?_);simp only [go_sem,simprocAttr,dtf,nth,Option.getD_some,List.getElem?_cons_zero,List.getElem?_cons_succ,w1,w2,c2,forall_const,false_implies,true_implies];rw [List.map_append]
end Go.Proofs.YtbfnemkngoaeeaaGreat
