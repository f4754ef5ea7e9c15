/- Proved here: the library functions maps.Keys, slices.Sorted and slices.Sort of this program are the library's, for use in the proofs of the given statements; conditions stand in each theorem. -/
import Derived.Shelf.SlIter.Nil
import Derived.Shelf.SortM.Plain
import Derived.Shelf.SortM.SortNone
import Derived.Test.YtkjdkbmfaamhaaaGreatProg
import Derived.Test.YtkjdkbmfaamhaaaGreatZG
import Derived.Test.YtkjdkbmfaamhaaaGreatZH
import Derived.Test.YtkjdkbmfaamhaaaGreatZS
import Derived.Test.YtkjdkbmfaamhaaaGreatZI
import Derived.Test.YtkjdkbmfaamhaaaGreatZY
set_option linter.unusedSimpArgs false
set_option linter.unusedVariables false
set_option linter.unusedSectionVars false
set_option linter.unnecessarySimpa false
namespace Go.Proofs.YtkjdkbmfaamhaaaGreat
open Go.Proofs Go.RowKit Go.Maps Go.Sort Go.Shelf
def keysLay_ren:Go.Shelf.Ren:=⟨fun | 7=>118 | 10=>147 | n=>n,fun | 23=>187 | 26=>9 | 3=>4 | 28=>190 | 0=>0 | 27=>189 | 33=>147 | 4=>4 | n=>n,fun | n=>n⟩
theorem keysLay:Go.Proofs.SlLaysZ.n7 Tryz.prog keysLay_ren where
 mixed:=by kernel_rfl
 f7 := ⟨"maps.Keys[map[string]bool,string,bool]", by decide, Tryz.func118.trans (congrArg some (by kernel_rfl))⟩
 f10 := ⟨"maps.Keys[map[string]bool,string,bool]$1", by decide, Tryz.func147.trans (congrArg some (by kernel_rfl))⟩
 t0:=Tryz.underlying0
 a0:=Tryz.isAgg0
 z0:=Tryz.sizeOf0
 v0:=Tryz.zeroValue0
 t4:=Tryz.underlying4
 a4:=Tryz.isAgg4
 z4:=Tryz.sizeOf4
 v4:=Tryz.zeroValue4
 t23:=Tryz.underlying187
 a23:=Tryz.isAgg187
 z23:=Tryz.sizeOf187
 v23:=Tryz.zeroValue187
 t26:=Tryz.underlying9
 a26:=Tryz.isAgg9
 z26:=Tryz.sizeOf9
 v26:=Tryz.zeroValue9
 t27:=Tryz.underlying189
 a27:=Tryz.isAgg189
 z27:=Tryz.sizeOf189
 v27:=Tryz.zeroValue189
 t28:=Tryz.underlying190
 a28:=Tryz.isAgg190
 z28:=Tryz.sizeOf190
 v28:=Tryz.zeroValue190
 t33:=Tryz.underlying147
 a33:=Tryz.isAgg147
 z33:=Tryz.sizeOf147
 v33:=Tryz.zeroValue147
def sortedLay_ren:Go.Shelf.Ren:=⟨fun | 6=>117 | 8=>145 | 9=>146 | 11=>160 | 13=>162 | 12=>161 | 23=>175 | 24=>176 | 14=>166 | 15=>167 | 16=>168 | 17=>169 | 18=>170 | 19=>171 | 20=>172 | 21=>173 | 22=>174 | 25=>177 | 26=>178 | 27=>179 | 28=>180 | 29=>181 | 30=>182 | 31=>183 | n=>n,fun | 26=>9 | 28=>190 | 24=>38 | 0=>0 | 3=>3 | 37=>173 | 48=>240 | 50=>50 | 4=>4 | 40=>232 | 39=>231 | 45=>237 | 5=>5 | 9=>9 | 51=>241 | 55=>245 | 57=>247 | 58=>248 | 33=>147 | n=>n,fun | n=>n⟩
theorem sortedLay:Go.Proofs.SlLaysZ.n6 Tryz.prog sortedLay_ren where
 mixed:=by kernel_rfl
 f6 := ⟨"slices.Sorted[string]", by decide, Tryz.func117.trans (congrArg some (by kernel_rfl))⟩
 f8 := ⟨"slices.Collect[string]", by decide, Tryz.func145.trans (congrArg some (by kernel_rfl))⟩
 f11 := ⟨"slices.AppendSeq[[]string,string]", by decide, Tryz.func160.trans (congrArg some (by kernel_rfl))⟩
 t0:=Tryz.underlying0
 a0:=Tryz.isAgg0
 z0:=Tryz.sizeOf0
 v0:=Tryz.zeroValue0
 t24:=Tryz.underlying38
 a24:=Tryz.isAgg38
 z24:=Tryz.sizeOf38
 v24:=Tryz.zeroValue38
 t26:=Tryz.underlying9
 a26:=Tryz.isAgg9
 z26:=Tryz.sizeOf9
 v26:=Tryz.zeroValue9
 t28:=Tryz.underlying190
 a28:=Tryz.isAgg190
 z28:=Tryz.sizeOf190
 v28:=Tryz.zeroValue190
 i26:=by kernel_rfl
def sortLay_ren:Go.Shelf.Ren:=⟨fun | 6=>146 | 8=>162 | 9=>161 | 19=>175 | 20=>176 | 21=>166 | 22=>167 | 23=>168 | 24=>169 | 25=>170 | 26=>171 | 27=>172 | 28=>173 | 29=>174 | 36=>177 | 31=>178 | 32=>179 | 37=>180 | 38=>181 | 39=>182 | 41=>183 | n=>n,fun | 27=>38 | 29=>9 | 3=>3 | 32=>173 | 26=>38 | 0=>0 | 44=>240 | 46=>50 | 4=>4 | 36=>232 | 35=>231 | 41=>237 | 5=>5 | 9=>9 | 53=>241 | 57=>245 | 63=>247 | 64=>248 | n=>n,fun | n=>n⟩
theorem sortLay:Go.Proofs.SlLaysM.n6 Tryz.prog sortLay_ren where
 mixed:=by kernel_rfl
 f6 := ⟨"slices.Sort[[]string,string]", by decide, Tryz.func146.trans (congrArg some (by kernel_rfl))⟩
 f8:=Tryz.func162.trans (congrArg some (by kernel_rfl))
 f9 := ⟨"slices.pdqsortOrdered[string]", by decide, Tryz.func161.trans (congrArg some (by kernel_rfl))⟩
 f19:=Tryz.func175.trans (congrArg some (by kernel_rfl))
 f20:=Tryz.func176.trans (congrArg some (by kernel_rfl))
 f21 := ⟨"slices.insertionSortOrdered[string]", by decide, Tryz.func166.trans (congrArg some (by kernel_rfl))⟩
 f22 := ⟨"slices.heapSortOrdered[string]", by decide, Tryz.func167.trans (congrArg some (by kernel_rfl))⟩
 f23 := ⟨"slices.breakPatternsOrdered[string]", by decide, Tryz.func168.trans (congrArg some (by kernel_rfl))⟩
 f24 := ⟨"slices.choosePivotOrdered[string]", by decide, Tryz.func169.trans (congrArg some (by kernel_rfl))⟩
 f25 := ⟨"slices.reverseRangeOrdered[string]", by decide, Tryz.func170.trans (congrArg some (by kernel_rfl))⟩
 f26 := ⟨"slices.partialInsertionSortOrdered[string]", by decide, Tryz.func171.trans (congrArg some (by kernel_rfl))⟩
 f27 := ⟨"cmp.Less[string]", by decide, Tryz.func172.trans (congrArg some (by kernel_rfl))⟩
 f28 := ⟨"slices.partitionEqualOrdered[string]", by decide, Tryz.func173.trans (congrArg some (by kernel_rfl))⟩
 f29 := ⟨"slices.partitionOrdered[string]", by decide, Tryz.func174.trans (congrArg some (by kernel_rfl))⟩
 f31:=Tryz.func178.trans (congrArg some (by kernel_rfl))
 f32:=Tryz.func179.trans (congrArg some (by kernel_rfl))
 f36 := ⟨"slices.siftDownOrdered[string]", by decide, Tryz.func177.trans (congrArg some (by kernel_rfl))⟩
 f37 := ⟨"slices.medianAdjacentOrdered[string]", by decide, Tryz.func180.trans (congrArg some (by kernel_rfl))⟩
 f38 := ⟨"slices.medianOrdered[string]", by decide, Tryz.func181.trans (congrArg some (by kernel_rfl))⟩
 f39 := ⟨"cmp.isNaN[string]", by decide, Tryz.func182.trans (congrArg some (by kernel_rfl))⟩
 f41 := ⟨"slices.order2Ordered[string]", by decide, Tryz.func183.trans (congrArg some (by kernel_rfl))⟩
 t0:=Tryz.underlying0
 a0:=Tryz.isAgg0
 z0:=Tryz.sizeOf0
 v0:=Tryz.zeroValue0
 t3:=Tryz.underlying3
 a3:=Tryz.isAgg3
 z3:=Tryz.sizeOf3
 v3:=Tryz.zeroValue3
 t4:=Tryz.underlying4
 a4:=Tryz.isAgg4
 z4:=Tryz.sizeOf4
 v4:=Tryz.zeroValue4
 t5:=Tryz.underlying5
 a5:=Tryz.isAgg5
 z5:=Tryz.sizeOf5
 v5:=Tryz.zeroValue5
 t9:=Tryz.underlying9
 a9:=Tryz.isAgg9
 z9:=Tryz.sizeOf9
 v9:=Tryz.zeroValue9
 t26:=Tryz.underlying38
 a26:=Tryz.isAgg38
 z26:=Tryz.sizeOf38
 v26:=Tryz.zeroValue38
 t27:=Tryz.underlying38
 a27:=Tryz.isAgg38
 z27:=Tryz.sizeOf38
 v27:=Tryz.zeroValue38
 t29:=Tryz.underlying9
 a29:=Tryz.isAgg9
 z29:=Tryz.sizeOf9
 v29:=Tryz.zeroValue9
 t32:=Tryz.underlying173
 a32:=Tryz.isAgg173
 z32:=Tryz.sizeOf173
 v32:=Tryz.zeroValue173
 t35:=Tryz.underlying231
 a35:=Tryz.isAgg231
 z35:=Tryz.sizeOf231
 v35:=Tryz.zeroValue231
 t36:=Tryz.underlying232
 a36:=Tryz.isAgg232
 z36:=Tryz.sizeOf232
 v36:=Tryz.zeroValue232
 t41:=Tryz.underlying237
 a41:=Tryz.isAgg237
 z41:=Tryz.sizeOf237
 v41:=Tryz.zeroValue237
 t44:=Tryz.underlying240
 a44:=Tryz.isAgg240
 z44:=Tryz.sizeOf240
 v44:=Tryz.zeroValue240
 t46:=Tryz.underlying50
 a46:=Tryz.isAgg50
 z46:=Tryz.sizeOf50
 v46:=Tryz.zeroValue50
 t53:=Tryz.underlying241
 a53:=Tryz.isAgg241
 z53:=Tryz.sizeOf241
 v53:=Tryz.zeroValue241
 t57:=Tryz.underlying245
 a57:=Tryz.isAgg245
 z57:=Tryz.sizeOf245
 v57:=Tryz.zeroValue245
 t63:=Tryz.underlying247
 a63:=Tryz.isAgg247
 z63:=Tryz.sizeOf247
 v63:=Tryz.zeroValue247
 t64:=Tryz.underlying248
 a64:=Tryz.isAgg248
 z64:=Tryz.sizeOf248
 v64:=Tryz.zeroValue248
open Go.RowKit
set_option maxRecDepth 4000
open Go.Maps Go.Sort Go.Shelf Go.WideShapes
def sortN (l:List ByteArray):List ByteArray:=((l.map fun s=>s.data.toList).mergeSort leB).map fun b=>⟨b.toArray⟩
theorem map_encStr (l:List (List UInt8)):l.map encStr=(l.map fun b=>(⟨b.toArray⟩:ByteArray)).map Value.string:=by
 rw [List.map_map]
 rfl
theorem sortN_perm (l:List ByteArray):(sortN l).Perm l:=by
 unfold sortN
 refine ((List.mergeSort_perm _ leB).map _).trans ?_
 rw [List.map_map]
 have:((fun b:List UInt8=>(⟨b.toArray⟩:ByteArray)) ∘ fun s:ByteArray=>s.data.toList)=id:=by
  funext s
  simp
 rw [this,List.map_id]
theorem sortsIn (m : Nat) : AnyZ.SortsIn Tryz.prog sortedLay_ren Fence.wide m :=
  ⟨fun blk off cap ss W hH hblk hsz => callsIn_wide.2 (AnyM.slices_Sort_string sortLay blk off cap ss W hH hblk hsz),
   fun p cap W => callsIn_wide.2 (AnyM.slices_Sort_string_none sortLay p cap W)⟩
theorem rdEs_keys {w:World} {E:Env}:∀ {es:List (Value×V)} {l:List MapEntry},RdEs w E es l→l.map (·.key)=es.map (·.1)
 | [],[],_=>rfl
 | (k,x)::es,e::l,h=>by
  unfold RdEs at h
  rw [List.map_cons,List.map_cons,rdEs_keys h.2.2,h.1]
 | [],_::_,h=>h.elim
 | _::_,[],h=>h.elim
theorem keyStr {k:TypeId} (hk:Tryz.prog.underlying k=some .string) {s:ByteArray} (hs:s.size≤maxLen):keyOf Tryz.prog k (.string s)=some (.string s.data.toList):=by
 unfold keyOf
 rw [hk]
 simp only [mapKey,hk,hs,if_true]
theorem rdTs_lits {w:World} {S:Nat→Prop}:∀ {l:List ByteArray},(∀ s∈l,s.size≤maxLen)→RdTs w S (l.map fun s=>T.lit (.string s)) (l.map Value.string)
 | [],_=>trivial
 | s::l,h=>⟨.lit _ rfl (h s (by simp)),rdTs_lits fun x hx=>h x (by simp [hx])⟩
set_option maxHeartbeats 2000000 in
theorem sortedRun {w:World} {b0 r:Nat} {ty:TypeId} {entries:Array MapEntry} {clock:Nat} {ks:List ByteArray} (hb0:w.heap[b0]? = some (.cells #[.map (some r)] ty (0,0))) (hr0:w.heap[r]? = some (.map entries clock))
  (hbn:(∀ e∈entries.toList,e.born<clock)∧(entries.toList.map (·.born)).Nodup) (hks:entries.toList.map (·.key)=ks.map Value.string) (hnd:ks.Nodup) (hsz:∀ k∈ks,k.size≤maxLen) (hlen:ks.length≤1000000) :
  Calls Tryz.prog 117 #[.func (.func 147) #[] #[.pointer (some ⟨b0,0,none⟩)]] w fun e w' => ∃ v,e = .returned v ∧
   w'.ownsRow w.heap.size 9 1 v (sortN ks).length ((sortN ks).map Value.string)∧Below w.heap.size w w':=by
 have hesz:entries.size=ks.length:=by
  have:=congrArg List.length hks
  simpa using this
 have hkind:Tryz.prog.underlying 9=some .string:=Tryz.underlying9
 have hmem:∀ x∈entries.toList, ∃ s∈ks,x.key = .string s:=fun x hx=>by
  have h1:x.key∈entries.toList.map (·.key):=List.mem_map_of_mem hx
  rw [hks,List.mem_map] at h1
  obtain ⟨s,h2,h3⟩:=h1
  exact ⟨s,h2,h3.symm⟩
 let R:Value→Option (DataW Unit×List MemPlace):=fun _=>some (.nil,[])
 have hstr:∀ l:List ByteArray,l.Nodup→(l.map Value.string).Nodup:=fun l h=>by
  refine List.pairwise_map.2 (h.imp fun hne e=>hne ?_)
  injection e
 have hF:Go.WideElems.Fit Tryz.prog 9 R entries clock:=⟨by rw [hesz];unfold maxLen;omega,⟨hbn.1,hbn.2,by rw [hks];exact hstr _ hnd⟩,fun x hx=>by
  obtain ⟨s,h1,h2⟩:=hmem x hx
  exact ⟨_,Go.WideElems.rd_mk (key:=x.key) (val:=x.val) (born:=x.born) (by rw [h2];exact keyStr hkind (hsz s h1)) rfl⟩⟩
 have hown:w.ownsMap Tryz.prog 9 R r ks.length (.map ((entries.toList.map (Go.WideElems.rg Tryz.prog 9 R)).foldr DataW.insert [])):=⟨entries,clock,hr0,hF,by omega,rfl⟩
 have hcell:w.cell? ⟨b0,0,none⟩=some (.map (some r)):=by simp [World.cell?,hb0]
 have hlt:b0<w.heap.size:=(Array.getElem?_eq_some_iff.1 hb0).1
 have hsize:Maps.size (DataW.map ((entries.toList.map (Go.WideElems.rg Tryz.prog 9 R)).foldr DataW.insert []):DataW Unit)=ks.length:=by
  show List.length _=_
  rw [List.Perm.length_eq (sorted_perm _),List.length_map,Array.length_toList,hesz]
 have hseq:=AnyZ.keys_gives (ρ := keysLay_ren) { keysLay with } Fence.wide 2 trivial rfl (by omega) b0 r ks.length _ w hlt hcell hown
 rw [hsize] at hseq
 have hperm:(strKeys (DataW.map ((entries.toList.map (Go.WideElems.rg Tryz.prog 9 R)).foldr DataW.insert []):DataW Unit)).Perm (ks.map fun s=>s.data.toList):=by
  show (List.map _ _).Perm _
  refine (List.Perm.map _ (sorted_perm _)).trans ?_
  rw [List.map_map]
  have:entries.toList.map ((fun p:Lit×DataW Unit=>strOf p.1) ∘ Go.WideElems.rg Tryz.prog 9 R)=(entries.toList.map (·.key)).map fun v=>(strK v).data.toList:=by
   rw [List.map_map]
   refine List.map_congr_left fun x hx=>?_
   obtain ⟨s,h1,h2⟩:=hmem x hx
   simp only [Function.comp_apply]
   have h3:Go.WideElems.rd Tryz.prog 9 R x=some (.string s.data.toList,DataW.nil):=Go.WideElems.rd_mk (key:=x.key) (val:=x.val) (born:=x.born) (kl := .string s.data.toList) (yv:=(DataW.nil,[])) (by rw [h2];exact keyStr hkind (hsz s h1)) rfl
   rw [Go.WideElems.rg_of h3,h2]
   rfl
  rw [this,hks,List.map_map]
  exact .refl _
 have hS:=AnyZ.sorted_in (ρ := sortedLay_ren) sortedLay Fence.wide 5 trivial trivial trivial trivial rfl (by omega) (sortsIn _) (enters_of Tryz.func146 (by kernel_rfl) rfl) 147 #[.pointer (some ⟨b0,0,none⟩)] trivial (enters_of Tryz.func147 (by kernel_rfl) rfl) _ ks.length (by unfold maxLen;omega) (by omega) w hseq
 refine (callsIn_wide.1 hS).mono ?_
 rintro e w' ⟨v,ss,rfl,hp,hrow,hnil,hb⟩
 refine ⟨v,rfl,?_,hb⟩
 have e1:ss.mergeSort leB=(ks.map fun s=>s.data.toList).mergeSort leB:=mergeSort_of_perm (hp.trans hperm)
 have e2:(ss.mergeSort leB).map encStr=(sortN ks).map Value.string:=by
  rw [e1,map_encStr]
  rfl
 have e3:ss.length=(sortN ks).length:=by
  rw [(hp.trans hperm).length_eq,(sortN_perm ks).length_eq,List.length_map]
 rw [← e3, ← e2]
 exact hrow
theorem cioSorted (es:List (Value×V)) (ks:List ByteArray) (d:List T) (hk:es.map (·.1)=ks.map Value.string) (hnd:ks.Nodup) (hsz:∀ k∈ks,k.size≤maxLen) (hlen:ks.length≤1000000) :
  CIO Tryz.prog 117 2 [(0, .box [.own 1]),(1, .map es)] [.clo 147 [.own 0]] (.t (.list 1 d ((sortN ks).map fun k=>[.lit (.string k)]))) [(0, .box [.own 1]),(1, .map es)] 2:=by
 refine ⟨Tryz.xen117,fun E w vs hr hbd hargs=>?_⟩
 obtain ⟨hv0,hat0,b0,vs0,ty,rfl,hheap0,hrd0,hone0⟩:=hr.has 0 (.box [.own 1]) rfl
 obtain ⟨hv1,hat1,r,entries,clock,rfl,hheap1,hrd1,hborn⟩:=hr.has 1 (.map es) rfl
 have h0:∃ u,vs0 = #[u]∧RdV w E (.own 1) u:=by
  obtain ⟨vl⟩:=vs0
  match vl,hrd0 with
  | [u],h=>exact ⟨u,rfl,by simpa only [RdVs,and_true] using h⟩
  | [],h=>simp only [RdVs] at h
  | _::_::_,h=>simp only [RdVs,and_false] at h
 obtain ⟨u,rfl,hu⟩:=h0
 simp only [RdV] at hu
 have hu':=hu.2.2 _ (.inl hat1)
 subst hu'
 obtain ⟨v,rfl,hv⟩:∃ v,vs = [v]∧RdV w E (.clo 147 [.own 0]) v:=by
  match vs,hargs with
  | [v],h=>exact ⟨v,rfl,by simpa only [RdVs,and_true] using h⟩
  | [],h=>simp only [RdVs] at h
  | _::_::_,h=>simp only [RdVs,and_false] at h
 simp only [RdV] at hv
 obtain ⟨cs,rfl,hcs⟩:=hv
 obtain ⟨p,rfl,hp⟩:∃ p,cs = #[p]∧RdV w E (.own 0) p:=by
  obtain ⟨cl⟩:=cs
  match cl,hcs with
  | [u],h=>exact ⟨u,rfl,by simpa only [RdVs,and_true] using h⟩
  | [],h=>simp only [RdVs] at h
  | _::_::_,h=>simp only [RdVs,and_false] at h
 simp only [RdV] at hp
 have hb2:=hp.2.2 _ (.inl hat0)
 subst hb2
 refine (sortedRun hheap0 hheap1 hborn (by rw [rdEs_keys hrd1,hk]) hnd hsz hlen).mono ?_
 rintro e w' ⟨v,rfl,hrow,hb⟩
 have hnew:∀ b,blockOf v=some b→w.heap.size≤b∧b<w'.heap.size:=fun b hb'=>by
  rcases hrow.2 with ⟨rfl,_⟩ | ⟨g,cap,cur,rfl,h1,h2,_⟩
  ·cases hb'
  ·injection hb' with hb'
   subst hb'
   exact ⟨h1,(Array.getElem?_eq_some_iff.1 h2).1⟩
 obtain ⟨k1,k2⟩:=hr.later (S':=fun b=>E.S b∨blockOf v=some b) hb (fun _ h => .inl h) (fun b h=>h.imp id fun h=>(hnew b h).1) (fun b h=>h.elim (fun h=>Nat.lt_of_lt_of_le (hr.slt b h) hb.size) fun h=>(hnew b h).2)
 refine ⟨v,_,rfl,k1,hbd,k2,?_⟩
 simp only [RdV]
 have hsz':∀ s∈sortN ks,s.size≤maxLen:=fun s hs=>hsz s ((sortN_perm ks).mem_iff.1 hs)
 refine rdT_row (S:=fun _=>False) (e:=9) (cells:=(sortN ks).map Value.string) ?_ ?_ ?_ (fun _ h=>h.elim) (fun b hb' => .inr hb')
 ·rw [List.length_map]
  exact ownsRow_base_a hrow (Nat.zero_le _)
 ·have:(List.map (fun k=>[T.lit (.string k)]) (sortN ks)).flatten=(sortN ks).map fun s=>T.lit (.string s):=by
   induction sortN ks with
   | nil=>rfl
   | cons x l ih=>rw [List.map_cons,List.flatten_cons,ih];rfl
  rw [this]
  exact rdTs_lits hsz'
 ·intro x hx
  obtain ⟨s,_,rfl⟩:=List.mem_map.1 hx
  rfl
open Go.RowKit
set_option maxRecDepth 4000
theorem put_med (k:Value) (m:MediumR) (es:List Ent):putE k (.agg (vmed m)) (tEs es)=tEs (putT k (medC m) es):=putE_tEs k (medC m) es
theorem put_seq (k:Value) (s:SequenceR) (es:List Ent):putE k (vsequence s) (tEs es)=tEs (putT k (seqC s) es):=putE_tEs k (seqC s) es
theorem kinds_M (l:List MediumR):kindsT .string (catM l)=true:=kindsT_str (mapOf_str _ _ _)
theorem kinds_S (l:List SequenceR):kindsT .string (catS l)=true:=kindsT_str (mapOf_str _ _ _)
theorem lend_M (l:List MediumR) (h:Heap) (n:Nat):lendE (lendC h n) (tEs (catM l))=some (catM l):=lendE_t _ (lendC_t h n) _ (entsOk_mapOf _ _ (fun _=>rfl) _)
theorem lend_S (l:List SequenceR) (h:Heap) (n:Nat):lendE (lendC h n) (tEs (catS l))=some (catS l):=lendE_t _ (lendC_t h n) _ (entsOk_mapOf _ _ (fun _=>rfl) _)
attribute [go_sem] kinds_M kinds_S lend_M lend_S
theorem cCat (p:ProjR) (h1:p.media.length≤16) (h2:p.seqs.length≤16):CPure Tryz.prog 41 [vproj p] (vcat p):=by
 refine cpure_of Tryz.xen41 Tryz.func41 rfl Tryz.ntmps41 (by rw [Tryz.results41]) (aw_ok _ ?_)
 simp only [go_sem,simprocAttr]
 refine awp_loop_f (fun (k:Nat) σ => { σ with fr := σ.fr.set 14 (vint k),h := σ.h.set 2 (.map (tEs (catM (p.media.take k)))) }) (fun k=>k≤p.media.length) (fun k=>p.media.length - k) 0 (weak_self ?_) (Nat.zero_le _) ?_
 ·simp only [go_sem,simprocAttr]<;>simp [catM,mapOf,tEs]
 ·intro k hk
  refine aw_ok _ ?_
  simp only [go_sem,simprocAttr]
  refine ⟨fun hlt=>?_,fun hge=>?_⟩
  ·simp only [bxx] at hlt
   unfold awS
   simp only [go_sem,simprocAttr]
   refine ⟨⟨by omega,by omega⟩,k+1,weak_self ?_,by omega,by omega⟩
   simp only [go_sem,simprocAttr]
   rw [put_med,wrap1 (show k<9223372036854775807 by omega)]
   unfold catM
   rw [mapOf_take _ _ (show k<p.media.length by omega)]
   simp
  ·simp only [bxx] at hge
   unfold awS
   simp only [go_sem,simprocAttr]
   rw [List.take_of_length_le (show p.media.length≤k by omega)]
   refine awp_loop_f (fun (k:Nat) σ => { σ with fr := σ.fr.set 27 (vint k),h := σ.h.set 3 (.map (tEs (catS (p.seqs.take k)))) }) (fun k=>k≤p.seqs.length) (fun k=>p.seqs.length - k) 0 (weak_self ?_) (Nat.zero_le _) ?_
   ·simp only [go_sem,simprocAttr]<;>simp [catS,mapOf,tEs]
   ·intro j hj
    refine aw_ok _ ?_
    simp only [go_sem,simprocAttr]
    refine ⟨fun hlt=>?_,fun hge=>?_⟩
    ·simp only [bxx] at hlt
     unfold awS
     simp only [go_sem,simprocAttr]
     refine ⟨⟨by omega,by omega⟩,j+1,weak_self ?_,by omega,by omega⟩
     simp only [go_sem,simprocAttr]
     have e1:=put_seq (.string (p.seqs.getD j default).name) (p.seqs.getD j default) (catS (p.seqs.take j))
     unfold vsequence at e1
     rw [e1,wrap1 (show j<9223372036854775807 by omega)]
     unfold catS
     rw [mapOf_take _ _ (show j<p.seqs.length by omega)]
     simp
    ·simp only [bxx] at hge
     unfold awS
     simp only [go_sem,simprocAttr]
     rw [List.take_of_length_le (show p.seqs.length≤j by omega)]
def clipsOf (s:SequenceR):List ClipR:=(s.video++s.sound).flatten
theorem cClips (s:SequenceR):CPure Tryz.prog 81 [vsequence s] (.clo 115 [.elem 9 (SequenceR.c s) [SequenceR.c s] 0 0]):=by
 refine cpure_of Tryz.xen81 Tryz.func81 rfl Tryz.ntmps81 (by rw [Tryz.results81]) (aw_ok _ ?_)
 simp only [go_sem,simprocAttr]<;>rfl
theorem cConcatTr (d:List T) (a b:List (List ClipR)) (ha:a.length≤8) (hb:b.length≤8):CPure Tryz.prog 116 [.t (.list 1 d [[ttracks a],[ttracks b]])] (.t (ttracks (a++b))):=by
 refine cpure_of Tryz.xen116 Tryz.func116 rfl Tryz.ntmps116 (by rw [Tryz.results116]) (aw_ok _ ?_)
 simp only [go_sem,simprocAttr]
 have c2:((2:Nat):Int)=2:=rfl
 have w1:IntKind.i64.wrap 1=1:=by decide
 have w2:IntKind.i64.wrap 2=2:=by decide
 have e0:IntKind.i64.wrap (0+(a.length:Int))=a.length:=by rw [wrap64 (by omega) (by omega)];omega
 have e0':IntKind.i64.wrap (a.length:Int)=a.length:=by rw [wrap64 (by omega) (by omega)]
 have e1:IntKind.i64.wrap ((a.length:Int)+(b.length:Int))=((a++b).length:Nat):=by rw [wrap64 (by omega) (by omega),List.length_append];omega
 have n0 : ¬ ((a.length:Int)<0):=by omega
 have n1 : ¬ ((((a++b).length:Nat):Int)<0):=by omega
 refine awp_loopL ?_
 refine awpL_step (aw_ok _ ?_)
 simp only [go_sem,simprocAttr,decide_true,decide_false,nth,Option.getD_some,List.getElem?_cons_zero,List.getElem?_cons_succ,w1,w2,c2,e0,e0',e1,n0,forall_const,false_implies,true_implies]
 refine awpL_step (aw_ok _ ?_)
 simp only [go_sem,simprocAttr,decide_true,decide_false,nth,Option.getD_some,List.getElem?_cons_zero,List.getElem?_cons_succ,w1,w2,c2,e0,e0',e1,n1,forall_const,false_implies,true_implies]
 refine awpL_step (aw_ok _ ?_)
 simp only [go_sem,simprocAttr,decide_true,decide_false,nth,Option.getD_some,List.getElem?_cons_zero,List.getElem?_cons_succ,w1,w2,c2,e0,e0',e1,n1,forall_const,false_implies,true_implies]
 refine igrowTr (n:=(a++b).length) (by rw [List.length_append];omega) (trackC []) ?_
 simp only [go_sem,simprocAttr]
 refine awp_loopL ?_
 refine awpL_step (aw_ok _ ?_)
 simp only [go_sem,simprocAttr,decide_true,decide_false,nth,Option.getD_some,List.getElem?_cons_zero,List.getElem?_cons_succ,w1,w2,c2,forall_const,false_implies,true_implies]
 refine ⟨by unfold maxLen;omega,?_⟩
 refine awpL_step (aw_ok _ ?_)
 simp only [go_sem,simprocAttr,decide_true,decide_false,nth,Option.getD_some,List.getElem?_cons_zero,List.getElem?_cons_succ,w1,w2,c2,forall_const,false_implies,true_implies]
 refine ⟨⟨by unfold maxLen;omega,by omega⟩,?_⟩
 refine awpL_step (aw_ok _ ?_)
 simp only [go_sem,simprocAttr,decide_true,decide_false,nth,Option.getD_some,List.getElem?_cons_zero,List.getElem?_cons_succ,w1,w2,c2,forall_const,false_implies,true_implies]
 rw [List.map_append]
end Go.Proofs.YtkjdkbmfaamhaaaGreat
