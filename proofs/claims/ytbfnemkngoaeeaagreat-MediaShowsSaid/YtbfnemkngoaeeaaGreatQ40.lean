/- Proved here: the library function maps.Keys of this program (names to names) is the library's; conditions stand in each theorem. -/
import Derived.Shelf.SlIter.Nil
import Derived.Shelf.SortM.Plain
import Derived.Shelf.SortM.SortNone
import Derived.Test.YtbfnemkngoaeeaaGreatProg
import Derived.Test.YtbfnemkngoaeeaaGreatQ12
set_option linter.unusedSimpArgs false
set_option linter.unusedVariables false
set_option linter.unusedSectionVars false
set_option linter.unnecessarySimpa false
namespace Go.Proofs.YtbfnemkngoaeeaaGreat
open Go.Proofs Go.RowKit Go.Maps Go.Sort Go.Shelf
def Gx:Go.Shelf.Ren:=⟨fun | 7=>60 | 10=>130 | n=>n,fun | 23=>127 | 26=>9 | 3=>9 | 28=>132 | 0=>0 | 27=>131 | 33=>206 | 4=>4 | n=>n,fun | n=>n⟩
theorem aUv:Go.Proofs.SlLaysZ.n7 Tryz.prog Gx where
 mixed:=by kernel_rfl
 f7 := ⟨"maps.Keys[map[string]string,string,string]", by decide, Tryz.func60.trans (congrArg some (by kernel_rfl))⟩
 f10 := ⟨"maps.Keys[map[string]string,string,string]$1", by decide, Tryz.func130.trans (congrArg some (by kernel_rfl))⟩
 t0:=Tryz.underlying0
 a0:=Tryz.isAgg0
 z0:=Tryz.sizeOf0
 v0:=Tryz.zeroValue0
 t4:=Tryz.underlying4
 a4:=Tryz.isAgg4
 z4:=Tryz.sizeOf4
 v4:=Tryz.zeroValue4
 t23:=Tryz.underlying127
 a23:=Tryz.isAgg127
 z23:=Tryz.sizeOf127
 v23:=Tryz.zeroValue127
 t26:=Tryz.underlying9
 a26:=Tryz.isAgg9
 z26:=Tryz.sizeOf9
 v26:=Tryz.zeroValue9
 t27:=Tryz.underlying131
 a27:=Tryz.isAgg131
 z27:=Tryz.sizeOf131
 v27:=Tryz.zeroValue131
 t28:=Tryz.underlying132
 a28:=Tryz.isAgg132
 z28:=Tryz.sizeOf132
 v28:=Tryz.zeroValue132
 t33:=Tryz.underlying206
 a33:=Tryz.isAgg206
 z33:=Tryz.sizeOf206
 v33:=Tryz.zeroValue206
open Go.RowKit
set_option maxRecDepth 4000
open Go.Maps Go.Sort Go.Shelf Go.WideShapes
set_option maxHeartbeats 2000000 in
theorem aJ7 {w:World} {b0 r:Nat} {ty:TypeId} {entries:Array MapEntry} {clock:Nat} {ks:List ByteArray} (hb0:w.heap[b0]? = some (.cells #[.map (some r)] ty (0,0))) (hr0:w.heap[r]? = some (.map entries clock))
  (hbn:(∀ e∈entries.toList,e.born<clock)∧(entries.toList.map (·.born)).Nodup) (hks:entries.toList.map (·.key)=ks.map Value.string) (hnd:ks.Nodup) (hsz:∀ k∈ks,k.size≤maxLen) (hlen:ks.length≤1000000) :
  Calls Tryz.prog 59 #[.func (.func 130) #[] #[.pointer (some ⟨b0,0,none⟩)]] w fun e w' => ∃ v,e = .returned v ∧
   w'.ownsRow w.heap.size 9 1 v (cU ks).length ((cU ks).map Value.string)∧Below w.heap.size w w':=by
 have hesz:entries.size=ks.length:=by
  have:=congrArg List.length hks;simpa using this
 have hkind:Tryz.prog.underlying 9=some .string:=Tryz.underlying9;have hmem:∀ x∈entries.toList, ∃ s∈ks,x.key = .string s:=fun x hx=>by
  have h1:x.key∈entries.toList.map (·.key):=List.mem_map_of_mem hx;rw [hks,List.mem_map] at h1;obtain ⟨s,h2,h3⟩:=h1;exact ⟨s,h2,h3.symm⟩
 let R:Value→Option (DataW Unit×List MemPlace):=fun _=>some (.nil,[])
 have hstr:∀ l:List ByteArray,l.Nodup→(l.map Value.string).Nodup:=fun l h=>by
  refine List.pairwise_map.2 (h.imp fun hne e=>hne ?_);injection e
 have hF:Go.WideElems.Fit Tryz.prog 9 R entries clock:=⟨by rw [hesz];unfold maxLen;omega,⟨hbn.1,hbn.2,by rw [hks];exact hstr _ hnd⟩,fun x hx=>by
  obtain ⟨s,h1,h2⟩:=hmem x hx;exact ⟨_,Go.WideElems.rd_mk (key:=x.key) (val:=x.val) (born:=x.born) (by rw [h2];exact aBj hkind (hsz s h1)) rfl⟩⟩
 have hown:w.ownsMap Tryz.prog 9 R r ks.length (.map ((entries.toList.map (Go.WideElems.rg Tryz.prog 9 R)).foldr DataW.insert [])):=⟨entries,clock,hr0,hF,by omega,rfl⟩
 have hcell:w.cell? ⟨b0,0,none⟩=some (.map (some r)):=by simp [World.cell?,hb0]
 have hlt:b0<w.heap.size:=(Array.getElem?_eq_some_iff.1 hb0).1;have hsize:Maps.size (DataW.map ((entries.toList.map (Go.WideElems.rg Tryz.prog 9 R)).foldr DataW.insert []):DataW Unit)=ks.length:=by
  show List.length _=_
  rw [List.Perm.length_eq (sorted_perm _),List.length_map,Array.length_toList,hesz]
 have hseq:=AnyZ.keys_gives (ρ := Gx) { aUv with } Fence.wide 2 trivial rfl (by omega) b0 r ks.length _ w hlt hcell hown;rw [hsize] at hseq;have hperm:(strKeys (DataW.map ((entries.toList.map (Go.WideElems.rg Tryz.prog 9 R)).foldr DataW.insert []):DataW Unit)).Perm (ks.map fun s=>s.data.toList):=by
  show (List.map _ _).Perm _
  refine (List.Perm.map _ (sorted_perm _)).trans ?_;rw [List.map_map];have:entries.toList.map ((fun p:Lit×DataW Unit=>strOf p.1) ∘ Go.WideElems.rg Tryz.prog 9 R)=(entries.toList.map (·.key)).map fun v=>(Ds v).data.toList:=by
   rw [List.map_map];refine List.map_congr_left fun x hx=>?_
   obtain ⟨s,h1,h2⟩:=hmem x hx;simp only [Function.comp_apply];have h3:Go.WideElems.rd Tryz.prog 9 R x=some (.string s.data.toList,DataW.nil):=Go.WideElems.rd_mk (key:=x.key) (val:=x.val) (born:=x.born) (kl := .string s.data.toList) (yv:=(DataW.nil,[])) (by rw [h2];exact aBj hkind (hsz s h1)) rfl;rw [Go.WideElems.rg_of h3,h2];rfl
  rw [this,hks,List.map_map];exact .refl _
 have hS:=AnyZ.sorted_in (ρ := rJ) Wp Fence.wide 5 trivial trivial trivial trivial rfl (by omega) (aLp _) (enters_of Tryz.func129 (by kernel_rfl) rfl) 130 #[.pointer (some ⟨b0,0,none⟩)] trivial (enters_of Tryz.func130 (by kernel_rfl) rfl) _ ks.length (by unfold maxLen;omega) (by omega) w hseq;refine (callsIn_wide.1 hS).mono ?_;rintro e w' ⟨v,ss,rfl,hp,hrow,hnil,hb⟩;refine ⟨v,rfl,?_,hb⟩;have e1:ss.mergeSort leB=(ks.map fun s=>s.data.toList).mergeSort leB:=mergeSort_of_perm (hp.trans hperm);have e2:(ss.mergeSort leB).map encStr=(cU ks).map Value.string:=by
  rw [e1,Rr];rfl
 have e3:ss.length=(cU ks).length:=by
  rw [(hp.trans hperm).length_eq,(cK ks).length_eq,List.length_map]
 rw [← e3, ← e2];exact hrow
theorem uE (es:List (Value×V)) (ks:List ByteArray) (d:List T) (hk:es.map (·.1)=ks.map Value.string) (hnd:ks.Nodup) (hsz:∀ k∈ks,k.size≤maxLen) (hlen:ks.length≤1000000) :
  CIO Tryz.prog 59 2 [(0, .box [.own 1]),(1, .map es)] [.clo 130 [.own 0]] (.t (.list 1 d ((cU ks).map fun k=>[.lit (.string k)]))) [(0, .box [.own 1]),(1, .map es)] 2:=by
 refine ⟨Tryz.X59,fun E w vs hr hbd hargs=>?_⟩;obtain ⟨hv0,hat0,b0,vs0,ty,rfl,hheap0,hrd0,hone0⟩:=hr.has 0 (.box [.own 1]) rfl;obtain ⟨hv1,hat1,r,entries,clock,rfl,hheap1,hrd1,hborn⟩:=hr.has 1 (.map es) rfl;have h0:∃ u,vs0 = #[u]∧RdV w E (.own 1) u:=by
  obtain ⟨vl⟩:=vs0
  match vl,hrd0 with
  | [u],h=>exact ⟨u,rfl,by simpa only [RdVs,and_true] using h⟩
  | [],h=>simp only [RdVs] at h
  | _::_::_,h=>simp only [RdVs,and_false] at h
 obtain ⟨u,rfl,hu⟩:=h0;simp only [RdV] at hu;have hu':=hu.2.2 _ (.inl hat1);subst hu';obtain ⟨v,rfl,hv⟩:∃ v,vs = [v]∧RdV w E (.clo 130 [.own 0]) v:=by
  match vs,hargs with
  | [v],h=>exact ⟨v,rfl,by simpa only [RdVs,and_true] using h⟩
  | [],h=>simp only [RdVs] at h
  | _::_::_,h=>simp only [RdVs,and_false] at h
 simp only [RdV] at hv;obtain ⟨cs,rfl,hcs⟩:=hv;obtain ⟨p,rfl,hp⟩:∃ p,cs = #[p]∧RdV w E (.own 0) p:=by
  obtain ⟨cl⟩:=cs
  match cl,hcs with
  | [u],h=>exact ⟨u,rfl,by simpa only [RdVs,and_true] using h⟩
  | [],h=>simp only [RdVs] at h
  | _::_::_,h=>simp only [RdVs,and_false] at h
 simp only [RdV] at hp;have hb2:=hp.2.2 _ (.inl hat0);subst hb2;refine (aJ7 hheap0 hheap1 hborn (by rw [Jq hrd1,hk]) hnd hsz hlen).mono ?_;rintro e w' ⟨v,rfl,hrow,hb⟩;have hnew:∀ b,aQ v=some b→w.heap.size≤b∧b<w'.heap.size:=fun b hb'=>by
  rcases hrow.2 with ⟨rfl,_⟩ | ⟨g,cap,cur,rfl,h1,h2,_⟩
  ·cases hb'
  ·injection hb' with hb';subst hb';exact ⟨h1,(Array.getElem?_eq_some_iff.1 h2).1⟩
 obtain ⟨k1,k2⟩:=hr.later (S':=fun b=>E.S b∨aQ v=some b) hb (fun _ h => .inl h) (fun b h=>h.imp id fun h=>(hnew b h).1) (fun b h=>h.elim (fun h=>Nat.lt_of_lt_of_le (hr.slt b h) hb.size) fun h=>(hnew b h).2);refine ⟨v,_,rfl,k1,hbd,k2,?_⟩;simp only [RdV];have hsz':∀ s∈cU ks,s.size≤maxLen:=fun s hs=>hsz s ((cK ks).mem_iff.1 hs)
 refine Bn (S:=fun _=>False) (e:=9) (cells:=(cU ks).map Value.string) ?_ ?_ ?_ (fun _ h=>h.elim) (fun b hb' => .inr hb')
 ·rw [List.length_map];exact ownsRow_base_a hrow (Nat.zero_le _)
 ·have:(List.map (fun k=>[T.lit (.string k)]) (cU ks)).flatten=(cU ks).map fun s=>T.lit (.string s):=by
   induction cU ks with
   | nil=>rfl
   | cons x l ih=>rw [List.map_cons,List.flatten_cons,ih];rfl
  rw [this];exact Jp hsz'
 ·intro x hx;obtain ⟨s,_,rfl⟩:=List.mem_map.1 hx;rfl
end Go.Proofs.YtbfnemkngoaeeaaGreat
