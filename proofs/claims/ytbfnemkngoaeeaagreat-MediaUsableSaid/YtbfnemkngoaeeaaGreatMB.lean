/- Proved here: Plain facts on lists that are searched by a key, and on the states of media, their steps and runs, for use in the proofs of the given statements; conditions stand in each theorem. -/
import Derived.Test.YtbfnemkngoaeeaaGreatMA
import Derived.Test.YtbfnemkngoaeeaaGreatZH
set_option linter.unusedSimpArgs false
set_option linter.unusedVariables false
set_option linter.unusedSectionVars false
set_option linter.unnecessarySimpa false
namespace Go.Proofs.YtbfnemkngoaeeaaGreat
open Go.RowKit
set_option maxRecDepth 4000
theorem mem_atS {α : Type} [Inhabited α] {l:List α} {x : α} (h:x∈l):∃ i, ∃ _:i<l.length,l.getD i default=x:=by
 obtain ⟨i,hi,rfl⟩:=List.getElem_of_mem h
 exact ⟨i,hi,getD_of_lt hi⟩
structure EventR where
 kind:Int
 media:ByteArray
 file:ByteArray
 proxy:ByteArray
 sum:Int
 deriving Inhabited
structure OutR where
 media:ByteArray
 status:Int
 deriving Inhabited
def validPx (s:ByteArray):Bool:=emp s||vName s
def validEv (e:EventR):Bool :=
 if e.kind=1 then vName e.file&&emp e.media&&emp e.proxy
 else if e.kind=2 then vName e.file&&emp e.media&&emp e.proxy&&(e.sum==0)
 else if e.kind=3∨e.kind=4 then vName e.media&&vName e.file&&emp e.proxy&&(e.sum==0)
 else if e.kind=5 then vName e.media&&validPx e.proxy&&emp e.file&&(e.sum==0)
 else false
def hereB (fs:List FileR) (s:ByteArray):Bool:=decide (0≤fidx fs s)&&(fileAt fs (fidx fs s)).present
def arriveS (s:StateR) (nm:ByteArray) (sum:Int):Int×StateR :=
 if 0≤fidx s.files nm then (0,⟨s.files.set (fidx s.files nm).toNat ⟨nm,sum,true⟩,s.links⟩)
 else if 32≤s.files.length then (18,s)
 else (0,⟨s.files ++ [⟨nm,sum,true⟩],s.links⟩)
def leaveS (s:StateR) (nm:ByteArray):Int×StateR :=
 if hereB s.files nm then (0,⟨s.files.set (fidx s.files nm).toNat { fileAt s.files (fidx s.files nm) with present:=false },s.links⟩) else (7,s)
def connectS (s:StateR) (md nm:ByteArray):Int×StateR :=
 if 0≤lidx s.links md then (8,s)
 else if hereB s.files nm then
  if 16≤s.links.length then (18,s)
  else (0,⟨s.files,s.links ++ [⟨md,nm,(fileAt s.files (fidx s.files nm)).sum,⟨#[]⟩⟩]⟩)
 else (7,s)
def relinkS (s:StateR) (md nm:ByteArray):Int×StateR :=
 if lidx s.links md<0 || !hereB s.files nm then (7,s)
 else (0,⟨s.files,s.links.set (lidx s.links md).toNat { s.links.getD (lidx s.links md).toNat default with file:=nm,sum:=(fileAt s.files (fidx s.files nm)).sum }⟩)
def attachS (s:StateR) (md px:ByteArray):Int×StateR :=
 if px.toList==md.toList then (1,s)
 else if lidx s.links md<0||(!emp px&&decide (lidx s.links px<0)) then (7,s)
 else (0,⟨s.files,s.links.set (lidx s.links md).toNat { s.links.getD (lidx s.links md).toNat default with proxy:=px }⟩)
def performS (s:StateR) (e:EventR):Int×StateR :=
 if e.kind=1 then arriveS s e.file e.sum
 else if e.kind=2 then leaveS s e.file
 else if e.kind=3 then connectS s e.media e.file
 else if e.kind=4 then relinkS s e.media e.file
 else attachS s e.media e.proxy
def outF (s t:StateR) (l:LinkR):Option OutR :=
 if status t l.media != status s l.media then some ⟨l.media,status t l.media⟩ else none
def outsTo (s t:StateR) (k:Nat):List OutR:=(t.links.take k).filterMap (outF s t)
def outsS (s t:StateR):List OutR:=t.links.filterMap (outF s t)
theorem outsTo_succ {s t:StateR} {k:Nat} (h:k<t.links.length):outsTo s t (k+1)=outsTo s t k++(outF s t (t.links.getD k default)).toList:=by
 unfold outsTo
 rw [List.take_succ_eq_append_getElem h,List.filterMap_append,getD_of_lt h]
 cases hh:outF s t t.links[k]<;>simp [hh]
theorem outsTo_len (s t:StateR) (k:Nat):(outsTo s t k).length≤k:=by
 unfold outsTo
 exact Nat.le_trans (List.length_filterMap_le _ _) (List.length_take_le _ _)
def mStep (s:StateR) (e:EventR):StateR×List OutR×Int :=
 if validSt s&&validEv e then
  if (performS s e).1=0 then ((performS s e).2,outsS s (performS s e).2,0) else (⟨[],[]⟩,[],(performS s e).1)
 else (⟨[],[]⟩,[],1)
def runStep (acc:StateR×List OutR×List Int) (e:EventR):StateR×List OutR×List Int :=
 if (mStep acc.1 e).2.2=0 then ((mStep acc.1 e).1,acc.2.1++(mStep acc.1 e).2.1,acc.2.2 ++ [0]) else (acc.1,acc.2.1,acc.2.2 ++ [(mStep acc.1 e).2.2])
def runFrom (s:StateR) (l:List EventR):StateR×List OutR×List Int:=l.foldl runStep (s,[],[])
def runS (s:StateR) (l:List EventR):StateR×List OutR×List Int :=
 if validSt s then runFrom s l else (⟨[],[]⟩,[],List.replicate l.length 1)
def keyP {α : Type} (key : α → ByteArray) (n:ByteArray) : α → Bool:=fun x=>decide (key x=n)
theorem idxFrom_congr {α : Type} {p q : α → Bool} (h:∀ x,p x=q x) (l:List α) (k:Nat):idxFrom p l k=idxFrom q l k:=by rw [funext h]
theorem fidx_key (fs:List FileR) (n:ByteArray):fidx fs n=idxFrom (keyP FileR.name n) fs 0:=by
 unfold fidx idx keyP fileP
 exact idxFrom_congr (fun x=>beq_bytesL _ _) _ _
theorem lidx_key (ls:List LinkR) (n:ByteArray):lidx ls n=idxFrom (keyP LinkR.media n) ls 0:=by
 unfold lidx idx keyP linkP
 exact idxFrom_congr (fun x=>beq_bytesL _ _) _ _
section
variable {α : Type} {key : α → ByteArray}
def lookK (key : α → ByteArray) (xs:List α) (n:ByteArray):Option α := xs.find? (keyP key n)
theorem lookK_cons (x : α) (xs:List α) (n:ByteArray):lookK key (x::xs) n=if key x=n then some x else lookK key xs n:=by
 unfold lookK keyP
 rw [List.find?_cons]
 by_cases h:key x=n<;>simp [h]
theorem look_neg:∀ {xs:List α} {k:Nat} {n:ByteArray},idxFrom (keyP key n) xs k<0 ↔ lookK key xs n=none
 | [],k,n=>by simp [idxFrom,lookK]
 | x::r,k,n=>by
  rw [lookK_cons]
  unfold idxFrom
  by_cases h:key x=n
  ·simp [keyP,h]
  ·simp only [keyP,h,decide_false,Bool.false_eq_true,if_false]
   exact look_neg
theorem look_at [Inhabited α]:∀ {xs:List α} {k:Nat} {n:ByteArray}, ¬ idxFrom (keyP key n) xs k<0→lookK key xs n=some (xs.getD ((idxFrom (keyP key n) xs k).toNat - k) default)∧(k:Int)≤idxFrom (keyP key n) xs k
 | [],k,n,h=>by simp [idxFrom] at h
 | x::r,k,n,h=>by
  rw [lookK_cons]
  unfold idxFrom at h ⊢
  by_cases h1:key x=n
  ·simp [keyP,h1]
  ·simp only [keyP,h1,decide_false,Bool.false_eq_true,if_false] at h ⊢
   obtain ⟨e1,e2⟩:=look_at (k:=k+1) h
   refine ⟨?_,by omega⟩
   rw [e1]
   have:(idxFrom (keyP key n) r (k+1)).toNat - k=(idxFrom (keyP key n) r (k+1)).toNat - (k+1)+1:=by omega
   change _=some ((x::r).getD ((idxFrom (keyP key n) r (k+1)).toNat - k) default)
   rw [this,List.getD_cons_succ]
theorem look_set [Inhabited α] (y : α):∀ {xs:List α} {k:Nat} {m:ByteArray},key y=m → ¬ idxFrom (keyP key m) xs k<0 → ∀ n,lookK key (xs.set ((idxFrom (keyP key m) xs k).toNat - k) y) n=if m=n then some y else lookK key xs n
 | [],k,m,_,h=>by simp [idxFrom] at h
 | x::r,k,m,hy,h=>by
  intro n
  by_cases h1:key x=m
  ·have e:(idxFrom (keyP key m) (x::r) k).toNat - k=0:=by simp [idxFrom,keyP,h1]
   rw [e,List.set_cons_zero,lookK_cons,lookK_cons,hy,h1]
   split<;>rfl
  ·have e0:idxFrom (keyP key m) (x::r) k=idxFrom (keyP key m) r (k+1):=by simp [idxFrom,keyP,h1]
   rw [e0] at h ⊢
   have e2:=(look_at h).2
   have:(idxFrom (keyP key m) r (k+1)).toNat - k=(idxFrom (keyP key m) r (k+1)).toNat - (k+1)+1:=by omega
   rw [this,List.set_cons_succ,lookK_cons,lookK_cons,look_set y hy h]
   by_cases h2:key x=n
   ·subst h2
    rw [if_pos rfl,if_pos rfl,if_neg (fun h=>h1 h.symm)]
   ·simp [h2]
theorem look_snoc (y : α) {m:ByteArray} (hy:key y=m) {xs:List α} (h:lookK key xs m=none) (n:ByteArray):lookK key (xs ++ [y]) n=if m=n then some y else lookK key xs n:=by
 unfold lookK at *
 rw [List.find?_append]
 by_cases h1:m=n
 ·subst h1
  simp [h,keyP,hy]
 ·have:keyP key n y=false:=by simp [keyP,hy,h1]
  simp [this,h1]
theorem look_key {xs:List α} {n:ByteArray} {x : α} (h:lookK key xs n=some x):key x=n∧x∈xs:=by
 unfold lookK at h
 exact ⟨by simpa [keyP] using List.find?_some h,List.mem_of_find?_eq_some h⟩
theorem look_none {xs:List α} {n:ByteArray} (h:lookK key xs n=none):∀ x∈xs,key x≠n:=by
 intro x hx e
 have:=List.find?_eq_none.1 h x hx
 simp [keyP,e] at this
theorem set_keys [Inhabited α] {xs:List α} {m:ByteArray} {y : α} (hy:key y=m) (h : ¬ idxFrom (keyP key m) xs 0<0):(xs.set (idxFrom (keyP key m) xs 0).toNat y).map key=xs.map key:=by
 rw [List.map_set]
 obtain ⟨e1,_⟩:=look_at h
 obtain ⟨e2,_⟩:=look_key e1
 rcases idxFrom_range (keyP key m) xs 0 with h3 | h3
 ·rw [h3] at h;omega
 ·have hj:(idxFrom (keyP key m) xs 0).toNat<xs.length:=by omega
  have:xs.getD ((idxFrom (keyP key m) xs 0).toNat - 0) default=xs[(idxFrom (keyP key m) xs 0).toNat]:=by simp [List.getD_eq_getElem?_getD,hj]
  rw [this] at e2
  rw [hy]
  have e3:m=(xs.map key)[(idxFrom (keyP key m) xs 0).toNat]'(by simpa using hj):=by rw [List.getElem_map];exact e2.symm
  conv=>lhs;arg 3;rw [e3]
  exact List.set_getElem_self _
end
abbrev fileL (fs:List FileR) (n:ByteArray):Option FileR:=lookK FileR.name fs n
abbrev linkL (ls:List LinkR) (n:ByteArray):Option LinkR:=lookK LinkR.media ls n
def statL (f:Option FileR) (sum:Int):Int :=
 match f with
 | none=>3
 | some f=>if !f.present then 3 else if f.sum != sum then 2 else 1
def statusL (fs:List FileR) (l:Option LinkR):Int :=
 match l with
 | none=>0
 | some l=>statL (fileL fs l.file) l.sum
theorem fidx_neg {fs:List FileR} {n:ByteArray}:fidx fs n<0 ↔ fileL fs n=none:=by rw [fidx_key];exact look_neg
theorem lidx_neg {fs:List LinkR} {n:ByteArray}:lidx fs n<0 ↔ linkL fs n=none:=by rw [lidx_key];exact look_neg
theorem fileL_at {fs:List FileR} {n:ByteArray} (h : ¬ fidx fs n<0):fileL fs n=some (fileAt fs (fidx fs n)):=by
 rw [fidx_key] at h ⊢
 exact (look_at h).1
theorem linkL_at {fs:List LinkR} {n:ByteArray} (h : ¬ lidx fs n<0):linkL fs n=some (fs.getD (lidx fs n).toNat default):=by
 rw [lidx_key] at h ⊢
 exact (look_at h).1
theorem hereB_look (fs:List FileR) (n:ByteArray):hereB fs n=match fileL fs n with | none=>false | some f=>f.present:=by
 unfold hereB
 by_cases h1:fidx fs n<0
 ·rw [fidx_neg.1 h1];simp [h1];omega
 ·rw [fileL_at h1];simp;omega
structure Ok (s:StateR):Prop where
 nf:s.files.length≤32
 nl:s.links.length≤16
 fk:(s.files.map FileR.name).Nodup
 lk:(s.links.map LinkR.media).Nodup
 fn:∀ f∈s.files,vName f.name=true
 ln:∀ l∈s.links,vName l.media=true∧vName l.file=true∧(emp l.proxy=true∨(vName l.proxy=true∧l.proxy≠l.media))
theorem not_before {α : Type} [Inhabited α] {xs:List α} {key : α → ByteArray}:(xs.map key).Nodup ↔ ∀ k,k<xs.length→memB (key (xs.getD k default)) ((xs.take k).map key)=false:=by
 rw [List.nodup_iff_pairwise_ne,List.pairwise_iff_getElem]
 constructor
 ·intro h k hk
  rw [Bool.eq_false_iff]
  intro hm
  obtain ⟨i,hi,hn⟩:=(mem_take (by omega)).1 hm
  have:=h i k (by rw [List.length_map];omega) (by rw [List.length_map];omega) hi
  rw [List.getElem_map,List.getElem_map, ← getD_of_lt (by omega), ← getD_of_lt hk] at this
  exact this hn
 ·intro h i j hi hj hij e
  rw [List.length_map] at hi hj
  rw [List.getElem_map,List.getElem_map, ← getD_of_lt hi, ← getD_of_lt hj] at e
  have:=h j hj
  rw [(mem_take (by omega)).2 ⟨i,hij,e⟩] at this
  cases this
theorem ok_iff (s:StateR):validSt s=true ↔ Ok s:=by
 unfold validSt
 simp only [Bool.and_eq_true,decide_eq_true_eq,allR_iff]
 constructor
 ·rintro ⟨⟨⟨h3,h4⟩,h1⟩,h2⟩
  refine ⟨by omega,by omega,not_before.2 fun k hk=>?_,not_before.2 fun k hk=>?_,fun f hf=>?_,fun l hl=>?_⟩
  ·have:=h1 k hk
   simp only [okF,Bool.and_eq_true,Bool.not_eq_true'] at this
   exact this.2
  ·have:=h2 k hk
   simp only [okL,Bool.and_eq_true,Bool.not_eq_true'] at this
   exact this.1.1.1.2
  ·obtain ⟨k,hk,rfl⟩:=mem_atS hf
   have:=h1 k hk
   simp only [okF,Bool.and_eq_true] at this
   exact this.1
  ·obtain ⟨k,hk,rfl⟩:=mem_atS hl
   have:=h2 k hk
   simp only [okL,Bool.and_eq_true,Bool.or_eq_true,Bool.not_eq_true',beq_bytesL,decide_eq_false_iff_not] at this
   refine ⟨this.1.1.1.1,this.1.1.2,?_⟩
   rcases this.1.2 with h | h
   ·exact .inl h
   ·exact .inr ⟨h,this.2⟩
 ·rintro ⟨h3,h4,h5,h6,h7,h8⟩
  refine ⟨⟨⟨by omega,by omega⟩,fun k hk=>?_⟩,fun k hk=>?_⟩
  ·simp only [okF,Bool.and_eq_true,Bool.not_eq_true']
   exact ⟨h7 _ (mem_getD hk),not_before.1 h5 k hk⟩
  ·have:=h8 (s.links.getD k default) (mem_getD hk)
   simp only [okL,Bool.and_eq_true,Bool.or_eq_true,Bool.not_eq_true']
   refine ⟨⟨⟨⟨this.1,not_before.1 h6 k hk⟩,this.2.1⟩,?_⟩,?_⟩
   ·rcases this.2.2 with h | h
    ·exact .inl h
    ·exact .inr h.1
   ·rcases this.2.2 with h | h
    ·exact emp_no h this.1
    ·rw [beq_bytesL,decide_eq_false_iff_not]
     exact h.2
theorem emp_iff (s:ByteArray):emp s=decide (s=⟨#[]⟩):=beq_bytesL s ⟨#[]⟩
theorem mem_set_or {α : Type} {l:List α} {i:Nat} {a x : α} (h:x∈l.set i a):x∈l∨x=a:=by
 rcases List.mem_or_eq_of_mem_set h with h | h
 ·exact .inl h
 ·exact .inr h
theorem arrive_eff {s:StateR} {nm:ByteArray} {sum:Int} (hs:Ok s) (hn:vName nm=true) (h0:(arriveS s nm sum).1=0) :
  Ok (arriveS s nm sum).2∧(arriveS s nm sum).2.links=s.links∧(arriveS s nm sum).2.files.length≤s.files.length+1 ∧ ∀ n,fileL (arriveS s nm sum).2.files n=if nm=n then some ⟨nm,sum,true⟩ else fileL s.files n:=by
 unfold arriveS at h0 ⊢
 by_cases h : 0≤fidx s.files nm
 ·simp only [if_pos h]
  rw [fidx_key] at h ⊢
  have h' : ¬ idxFrom (keyP FileR.name nm) s.files 0<0:=by omega
  refine ⟨⟨?_,hs.nl,?_,hs.lk,?_,hs.ln⟩,trivial,by simp,fun n=>?_⟩
  ·simpa using hs.nf
  ·show ((s.files.set _ _).map FileR.name).Nodup
   rw [set_keys (key:=FileR.name) (m:=nm) rfl h'];exact hs.fk
  ·intro f hf
   rcases mem_set_or hf with hf | rfl
   ·exact hs.fn f hf
   ·exact hn
  ·exact look_set (key:=FileR.name) ⟨nm,sum,true⟩ (m:=nm) rfl (k:=0) h' n
 ·simp only [if_neg h] at h0 ⊢
  by_cases h1 : 32≤s.files.length
  ·simp [if_pos h1] at h0
  ·simp only [if_neg h1]
   have hno:fileL s.files nm=none:=fidx_neg.1 (by omega)
   refine ⟨⟨?_,hs.nl,?_,hs.lk,?_,hs.ln⟩,trivial,by simp,fun n=>?_⟩
   ·simp;omega
   ·simp only [List.map_append,List.map_cons,List.map_nil]
    rw [List.nodup_append]
    refine ⟨hs.fk,by simp,?_⟩
    intro a ha b hb
    simp at hb;subst hb
    obtain ⟨f,hf,rfl⟩:=List.mem_map.1 ha
    exact look_none hno f hf
   ·intro f hf
    rcases List.mem_append.1 hf with hf | hf
    ·exact hs.fn f hf
    ·simp at hf;subst hf;exact hn
   ·exact look_snoc (key:=FileR.name) ⟨nm,sum,true⟩ rfl hno n
theorem leave_eff {s:StateR} {nm:ByteArray} (hs:Ok s) (h0:(leaveS s nm).1=0) :
  Ok (leaveS s nm).2∧(leaveS s nm).2.links=s.links∧(leaveS s nm).2.files.length≤s.files.length+1 ∧ ∃ f,fileL s.files nm=some f∧f.present=true ∧ ∀ n,fileL (leaveS s nm).2.files n=if nm=n then some { f with present:=false } else fileL s.files n:=by
 unfold leaveS at h0 ⊢
 cases hb:hereB s.files nm with
 | false=>simp [hb] at h0
 | true =>
  simp only [if_true]
  rw [hereB_look] at hb
  by_cases hi:fidx s.files nm<0
  ·rw [fidx_neg.1 hi] at hb;cases hb
  have ha:=fileL_at hi
  rw [ha] at hb
  simp only at hb
  obtain ⟨hk,hm⟩:=look_key ha
  refine ⟨⟨?_,hs.nl,?_,hs.lk,?_,hs.ln⟩,trivial,by simp,_,ha,hb,fun n=>?_⟩
  ·simpa using hs.nf
  ·show ((s.files.set _ _).map FileR.name).Nodup
   rw [fidx_key] at hi hk ⊢
   rw [set_keys (key:=FileR.name) ?_ hi]
   ·exact hs.fk
   ·exact hk
  ·intro f hf
   rcases mem_set_or hf with hf | rfl
   ·exact hs.fn f hf
   ·show vName (fileAt s.files (fidx s.files nm)).name=true
    exact hs.fn _ hm
  ·rw [fidx_key] at hi hk ⊢
   refine look_set (key:=FileR.name) _ ?_ (k:=0) hi n
   exact hk
theorem connect_eff {s:StateR} {md nm:ByteArray} (hs:Ok s) (hm:vName md=true) (hn:vName nm=true) (h0:(connectS s md nm).1=0) :
  Ok (connectS s md nm).2∧(connectS s md nm).2.files=s.files∧(connectS s md nm).2.links.length≤s.links.length+1∧linkL s.links md=none ∧ ∃ f,fileL s.files nm=some f∧f.present=true ∧
   ∀ n,linkL (connectS s md nm).2.links n=if md=n then some ⟨md,nm,f.sum,⟨#[]⟩⟩ else linkL s.links n:=by
 unfold connectS at h0 ⊢
 by_cases h : 0≤lidx s.links md
 ·simp [if_pos h] at h0
 simp only [if_neg h] at h0 ⊢
 cases hb:hereB s.files nm with
 | false=>simp [hb] at h0
 | true =>
  simp only [hb,if_true] at h0 ⊢
  by_cases h1 : 16≤s.links.length
  ·simp [if_pos h1] at h0
  simp only [if_neg h1]
  have hno:linkL s.links md=none:=lidx_neg.1 (by omega)
  rw [hereB_look] at hb
  by_cases hi:fidx s.files nm<0
  ·rw [fidx_neg.1 hi] at hb;cases hb
  have ha:=fileL_at hi
  rw [ha] at hb
  refine ⟨⟨hs.nf,?_,hs.fk,?_,hs.fn,?_⟩,trivial,by simp,hno,_,ha,hb,fun n=>?_⟩
  ·simp;omega
  ·simp only [List.map_append,List.map_cons,List.map_nil]
   rw [List.nodup_append]
   refine ⟨hs.lk,by simp,?_⟩
   intro a ha b hb
   simp at hb;subst hb
   obtain ⟨f,hf,rfl⟩:=List.mem_map.1 ha
   exact look_none hno f hf
  ·intro l hl
   rcases List.mem_append.1 hl with hl | hl
   ·exact hs.ln l hl
   ·simp at hl;subst hl
    exact ⟨hm,hn, .inl (by rw [emp_iff];rfl)⟩
  ·exact look_snoc (key:=LinkR.media) _ rfl hno n
theorem relink_eff {s:StateR} {md nm:ByteArray} (hs:Ok s) (hm:vName md=true) (hn:vName nm=true) (h0:(relinkS s md nm).1=0) :
  Ok (relinkS s md nm).2∧(relinkS s md nm).2.files=s.files∧(relinkS s md nm).2.links.length≤s.links.length+1 ∧ ∃ l f,linkL s.links md=some l∧fileL s.files nm=some f∧f.present=true ∧
   ∀ n,linkL (relinkS s md nm).2.links n=if md=n then some { l with file:=nm,sum:=f.sum } else linkL s.links n:=by
 unfold relinkS at h0 ⊢
 by_cases h:lidx s.links md<0
 ·simp [h] at h0
 cases hb:hereB s.files nm with
 | false=>simp [hb] at h0
 | true =>
  simp only [hb,h,decide_false,Bool.not_true,Bool.or_self,Bool.false_eq_true,if_false] at h0 ⊢
  rw [hereB_look] at hb
  by_cases hi:fidx s.files nm<0
  ·rw [fidx_neg.1 hi] at hb;cases hb
  have ha:=fileL_at hi
  rw [ha] at hb
  have hl:=linkL_at h
  obtain ⟨hk,hmem⟩:=look_key hl
  refine ⟨⟨hs.nf,?_,hs.fk,?_,hs.fn,?_⟩,trivial,by simp,_,_,hl,ha,hb,fun n=>?_⟩
  ·simpa using hs.nl
  ·show ((s.links.set _ _).map LinkR.media).Nodup
   rw [lidx_key] at h hk ⊢
   rw [set_keys (key:=LinkR.media) ?_ h]
   ·exact hs.lk
   ·exact hk
  ·intro l hl
   rcases mem_set_or hl with hl | rfl
   ·exact hs.ln l hl
   ·have:=hs.ln _ hmem
    exact ⟨this.1,hn,this.2.2⟩
  ·rw [lidx_key] at h hk ⊢
   refine look_set (key:=LinkR.media) _ ?_ (k:=0) h n
   exact hk
theorem attach_eff {s:StateR} {md px:ByteArray} (hs:Ok s) (hp:validPx px=true) (h0:(attachS s md px).1=0) :
  Ok (attachS s md px).2∧(attachS s md px).2.files=s.files∧(attachS s md px).2.links.length≤s.links.length+1 ∧ ∃ l,linkL s.links md=some l ∧
   ∀ n,linkL (attachS s md px).2.links n=if md=n then some { l with proxy:=px } else linkL s.links n:=by
 unfold attachS at h0 ⊢
 rw [beq_bytesL] at h0 ⊢
 by_cases he:px=md
 ·simp [he] at h0
 simp only [he,decide_false,Bool.false_eq_true,if_false] at h0 ⊢
 by_cases h:lidx s.links md<0
 ·simp [h] at h0
 cases hb:(!emp px&&decide (lidx s.links px<0)) with
 | true=>simp [hb] at h0
 | false =>
  simp only [h,hb,decide_false,Bool.or_self,Bool.false_eq_true,if_false] at h0 ⊢
  have hl:=linkL_at h
  obtain ⟨hk,hmem⟩:=look_key hl
  refine ⟨⟨hs.nf,?_,hs.fk,?_,hs.fn,?_⟩,trivial,by simp,_,hl,fun n=>?_⟩
  ·simpa using hs.nl
  ·show ((s.links.set _ _).map LinkR.media).Nodup
   rw [lidx_key] at h hk ⊢
   rw [set_keys (key:=LinkR.media) ?_ h]
   ·exact hs.lk
   ·exact hk
  ·intro l hl
   rcases mem_set_or hl with hl | rfl
   ·exact hs.ln l hl
   ·have:=hs.ln _ hmem
    refine ⟨this.1,this.2.1,?_⟩
    unfold validPx at hp
    rw [Bool.or_eq_true] at hp
    rcases hp with hp | hp
    ·exact .inl hp
    ·exact .inr ⟨hp,fun e=>he (e.trans hk)⟩
  ·rw [lidx_key] at h hk ⊢
   refine look_set (key:=LinkR.media) _ ?_ (k:=0) h n
   exact hk
structure StepOk (s:StateR) (e:EventR) (t:StateR):Prop where
 ok:Ok t
 nf:t.files.length≤s.files.length+1
 nl:t.links.length≤s.links.length+1
 keep:∀ n,linkL s.links n≠none→linkL t.links n≠none
 new:∀ n,linkL t.links n≠none→linkL s.links n≠none∨e.media=n
theorem perform_ok {s:StateR} {e:EventR} (hs:Ok s) (he:validEv e=true) (h0:(performS s e).1=0):StepOk s e (performS s e).2:=by
 unfold performS at h0 ⊢
 unfold validEv at he
 by_cases h1:e.kind=1
 ·simp only [if_pos h1] at h0 he ⊢
  simp only [Bool.and_eq_true] at he
  obtain ⟨q1,q2,q3,q4⟩:=arrive_eff hs he.1.1 h0
  exact ⟨q1,q3,by rw [q2];omega,fun n h=>by rw [q2];exact h,fun n h=>by rw [q2] at h;exact .inl h⟩
 simp only [if_neg h1] at h0 he ⊢
 by_cases h2:e.kind=2
 ·simp only [if_pos h2] at h0 he ⊢
  obtain ⟨q1,q2,q3,q4⟩:=leave_eff hs h0
  exact ⟨q1,q3,by rw [q2];omega,fun n h=>by rw [q2];exact h,fun n h=>by rw [q2] at h;exact .inl h⟩
 simp only [if_neg h2] at h0 he ⊢
 by_cases h3:e.kind=3
 ·simp only [if_pos h3] at h0 ⊢
  rw [if_pos (.inl h3)] at he
  simp only [Bool.and_eq_true] at he
  obtain ⟨q1,q2,q3,q4,f,q5,q6,q7⟩:=connect_eff hs he.1.1.1 he.1.1.2 h0
  refine ⟨q1,by rw [q2];omega,q3,fun n h=>?_,fun n h=>?_⟩
  ·rw [q7];split
   ·simp
   ·exact h
  ·by_cases hm:e.media=n
   ·exact .inr hm
   ·rw [q7,if_neg hm] at h;exact .inl h
 simp only [if_neg h3] at h0 ⊢
 by_cases h4:e.kind=4
 ·simp only [if_pos h4] at h0 ⊢
  rw [if_pos (.inr h4)] at he
  simp only [Bool.and_eq_true] at he
  obtain ⟨q1,q2,q3,l,f,q4,q5,q6,q7⟩:=relink_eff hs he.1.1.1 he.1.1.2 h0
  refine ⟨q1,by rw [q2];omega,q3,fun n h=>?_,fun n h=>?_⟩
  ·rw [q7];split
   ·simp
   ·exact h
  ·by_cases hm:e.media=n
   ·exact .inr hm
   ·rw [q7,if_neg hm] at h;exact .inl h
 simp only [if_neg h4] at h0 ⊢
 rw [if_neg (by rintro (h | h)<;>contradiction)] at he
 by_cases h5:e.kind=5
 ·rw [if_pos h5] at he
  simp only [Bool.and_eq_true] at he
  obtain ⟨q1,q2,q3,l,q4,q7⟩:=attach_eff hs he.1.1.2 h0
  refine ⟨q1,by rw [q2];omega,q3,fun n h=>?_,fun n h=>?_⟩
  ·rw [q7];split
   ·simp
   ·exact h
  ·by_cases hm:e.media=n
   ·exact .inr hm
   ·rw [q7,if_neg hm] at h;exact .inl h
 ·rw [if_neg h5] at he;cases he
theorem step_eq {s:StateR} {e:EventR} (hs:Ok s) (he:validEv e=true) (h0:(performS s e).1=0):mStep s e=((performS s e).2,outsS s (performS s e).2,0):=by
 unfold mStep
 rw [(ok_iff s).2 hs,he,if_pos h0];rfl
theorem step_inv {s:StateR} {e:EventR} (hs:Ok s) (h:(mStep s e).2.2=0):validEv e=true∧(performS s e).1=0:=by
 unfold mStep at h
 rw [(ok_iff s).2 hs] at h
 cases he:validEv e with
 | false=>simp [he] at h
 | true =>
  refine ⟨rfl,?_⟩
  by_cases h0:(performS s e).1=0
  ·exact h0
  ·simp [he,h0] at h
theorem step_ok {s:StateR} {e:EventR} (hs:Ok s) (h:(mStep s e).2.2=0):StepOk s e (mStep s e).1∧(mStep s e).2.1=outsS s (mStep s e).1:=by
 obtain ⟨he,h0⟩:=step_inv hs h
 rw [step_eq hs he h0]
 exact ⟨perform_ok hs he h0,rfl⟩
theorem ok_nil:Ok ⟨[],[]⟩:=⟨by simp,by simp,by simp,by simp,by simp,by simp⟩
open Go.RowKit
set_option maxRecDepth 4000
theorem rows_setG {α : Type} (c : α → List T) {L:List α} {j:Nat} (x : α) {r:List V} (h:r=(c x).map V.t):(tRows (L.map c)).set j r=tRows ((L.set j x).map c):=by
 rw [h]
 unfold tRows
 rw [List.map_set,List.map_set]
theorem nthV_set {xs:List (List V)} {k:Nat} (h:k<xs.length) (d:List T) (r:List V):nthV d (xs.set k r) k=r:=by
 unfold nthV
 rw [List.getElem?_set_self h]
 rfl
theorem rows_setT {α : Type} (c : α → List T) {L:List α} {j:Nat} (x : α) {r:List T} (h:r=c x):(L.map c).set j r=(L.set j x).map c:=by
 rw [h,List.map_set]
theorem rows_len {α : Type} (c : α → List T) (l:List α) (k:Nat) (r:List V):((tRows (l.map c)).set k r).length=l.length:=by
 unfold tRows
 rw [List.length_set,List.length_map,List.length_map]
theorem rows_nth {α : Type} (c : α → List T) {l:List α} {k:Nat} (h:k<l.length) (d:List T) (r:List V):nthV d ((tRows (l.map c)).set k r) k=r :=
 nthV_set (by unfold tRows;rw [List.length_map,List.length_map];exact h) d r
open Go.RowKit
set_option maxRecDepth 4000
def EventR.c (e:EventR):List T:=[ti e.kind,tstr e.media,tstr e.file,tstr e.proxy,tu e.sum]
abbrev vevent (e:EventR):V := .agg [vint e.kind,vstr e.media,vstr e.file,vstr e.proxy,vu64 e.sum]
@[go_sem] theorem EventR.ct (e:EventR):(EventR.c e).map V.t = [vint e.kind,vstr e.media,vstr e.file,vstr e.proxy,vu64 e.sum]:=rfl
@[go_sem] theorem EventR.cl (e:EventR):(EventR.c e).length=5:=rfl
@[go_sem] abbrev tevents (l:List EventR):T := .list 5 (EventR.c default) (l.map EventR.c)
def OutR.c (o:OutR):List T:=[tstr o.media,ti o.status]
@[go_sem] theorem OutR.ct (o:OutR):(OutR.c o).map V.t = [vstr o.media,vint o.status]:=rfl
@[go_sem] theorem OutR.cl (o:OutR):(OutR.c o).length=2:=rfl
@[go_sem] abbrev touts (l:List OutR):T := .list 2 (OutR.c default) (l.map OutR.c)
@[go_sem] abbrev RowF (l:List FileR):Blk := .row 153 3 (FileR.c default) (tRows (l.map FileR.c))
@[go_sem] abbrev RowL (l:List LinkR):Blk := .row 135 4 (LinkR.c default) (tRows (l.map LinkR.c))
abbrev stH (s:StateR):Heap:=[(2,RowL s.links),(1,RowF s.files),(0, .box [.own 1, .own 2])]
abbrev stK (s:StateR):Heap:=[(4,RowL s.links),(3,RowF s.files),(0, .box [.own 3, .own 4])]
theorem fidx_name {fs:List FileR} {n:ByteArray} {k:Nat} (h:fidx fs n=k):(fs.getD k default).name=n:=by
 have h0 : ¬ fidx fs n<0:=by omega
 have:=(look_key (fileL_at h0)).1
 unfold fileAt at this
 rw [h,Int.toNat_natCast] at this
 exact this
theorem cChange (s:StateR) (e:EventR) (hf:s.files.length≤32) (hl:s.links.length≤16) (he : 1≤e.kind∧e.kind≤5) :
  CIO Tryz.prog 189 3 (stH s) [.own 0,vevent e] (vint (performS s e).1) (stK (performS s e).2) 5:=by
 refine cio_of Tryz.xen189 Tryz.func189 rfl Tryz.ntmps189 (by rw [Tryz.results189]) (aw_ok _ ?_)
 simp only [go_sem,simprocAttr,decide_true,decide_false]
 refine drawC_of 14 .done rfl (by kernel_rfl) (by kernel_rfl) (by decide) ?_
 simp only [go_sem,simprocAttr,decide_true,decide_false]
 have hf':s.files.length≤maxLen:=by unfold maxLen;omega
 have hl':s.links.length≤maxLen:=by unfold maxLen;omega
 refine ⟨_,cRLink s _ hl',rfl,?_⟩
 simp only [go_sem,simprocAttr,decide_true,decide_false]
 refine ⟨_,cRFile s _ hf',rfl,?_⟩
 simp only [go_sem,simprocAttr,decide_true,decide_false]
 refine ⟨by kernel_rfl,?_⟩
 obtain ⟨x,hx⟩:∃ x,x=fidx s.files e.file:=⟨_,rfl⟩
 obtain ⟨y,hy⟩:∃ y,y=lidx s.links e.media:=⟨_,rfl⟩
 rw [← hx, ← hy]
 have hr:x = -1 ∨ ∃ k:Nat,k<s.files.length∧x=k:=by rw [hx];exact fidx_range _ _
 have hq:y = -1 ∨ ∃ k:Nat,k<s.links.length∧y=k:=by rw [hy];exact lidx_range _ _
 have hB:hereB s.files e.file=(decide (x ≥ 0)&&(s.files.getD x.toNat default).present):=by unfold hereB fileAt;rw [← hx]
 refine ⟨fun h=>?_,fun h=>?_,fun h1=>?_,fun h1=>?_⟩
 ·simp only [bxx] at h
  rcases hr with hr | ⟨k,hk,hr⟩<;>omega
 ·simp only [bxx] at h
  rcases hr with hr | ⟨k,hk,hr⟩<;>omega
 ·simp only [bxx] at h1
  have eP:performS s e=arriveS s e.file e.sum:=by unfold performS;rw [if_pos h1]
  rw [eP]
  unfold awS
  simp only [go_sem,simprocAttr,decide_true,decide_false]
  refine ⟨fun h2=>?_,fun h2=>?_⟩
  ·simp only [bxx] at h2
   obtain ⟨k,hk,rfl⟩:∃ k:Nat,k<s.files.length∧x=k:=by
    rcases hr with hr | hr
    ·omega
    ·exact hr
   have eA:arriveS s e.file e.sum=(0,⟨s.files.set k ⟨e.file,e.sum,true⟩,s.links⟩):=by
    unfold arriveS
    rw [← hx,if_pos (by omega),Int.toNat_natCast]
   rw [eA]
   unfold awS
   simp only [go_sem,simprocAttr,decide_true,decide_false]
   refine drawC_of 18 .done rfl (by kernel_rfl) (by kernel_rfl) (by decide) ?_
   have hn:=rows_nth FileR.c hk
   have hnm:=fidx_name hx.symm
   simp only [go_sem,simprocAttr,decide_true,decide_false,rows_len,hn,List.set_set]
   refine ⟨⟨by omega,by omega⟩,hk,⟨by omega,by omega⟩,hk,by kernel_rfl,?_⟩
   rw [hnm,rows_setG FileR.c ⟨e.file,e.sum,true⟩ (by rfl)]
   refine weak_of [(4,some 2),(3,some 1),(0,some 0)] ?_
   simp only [go_sem,simprocAttr,decide_true,decide_false]
   simp
  ·simp only [bxx] at h2
   have h32:((s.files.length:Int)==32)=decide (32≤s.files.length):=by
    rw [Bool.eq_iff_iff,beq_iff_eq,decide_eq_true_eq]
    omega
   unfold awS
   simp only [go_sem,simprocAttr,decide_true,decide_false,tRows_len,List.length_map]
   rw [h32]
   refine ⟨fun h3=>?_,fun h3=>?_⟩
   ·simp only [bxx] at h3
    have eA:arriveS s e.file e.sum=(18,s):=by
     unfold arriveS
     rw [← hx,if_neg (by omega),if_pos h3]
    rw [eA]
    unfold awS
    simp only [go_sem,simprocAttr,decide_true,decide_false]
    refine weak_of [(4,some 2),(3,some 1),(0,some 0)] ?_
    simp only [go_sem,simprocAttr,decide_true,decide_false]
    simp
   ·simp only [bxx] at h3
    have eA:arriveS s e.file e.sum=(0,⟨s.files ++ [⟨e.file,e.sum,true⟩],s.links⟩):=by
     unfold arriveS
     rw [← hx,if_neg (by omega),if_neg h3]
    rw [eA]
    unfold awS
    simp only [go_sem,simprocAttr,decide_true,decide_false]
    refine drawC_of 15 .done rfl (by kernel_rfl) (by kernel_rfl) (by decide) ?_
    simp only [go_sem,simprocAttr,decide_true,decide_false]
    refine ⟨⟨by unfold maxLen;omega,by omega⟩,by kernel_rfl,?_⟩
    refine weak_of [(4,some 2),(3,some 29),(0,some 0)] ?_
    simp only [go_sem,simprocAttr,decide_true,decide_false]
    rw [List.map_append]
    simp
    rfl
 ·simp only [bxx] at h1
  unfold awS
  simp only [go_sem,simprocAttr,decide_true,decide_false]
  refine ⟨fun h2=>?_,fun h2=>?_⟩
  ·simp only [bxx] at h2
   have eP:performS s e=leaveS s e.file:=by unfold performS;rw [if_neg h1,if_pos h2]
   rw [eP]
   unfold awS
   simp only [go_sem,simprocAttr,decide_true,decide_false]
   refine ⟨fun h3=>?_,fun h3=>?_⟩
   ·have eL:leaveS s e.file=(7,s):=by
     unfold leaveS
     rw [hB,nt h3]
     rfl
    rw [eL]
    unfold awS
    simp only [go_sem,simprocAttr,decide_true,decide_false]
    refine weak_of [(4,some 2),(3,some 1),(0,some 0)] ?_
    simp only [go_sem,simprocAttr,decide_true,decide_false]
    simp
   ·have h4:=nf h3
    obtain ⟨k,hk,rfl⟩:∃ k:Nat,k<s.files.length∧x=k:=by
     rcases hr with hr | hr
     ·rw [hr] at h4
      cases h4
     ·exact hr
    have eL:leaveS s e.file=(0,⟨s.files.set k { s.files.getD k default with present:=false },s.links⟩):=by
     unfold leaveS fileAt
     rw [hB,h4, ← hx,Int.toNat_natCast]
     rfl
    rw [eL]
    unfold awS
    simp only [go_sem,simprocAttr,decide_true,decide_false]
    refine ⟨⟨by omega,by omega⟩,hk,?_⟩
    rw [rows_setT FileR.c { s.files.getD k default with present:=false } (by rfl)]
    refine weak_of [(4,some 2),(3,some 1),(0,some 0)] ?_
    simp only [go_sem,simprocAttr,decide_true,decide_false]
    simp
  ·simp only [bxx] at h2
   unfold awS
   simp only [go_sem,simprocAttr,decide_true,decide_false]
   refine ⟨fun h3=>?_,fun h3=>?_⟩
   ·simp only [bxx] at h3
    have eP:performS s e=connectS s e.media e.file:=by unfold performS;rw [if_neg h1,if_neg h2,if_pos h3]
    rw [eP]
    unfold awS
    simp only [go_sem,simprocAttr,decide_true,decide_false]
    refine ⟨fun h4=>?_,fun h4=>?_⟩
    ·simp only [bxx] at h4
     have eC:connectS s e.media e.file=(8,s):=by
      unfold connectS
      rw [← hy,if_pos h4]
     rw [eC]
     unfold awS
     simp only [go_sem,simprocAttr,decide_true,decide_false]
     refine weak_of [(4,some 2),(3,some 1),(0,some 0)] ?_
     simp only [go_sem,simprocAttr,decide_true,decide_false]
     simp
    ·simp only [bxx] at h4
     unfold awS
     simp only [go_sem,simprocAttr,decide_true,decide_false]
     refine ⟨fun h5=>?_,fun h5=>?_⟩
     ·have eC:connectS s e.media e.file=(7,s):=by
       unfold connectS
       rw [← hy,if_neg (by omega),hB,nt h5]
       rfl
      rw [eC]
      unfold awS
      simp only [go_sem,simprocAttr,decide_true,decide_false]
      refine weak_of [(4,some 2),(3,some 1),(0,some 0)] ?_
      simp only [go_sem,simprocAttr,decide_true,decide_false]
      simp
     ·have h6:=nf h5
      obtain ⟨k,hk,rfl⟩:∃ k:Nat,k<s.files.length∧x=k:=by
       rcases hr with hr | hr
       ·rw [hr] at h6
        cases h6
       ·exact hr
      have h16:((s.links.length:Int)==16)=decide (16≤s.links.length):=by
       rw [Bool.eq_iff_iff,beq_iff_eq,decide_eq_true_eq]
       omega
      unfold awS
      simp only [go_sem,simprocAttr,decide_true,decide_false,tRows_len,List.length_map]
      rw [h16]
      refine ⟨fun h7=>?_,fun h7=>?_⟩
      ·simp only [bxx] at h7
       have eC:connectS s e.media e.file=(18,s):=by
        unfold connectS
        rw [← hy,if_neg (by omega),hB,h6,if_pos rfl,if_pos h7]
       rw [eC]
       unfold awS
       simp only [go_sem,simprocAttr,decide_true,decide_false]
       refine weak_of [(4,some 2),(3,some 1),(0,some 0)] ?_
       simp only [go_sem,simprocAttr,decide_true,decide_false]
       simp
      ·simp only [bxx] at h7
       have eC:connectS s e.media e.file=(0,⟨s.files,s.links ++ [⟨e.media,e.file,(s.files.getD k default).sum,⟨#[]⟩⟩]⟩):=by
        unfold connectS fileAt
        rw [← hy, ← hx,if_neg (by omega),hB,h6,if_pos rfl,if_neg h7,Int.toNat_natCast]
       rw [eC]
       unfold awS
       simp only [go_sem,simprocAttr,decide_true,decide_false]
       refine drawC_of 23 .done rfl (by kernel_rfl) (by kernel_rfl) (by decide) ?_
       simp only [go_sem,simprocAttr,decide_true,decide_false]
       refine ⟨⟨by omega,by omega⟩,hk,⟨by unfold maxLen;omega,by omega⟩,by kernel_rfl,?_⟩
       refine weak_of [(4,some 37),(3,some 1),(0,some 0)] ?_
       simp only [go_sem,simprocAttr,decide_true,decide_false]
       rw [List.map_append]
       simp
       rfl
   ·simp only [bxx] at h3
    unfold awS
    simp only [go_sem,simprocAttr,decide_true,decide_false]
    refine ⟨fun h4=>?_,fun h4=>?_⟩
    ·simp only [bxx] at h4
     have eP:performS s e=relinkS s e.media e.file:=by unfold performS;rw [if_neg h1,if_neg h2,if_neg h3,if_pos h4]
     rw [eP]
     unfold awS
     simp only [go_sem,simprocAttr,decide_true,decide_false]
     refine ⟨fun h5=>?_,fun h5=>?_⟩
     ·have eC:relinkS s e.media e.file=(7,s):=by
       unfold relinkS
       rw [hB, ← hy,if_pos h5]
      rw [eC]
      unfold awS
      simp only [go_sem,simprocAttr,decide_true,decide_false]
      refine weak_of [(4,some 2),(3,some 1),(0,some 0)] ?_
      simp only [go_sem,simprocAttr,decide_true,decide_false]
      simp
     ·have h5':=h5
      rw [Bool.or_eq_false_iff,decide_eq_false_iff_not] at h5'
      have h6:=nf h5'.2
      obtain ⟨k,hk,rfl⟩:∃ k:Nat,k<s.files.length∧x=k:=by
       rcases hr with hr | hr
       ·rw [hr] at h6
        cases h6
       ·exact hr
      obtain ⟨j,hj,rfl⟩:∃ k:Nat,k<s.links.length∧y=k:=by
       rcases hq with hq | hq
       ·omega
       ·exact hq
      have eC:relinkS s e.media e.file=(0,⟨s.files,s.links.set j { s.links.getD j default with file:=e.file,sum:=(s.files.getD k default).sum }⟩):=by
       unfold relinkS fileAt
       rw [hB, ← hy,h5, ← hx,Int.toNat_natCast,Int.toNat_natCast]
       rfl
      rw [eC]
      unfold awS
      simp only [go_sem,simprocAttr,decide_true,decide_false]
      have hn:=rows_nth LinkR.c hj
      refine drawC_of 26 .done rfl (by kernel_rfl) (by kernel_rfl) (by decide) ?_
      simp only [go_sem,simprocAttr,decide_true,decide_false,rows_len,hn,List.set_set]
      refine ⟨⟨by omega,by omega⟩,hk,⟨by omega,by omega⟩,hj,⟨by omega,by omega⟩,hj,by kernel_rfl,?_⟩
      rw [rows_setG LinkR.c { s.links.getD j default with file:=e.file,sum:=(s.files.getD k default).sum } (by rfl)]
      refine weak_of [(4,some 2),(3,some 1),(0,some 0)] ?_
      simp only [go_sem,simprocAttr,decide_true,decide_false]
      simp
    ·simp only [bxx] at h4
     have h5:e.kind=5:=by omega
     have eP:performS s e=attachS s e.media e.proxy:=by unfold performS;rw [if_neg h1,if_neg h2,if_neg h3,if_neg h4]
     rw [eP]
     have h5':(e.kind==5)=true:=by rw [h5];rfl
     unfold awS
     simp only [go_sem,simprocAttr,decide_true,decide_false]
     rw [h5']
     simp only [go_sem,simprocAttr,decide_true,decide_false]
     refine ⟨?_,fun h=>h.elim⟩
     unfold awS
     simp only [go_sem,simprocAttr,decide_true,decide_false]
     refine ⟨fun h6=>?_,fun h6=>?_⟩
     ·have eC:attachS s e.media e.proxy=(1,s):=by
       unfold attachS
       rw [if_pos h6]
      rw [eC]
      unfold awS
      simp only [go_sem,simprocAttr,decide_true,decide_false]
      refine weak_of [(4,some 2),(3,some 1),(0,some 0)] ?_
      simp only [go_sem,simprocAttr,decide_true,decide_false]
      simp
     ·unfold awS
      simp only [go_sem,simprocAttr,decide_true,decide_false]
      refine drawC_of 16 .done rfl (by kernel_rfl) (by kernel_rfl) (by decide) ?_
      simp only [go_sem,simprocAttr,decide_true,decide_false]
      refine ⟨_,fun _=>cRLink s _ hl',rfl,?_⟩
      simp only [go_sem,simprocAttr,decide_true,decide_false]
      refine ⟨by kernel_rfl,?_⟩
      refine brW (b:=decide (y<0)||(!emp e.proxy&&decide (lidx s.links e.proxy<0))) ?_ ⟨fun h7=>?_,fun h7=>?_⟩
      ·rfl
      ·have eC:attachS s e.media e.proxy=(7,s):=by
        unfold attachS
        rw [h6,if_neg (by decide), ← hy,if_pos h7]
       rw [eC]
       unfold awS
       simp only [go_sem,simprocAttr,decide_true,decide_false]
       refine weak_of [(4,some 2),(3,some 1),(0,some 0)] ?_
       simp only [go_sem,simprocAttr,decide_true,decide_false]
       simp
      ·have h7':=h7
       rw [Bool.or_eq_false_iff,decide_eq_false_iff_not] at h7'
       obtain ⟨j,hj,rfl⟩:∃ k:Nat,k<s.links.length∧y=k:=by
        rcases hq with hq | hq
        ·omega
        ·exact hq
       have eC:attachS s e.media e.proxy=(0,⟨s.files,s.links.set j { s.links.getD j default with proxy:=e.proxy }⟩):=by
        unfold attachS
        rw [h6,if_neg (by decide), ← hy,h7,Int.toNat_natCast]
        rfl
       rw [eC]
       unfold awS
       simp only [go_sem,simprocAttr,decide_true,decide_false]
       refine drawC_of 10 .done rfl (by kernel_rfl) (by kernel_rfl) (by decide) ?_
       simp only [go_sem,simprocAttr,decide_true,decide_false]
       refine ⟨⟨by omega,by omega⟩,hj,by kernel_rfl,?_⟩
       rw [rows_setG LinkR.c { s.links.getD j default with proxy:=e.proxy } (by rfl)]
       refine weak_of [(4,some 2),(3,some 1),(0,some 0)] ?_
       simp only [go_sem,simprocAttr,decide_true,decide_false]
       simp
end Go.Proofs.YtbfnemkngoaeeaaGreat
