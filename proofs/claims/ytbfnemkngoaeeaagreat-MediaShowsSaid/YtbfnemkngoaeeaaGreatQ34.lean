/- Proved here: Plain facts on lists that are searched by a key, and on the states of media, their steps and runs; conditions stand in each theorem. -/
import Derived.Test.YtbfnemkngoaeeaaGreatQ33
import Derived.Test.YtbfnemkngoaeeaaGreatQ07
set_option linter.unusedSimpArgs false
set_option linter.unusedVariables false
set_option linter.unusedSectionVars false
set_option linter.unnecessarySimpa false
namespace Go.Proofs.YtbfnemkngoaeeaaGreat
open Go.RowKit
set_option maxRecDepth 4000
theorem aMk {α : Type} [Inhabited α] {l:List α} {x : α} (h:x∈l):∃ i, ∃ _:i<l.length,l.getD i default=x:=by
 obtain ⟨i,hi,rfl⟩:=List.getElem_of_mem h;exact ⟨i,hi,aJ hi⟩
structure EventR where
 kind:Int
 media:ByteArray
 file:ByteArray
 proxy:ByteArray
 sum:Int
 deriving Inhabited
structure OutR where
 media:ByteArray
 status:Int
 deriving Inhabited
def aA7 (s:ByteArray):Bool:=emp s||aT s
def kB (e:EventR):Bool :=
 if e.kind=1 then aT e.file&&emp e.media&&emp e.proxy
 else if e.kind=2 then aT e.file&&emp e.media&&emp e.proxy&&(e.sum==0)
 else if e.kind=3∨e.kind=4 then aT e.media&&aT e.file&&emp e.proxy&&(e.sum==0)
 else if e.kind=5 then aT e.media&&aA7 e.proxy&&emp e.file&&(e.sum==0)
 else false
def rY (fs:List FileR) (s:ByteArray):Bool:=decide (0≤jM fs s)&&(gR fs (jM fs s)).present
def dJ (s:StateR) (nm:ByteArray) (sum:Int):Int×StateR :=
 if 0≤jM s.files nm then (0,⟨s.files.set (jM s.files nm).toNat ⟨nm,sum,true⟩,s.links⟩)
 else if 32≤s.files.length then (18,s)
 else (0,⟨s.files ++ [⟨nm,sum,true⟩],s.links⟩)
def gM (s:StateR) (nm:ByteArray):Int×StateR :=
 if rY s.files nm then (0,⟨s.files.set (jM s.files nm).toNat { gR s.files (jM s.files nm) with present:=false },s.links⟩) else (7,s)
def cH (s:StateR) (md nm:ByteArray):Int×StateR :=
 if 0≤mG s.links md then (8,s)
 else if rY s.files nm then
  if 16≤s.links.length then (18,s)
  else (0,⟨s.files,s.links ++ [⟨md,nm,(gR s.files (jM s.files nm)).sum,⟨#[]⟩⟩]⟩)
 else (7,s)
def mD (s:StateR) (md nm:ByteArray):Int×StateR :=
 if mG s.links md<0 || !rY s.files nm then (7,s)
 else (0,⟨s.files,s.links.set (mG s.links md).toNat { s.links.getD (mG s.links md).toNat default with file:=nm,sum:=(gR s.files (jM s.files nm)).sum }⟩)
def jN (s:StateR) (md px:ByteArray):Int×StateR :=
 if px.toList==md.toList then (1,s)
 else if mG s.links md<0||(!emp px&&decide (mG s.links px<0)) then (7,s)
 else (0,⟨s.files,s.links.set (mG s.links md).toNat { s.links.getD (mG s.links md).toNat default with proxy:=px }⟩)
def bJ (s:StateR) (e:EventR):Int×StateR :=
 if e.kind=1 then dJ s e.file e.sum
 else if e.kind=2 then gM s e.file
 else if e.kind=3 then cH s e.media e.file
 else if e.kind=4 then mD s e.media e.file
 else jN s e.media e.proxy
def Mv (s t:StateR) (l:LinkR):Option OutR :=
 if status t l.media != status s l.media then some ⟨l.media,status t l.media⟩ else none
def tQ (s t:StateR) (k:Nat):List OutR:=(t.links.take k).filterMap (Mv s t)
def Gf (s t:StateR):List OutR:=t.links.filterMap (Mv s t)
theorem Lp {s t:StateR} {k:Nat} (h:k<t.links.length):tQ s t (k+1)=tQ s t k++(Mv s t (t.links.getD k default)).toList:=by
 unfold tQ;rw [List.take_succ_eq_append_getElem h,List.filterMap_append,aJ h];cases hh:Mv s t t.links[k]<;>simp [hh]
theorem Qu (s t:StateR) (k:Nat):(tQ s t k).length≤k:=by
 unfold tQ;exact Nat.le_trans (List.length_filterMap_le _ _) (List.length_take_le _ _)
def eZ (s:StateR) (e:EventR):StateR×List OutR×Int :=
 if fL s&&kB e then
  if (bJ s e).1=0 then ((bJ s e).2,Gf s (bJ s e).2,0) else (⟨[],[]⟩,[],(bJ s e).1)
 else (⟨[],[]⟩,[],1)
def jD (acc:StateR×List OutR×List Int) (e:EventR):StateR×List OutR×List Int :=
 if (eZ acc.1 e).2.2=0 then ((eZ acc.1 e).1,acc.2.1++(eZ acc.1 e).2.1,acc.2.2 ++ [0]) else (acc.1,acc.2.1,acc.2.2 ++ [(eZ acc.1 e).2.2])
def bP (s:StateR) (l:List EventR):StateR×List OutR×List Int:=l.foldl jD (s,[],[])
def runS (s:StateR) (l:List EventR):StateR×List OutR×List Int :=
 if fL s then bP s l else (⟨[],[]⟩,[],List.replicate l.length 1)
def jL {α : Type} (key : α → ByteArray) (n:ByteArray) : α → Bool:=fun x=>decide (key x=n)
theorem Dg {α : Type} {p q : α → Bool} (h:∀ x,p x=q x) (l:List α) (k:Nat):aZ p l k=aZ q l k:=by rw [funext h]
theorem Ar (fs:List FileR) (n:ByteArray):jM fs n=aZ (jL FileR.name n) fs 0:=by
 unfold jM idx jL aFz;exact Dg (fun x=>gA _ _) _ _
theorem wA (ls:List LinkR) (n:ByteArray):mG ls n=aZ (jL LinkR.media n) ls 0:=by
 unfold mG idx jL aFb;exact Dg (fun x=>gA _ _) _ _
section
variable {α : Type} {key : α → ByteArray}
def rV (key : α → ByteArray) (xs:List α) (n:ByteArray):Option α := xs.find? (jL key n)
theorem nJ (x : α) (xs:List α) (n:ByteArray):rV key (x::xs) n=if key x=n then some x else rV key xs n:=by
 unfold rV jL;rw [List.find?_cons]
 by_cases h:key x=n<;>simp [h]
theorem Rt:∀ {xs:List α} {k:Nat} {n:ByteArray},aZ (jL key n) xs k<0 ↔ rV key xs n=none
 | [],k,n=>by simp [aZ,rV]
 | x::r,k,n=>by
  rw [nJ];unfold aZ
  by_cases h:key x=n
  ·simp [jL,h]
  ·simp only [jL,h,decide_false,Bool.false_eq_true,if_false];exact Rt
theorem Gt [Inhabited α]:∀ {xs:List α} {k:Nat} {n:ByteArray}, ¬ aZ (jL key n) xs k<0→rV key xs n=some (xs.getD ((aZ (jL key n) xs k).toNat - k) default)∧(k:Int)≤aZ (jL key n) xs k
 | [],k,n,h=>by simp [aZ] at h
 | x::r,k,n,h=>by
  rw [nJ];unfold aZ at h ⊢
  by_cases h1:key x=n
  ·simp [jL,h1]
  ·simp only [jL,h1,decide_false,Bool.false_eq_true,if_false] at h ⊢;obtain ⟨e1,e2⟩:=Gt (k:=k+1) h;refine ⟨?_,by omega⟩;rw [e1];have:(aZ (jL key n) r (k+1)).toNat - k=(aZ (jL key n) r (k+1)).toNat - (k+1)+1:=by omega
   change _=some ((x::r).getD ((aZ (jL key n) r (k+1)).toNat - k) default);rw [this,List.getD_cons_succ]
theorem look_set [Inhabited α] (y : α):∀ {xs:List α} {k:Nat} {m:ByteArray},key y=m → ¬ aZ (jL key m) xs k<0 → ∀ n,rV key (xs.set ((aZ (jL key m) xs k).toNat - k) y) n=if m=n then some y else rV key xs n
 | [],k,m,_,h=>by simp [aZ] at h
 | x::r,k,m,hy,h=>by
  intro n
  by_cases h1:key x=m
  ·have e:(aZ (jL key m) (x::r) k).toNat - k=0:=by simp [aZ,jL,h1]
   rw [e,List.set_cons_zero,nJ,nJ,hy,h1];split<;>rfl
  ·have e0:aZ (jL key m) (x::r) k=aZ (jL key m) r (k+1):=by simp [aZ,jL,h1]
   rw [e0] at h ⊢;have e2:=(Gt h).2;have:(aZ (jL key m) r (k+1)).toNat - k=(aZ (jL key m) r (k+1)).toNat - (k+1)+1:=by omega
   rw [this,List.set_cons_succ,nJ,nJ,look_set y hy h]
   by_cases h2:key x=n
   ·subst h2;rw [if_pos rfl,if_pos rfl,if_neg (fun h=>h1 h.symm)]
   ·simp [h2]
theorem Xx (y : α) {m:ByteArray} (hy:key y=m) {xs:List α} (h:rV key xs m=none) (n:ByteArray):rV key (xs ++ [y]) n=if m=n then some y else rV key xs n:=by
 unfold rV at *;rw [List.find?_append]
 by_cases h1:m=n
 ·subst h1;simp [h,jL,hy]
 ·have:jL key n y=false:=by simp [jL,hy,h1]
  simp [this,h1]
theorem tW {xs:List α} {n:ByteArray} {x : α} (h:rV key xs n=some x):key x=n∧x∈xs:=by
 unfold rV at h;exact ⟨by simpa [jL] using List.find?_some h,List.mem_of_find?_eq_some h⟩
theorem Xy {xs:List α} {n:ByteArray} (h:rV key xs n=none):∀ x∈xs,key x≠n:=by
 intro x hx e;have:=List.find?_eq_none.1 h x hx;simp [jL,e] at this
theorem Ft [Inhabited α] {xs:List α} {m:ByteArray} {y : α} (hy:key y=m) (h : ¬ aZ (jL key m) xs 0<0):(xs.set (aZ (jL key m) xs 0).toNat y).map key=xs.map key:=by
 rw [List.map_set];obtain ⟨e1,_⟩:=Gt h;obtain ⟨e2,_⟩:=tW e1;rcases idxFrom_range (jL key m) xs 0 with h3 | h3
 ·rw [h3] at h;omega
 ·have hj:(aZ (jL key m) xs 0).toNat<xs.length:=by omega
  have:xs.getD ((aZ (jL key m) xs 0).toNat - 0) default=xs[(aZ (jL key m) xs 0).toNat]:=by simp [List.getD_eq_getElem?_getD,hj]
  rw [this] at e2;rw [hy];have e3:m=(xs.map key)[(aZ (jL key m) xs 0).toNat]'(by simpa using hj):=by rw [List.getElem_map];exact e2.symm
  conv=>lhs;arg 3;rw [e3]
  exact List.set_getElem_self _
end
abbrev uY (fs:List FileR) (n:ByteArray):Option FileR:=rV FileR.name fs n
abbrev fE (ls:List LinkR) (n:ByteArray):Option LinkR:=rV LinkR.media ls n
def statL (f:Option FileR) (sum:Int):Int :=
 match f with
 | none=>3
 | some f=>if !f.present then 3 else if f.sum != sum then 2 else 1
def aLn (fs:List FileR) (l:Option LinkR):Int :=
 match l with
 | none=>0
 | some l=>statL (uY fs l.file) l.sum
theorem wJ {fs:List FileR} {n:ByteArray}:jM fs n<0 ↔ uY fs n=none:=by rw [Ar];exact Rt
theorem Ry {fs:List LinkR} {n:ByteArray}:mG fs n<0 ↔ fE fs n=none:=by rw [wA];exact Rt
theorem wH {fs:List FileR} {n:ByteArray} (h : ¬ jM fs n<0):uY fs n=some (gR fs (jM fs n)):=by
 rw [Ar] at h ⊢;exact (Gt h).1
theorem Gu {fs:List LinkR} {n:ByteArray} (h : ¬ mG fs n<0):fE fs n=some (fs.getD (mG fs n).toNat default):=by
 rw [wA] at h ⊢;exact (Gt h).1
theorem Kx (s:StateR) (n:ByteArray):status s n=aLn s.files (fE s.links n):=by
 obtain ⟨fs,ls⟩:=s;unfold status;simp only;split
 ·rename_i h;rw [Ry.1 h];rfl
 ·rename_i h;rw [Gu h];unfold aLn jR statL;simp only
  by_cases h1:jM fs (ls.getD (mG ls n).toNat default).file<0
  ·rw [wJ.1 h1,decide_eq_true h1];rfl
  ·rw [wH h1,decide_eq_false h1];rfl
theorem Er (fs:List FileR) (n:ByteArray):rY fs n=match uY fs n with | none=>false | some f=>f.present:=by
 unfold rY
 by_cases h1:jM fs n<0
 ·rw [wJ.1 h1];simp [h1];omega
 ·rw [wH h1];simp;omega
structure Ok (s:StateR):Prop where
 nf:s.files.length≤32
 nl:s.links.length≤16
 fk:(s.files.map FileR.name).Nodup
 lk:(s.links.map LinkR.media).Nodup
 fn:∀ f∈s.files,aT f.name=true
 ln:∀ l∈s.links,aT l.media=true∧aT l.file=true∧(emp l.proxy=true∨(aT l.proxy=true∧l.proxy≠l.media))
theorem xE {α : Type} [Inhabited α] {xs:List α} {key : α → ByteArray}:(xs.map key).Nodup ↔ ∀ k,k<xs.length→uH (key (xs.getD k default)) ((xs.take k).map key)=false:=by
 rw [List.nodup_iff_pairwise_ne,List.pairwise_iff_getElem];constructor
 ·intro h k hk;rw [Bool.eq_false_iff];intro hm;obtain ⟨i,hi,hn⟩:=(Rh (by omega)).1 hm;have:=h i k (by rw [List.length_map];omega) (by rw [List.length_map];omega) hi;rw [List.getElem_map,List.getElem_map, ← aJ (by omega), ← aJ hk] at this;exact this hn
 ·intro h i j hi hj hij e;rw [List.length_map] at hi hj;rw [List.getElem_map,List.getElem_map, ← aJ hi, ← aJ hj] at e;have:=h j hj;rw [(Rh (by omega)).2 ⟨i,hij,e⟩] at this;cases this
theorem Eb (s:StateR):fL s=true ↔ Ok s:=by
 unfold fL;simp only [Bool.and_eq_true,decide_eq_true_eq,wL];constructor
 ·rintro ⟨⟨⟨h3,h4⟩,h1⟩,h2⟩;refine ⟨by omega,by omega,xE.2 fun k hk=>?_,xE.2 fun k hk=>?_,fun f hf=>?_,fun l hl=>?_⟩
  ·have:=h1 k hk;simp only [okF,Bool.and_eq_true,Bool.not_eq_true'] at this;exact this.2
  ·have:=h2 k hk;simp only [okL,Bool.and_eq_true,Bool.not_eq_true'] at this;exact this.1.1.1.2
  ·obtain ⟨k,hk,rfl⟩:=aMk hf;have:=h1 k hk;simp only [okF,Bool.and_eq_true] at this;exact this.1
  ·obtain ⟨k,hk,rfl⟩:=aMk hl;have:=h2 k hk;simp only [okL,Bool.and_eq_true,Bool.or_eq_true,Bool.not_eq_true',gA,decide_eq_false_iff_not] at this;refine ⟨this.1.1.1.1,this.1.1.2,?_⟩;rcases this.1.2 with h | h
   ·exact .inl h
   ·exact .inr ⟨h,this.2⟩
 ·rintro ⟨h3,h4,h5,h6,h7,h8⟩;refine ⟨⟨⟨by omega,by omega⟩,fun k hk=>?_⟩,fun k hk=>?_⟩
  ·simp only [okF,Bool.and_eq_true,Bool.not_eq_true'];exact ⟨h7 _ (aW hk),xE.1 h5 k hk⟩
  ·have:=h8 (s.links.getD k default) (aW hk);simp only [okL,Bool.and_eq_true,Bool.or_eq_true,Bool.not_eq_true'];refine ⟨⟨⟨⟨this.1,xE.1 h6 k hk⟩,this.2.1⟩,?_⟩,?_⟩
   ·rcases this.2.2 with h | h
    ·exact .inl h
    ·exact .inr h.1
   ·rcases this.2.2 with h | h
    ·exact aVj h this.1
    ·rw [gA,decide_eq_false_iff_not];exact h.2
theorem emp_iff (s:ByteArray):emp s=decide (s=⟨#[]⟩):=gA s ⟨#[]⟩
theorem mem_set_or {α : Type} {l:List α} {i:Nat} {a x : α} (h:x∈l.set i a):x∈l∨x=a:=by
 rcases List.mem_or_eq_of_mem_set h with h | h
 ·exact .inl h
 ·exact .inr h
theorem aL4 {s:StateR} {nm:ByteArray} {sum:Int} (hs:Ok s) (hn:aT nm=true) (h0:(dJ s nm sum).1=0) :
  Ok (dJ s nm sum).2∧(dJ s nm sum).2.links=s.links∧(dJ s nm sum).2.files.length≤s.files.length+1 ∧ ∀ n,uY (dJ s nm sum).2.files n=if nm=n then some ⟨nm,sum,true⟩ else uY s.files n:=by
 unfold dJ at h0 ⊢
 by_cases h : 0≤jM s.files nm
 ·simp only [if_pos h];rw [Ar] at h ⊢;have h' : ¬ aZ (jL FileR.name nm) s.files 0<0:=by omega
  refine ⟨⟨?_,hs.nl,?_,hs.lk,?_,hs.ln⟩,trivial,by simp,fun n=>?_⟩
  ·simpa using hs.nf
  ·show ((s.files.set _ _).map FileR.name).Nodup
   rw [Ft (key:=FileR.name) (m:=nm) rfl h'];exact hs.fk
  ·intro f hf;rcases mem_set_or hf with hf | rfl
   ·exact hs.fn f hf
   ·exact hn
  ·exact look_set (key:=FileR.name) ⟨nm,sum,true⟩ (m:=nm) rfl (k:=0) h' n
 ·simp only [if_neg h] at h0 ⊢
  by_cases h1 : 32≤s.files.length
  ·simp [if_pos h1] at h0
  ·simp only [if_neg h1];have hno:uY s.files nm=none:=wJ.1 (by omega);refine ⟨⟨?_,hs.nl,?_,hs.lk,?_,hs.ln⟩,trivial,by simp,fun n=>?_⟩
   ·simp;omega
   ·simp only [List.map_append,List.map_cons,List.map_nil];rw [List.nodup_append];refine ⟨hs.fk,by simp,?_⟩;intro a ha b hb;simp at hb;subst hb;obtain ⟨f,hf,rfl⟩:=List.mem_map.1 ha;exact Xy hno f hf
   ·intro f hf;rcases List.mem_append.1 hf with hf | hf
    ·exact hs.fn f hf
    ·simp at hf;subst hf;exact hn
   ·exact Xx (key:=FileR.name) ⟨nm,sum,true⟩ rfl hno n
theorem aQr {s:StateR} {nm:ByteArray} (hs:Ok s) (h0:(gM s nm).1=0) :
  Ok (gM s nm).2∧(gM s nm).2.links=s.links∧(gM s nm).2.files.length≤s.files.length+1 ∧ ∃ f,uY s.files nm=some f∧f.present=true ∧ ∀ n,uY (gM s nm).2.files n=if nm=n then some { f with present:=false } else uY s.files n:=by
 unfold gM at h0 ⊢;cases hb:rY s.files nm with
 | false=>simp [hb] at h0
 | true =>
  simp only [if_true];rw [Er] at hb
  by_cases hi:jM s.files nm<0
  ·rw [wJ.1 hi] at hb;cases hb
  have ha:=wH hi;rw [ha] at hb;simp only at hb;obtain ⟨hk,hm⟩:=tW ha;refine ⟨⟨?_,hs.nl,?_,hs.lk,?_,hs.ln⟩,trivial,by simp,_,ha,hb,fun n=>?_⟩
  ·simpa using hs.nf
  ·show ((s.files.set _ _).map FileR.name).Nodup
   rw [Ar] at hi hk ⊢;rw [Ft (key:=FileR.name) ?_ hi]
   ·exact hs.fk
   ·exact hk
  ·intro f hf;rcases mem_set_or hf with hf | rfl
   ·exact hs.fn f hf
   ·show aT (gR s.files (jM s.files nm)).name=true
    exact hs.fn _ hm
  ·rw [Ar] at hi hk ⊢;refine look_set (key:=FileR.name) _ ?_ (k:=0) hi n;exact hk
theorem aGh {s:StateR} {md nm:ByteArray} (hs:Ok s) (hm:aT md=true) (hn:aT nm=true) (h0:(cH s md nm).1=0) :
  Ok (cH s md nm).2∧(cH s md nm).2.files=s.files∧(cH s md nm).2.links.length≤s.links.length+1∧fE s.links md=none ∧ ∃ f,uY s.files nm=some f∧f.present=true ∧
   ∀ n,fE (cH s md nm).2.links n=if md=n then some ⟨md,nm,f.sum,⟨#[]⟩⟩ else fE s.links n:=by
 unfold cH at h0 ⊢
 by_cases h : 0≤mG s.links md
 ·simp [if_pos h] at h0
 simp only [if_neg h] at h0 ⊢;cases hb:rY s.files nm with
 | false=>simp [hb] at h0
 | true =>
  simp only [hb,if_true] at h0 ⊢
  by_cases h1 : 16≤s.links.length
  ·simp [if_pos h1] at h0
  simp only [if_neg h1];have hno:fE s.links md=none:=Ry.1 (by omega);rw [Er] at hb
  by_cases hi:jM s.files nm<0
  ·rw [wJ.1 hi] at hb;cases hb
  have ha:=wH hi;rw [ha] at hb;refine ⟨⟨hs.nf,?_,hs.fk,?_,hs.fn,?_⟩,trivial,by simp,hno,_,ha,hb,fun n=>?_⟩
  ·simp;omega
  ·simp only [List.map_append,List.map_cons,List.map_nil];rw [List.nodup_append];refine ⟨hs.lk,by simp,?_⟩;intro a ha b hb;simp at hb;subst hb;obtain ⟨f,hf,rfl⟩:=List.mem_map.1 ha;exact Xy hno f hf
  ·intro l hl;rcases List.mem_append.1 hl with hl | hl
   ·exact hs.ln l hl
   ·simp at hl;subst hl;exact ⟨hm,hn, .inl (by rw [emp_iff];rfl)⟩
  ·exact Xx (key:=LinkR.media) _ rfl hno n
theorem aJk {s:StateR} {md nm:ByteArray} (hs:Ok s) (hm:aT md=true) (hn:aT nm=true) (h0:(mD s md nm).1=0) :
  Ok (mD s md nm).2∧(mD s md nm).2.files=s.files∧(mD s md nm).2.links.length≤s.links.length+1 ∧ ∃ l f,fE s.links md=some l∧uY s.files nm=some f∧f.present=true ∧
   ∀ n,fE (mD s md nm).2.links n=if md=n then some { l with file:=nm,sum:=f.sum } else fE s.links n:=by
 unfold mD at h0 ⊢
 by_cases h:mG s.links md<0
 ·simp [h] at h0
 cases hb:rY s.files nm with
 | false=>simp [hb] at h0
 | true =>
  simp only [hb,h,decide_false,Bool.not_true,Bool.or_self,Bool.false_eq_true,if_false] at h0 ⊢;rw [Er] at hb
  by_cases hi:jM s.files nm<0
  ·rw [wJ.1 hi] at hb;cases hb
  have ha:=wH hi;rw [ha] at hb;have hl:=Gu h;obtain ⟨hk,hmem⟩:=tW hl;refine ⟨⟨hs.nf,?_,hs.fk,?_,hs.fn,?_⟩,trivial,by simp,_,_,hl,ha,hb,fun n=>?_⟩
  ·simpa using hs.nl
  ·show ((s.links.set _ _).map LinkR.media).Nodup
   rw [wA] at h hk ⊢;rw [Ft (key:=LinkR.media) ?_ h]
   ·exact hs.lk
   ·exact hk
  ·intro l hl;rcases mem_set_or hl with hl | rfl
   ·exact hs.ln l hl
   ·have:=hs.ln _ hmem;exact ⟨this.1,hn,this.2.2⟩
  ·rw [wA] at h hk ⊢;refine look_set (key:=LinkR.media) _ ?_ (k:=0) h n;exact hk
theorem aL2 {s:StateR} {md px:ByteArray} (hs:Ok s) (hp:aA7 px=true) (h0:(jN s md px).1=0) :
  Ok (jN s md px).2∧(jN s md px).2.files=s.files∧(jN s md px).2.links.length≤s.links.length+1 ∧ ∃ l,fE s.links md=some l ∧
   ∀ n,fE (jN s md px).2.links n=if md=n then some { l with proxy:=px } else fE s.links n:=by
 unfold jN at h0 ⊢;rw [gA] at h0 ⊢
 by_cases he:px=md
 ·simp [he] at h0
 simp only [he,decide_false,Bool.false_eq_true,if_false] at h0 ⊢
 by_cases h:mG s.links md<0
 ·simp [h] at h0
 cases hb:(!emp px&&decide (mG s.links px<0)) with
 | true=>simp [hb] at h0
 | false =>
  simp only [h,hb,decide_false,Bool.or_self,Bool.false_eq_true,if_false] at h0 ⊢;have hl:=Gu h;obtain ⟨hk,hmem⟩:=tW hl;refine ⟨⟨hs.nf,?_,hs.fk,?_,hs.fn,?_⟩,trivial,by simp,_,hl,fun n=>?_⟩
  ·simpa using hs.nl
  ·show ((s.links.set _ _).map LinkR.media).Nodup
   rw [wA] at h hk ⊢;rw [Ft (key:=LinkR.media) ?_ h]
   ·exact hs.lk
   ·exact hk
  ·intro l hl;rcases mem_set_or hl with hl | rfl
   ·exact hs.ln l hl
   ·have:=hs.ln _ hmem;refine ⟨this.1,this.2.1,?_⟩;unfold aA7 at hp;rw [Bool.or_eq_true] at hp;rcases hp with hp | hp
    ·exact .inl hp
    ·exact .inr ⟨hp,fun e=>he (e.trans hk)⟩
  ·rw [wA] at h hk ⊢;refine look_set (key:=LinkR.media) _ ?_ (k:=0) h n;exact hk
structure StepOk (s:StateR) (e:EventR) (t:StateR):Prop where
 ok:Ok t
 nf:t.files.length≤s.files.length+1
 nl:t.links.length≤s.links.length+1
 keep:∀ n,fE s.links n≠none→fE t.links n≠none
 new:∀ n,fE t.links n≠none→fE s.links n≠none∨e.media=n
theorem Dz {s:StateR} {e:EventR} (hs:Ok s) (he:kB e=true) (h0:(bJ s e).1=0):StepOk s e (bJ s e).2:=by
 unfold bJ at h0 ⊢;unfold kB at he
 by_cases h1:e.kind=1
 ·simp only [if_pos h1] at h0 he ⊢;simp only [Bool.and_eq_true] at he;obtain ⟨q1,q2,q3,q4⟩:=aL4 hs he.1.1 h0;exact ⟨q1,q3,by rw [q2];omega,fun n h=>by rw [q2];exact h,fun n h=>by rw [q2] at h;exact .inl h⟩
 simp only [if_neg h1] at h0 he ⊢
 by_cases h2:e.kind=2
 ·simp only [if_pos h2] at h0 he ⊢;obtain ⟨q1,q2,q3,q4⟩:=aQr hs h0;exact ⟨q1,q3,by rw [q2];omega,fun n h=>by rw [q2];exact h,fun n h=>by rw [q2] at h;exact .inl h⟩
 simp only [if_neg h2] at h0 he ⊢
 by_cases h3:e.kind=3
 ·simp only [if_pos h3] at h0 ⊢;rw [if_pos (.inl h3)] at he;simp only [Bool.and_eq_true] at he;obtain ⟨q1,q2,q3,q4,f,q5,q6,q7⟩:=aGh hs he.1.1.1 he.1.1.2 h0;refine ⟨q1,by rw [q2];omega,q3,fun n h=>?_,fun n h=>?_⟩
  ·rw [q7];split
   ·simp
   ·exact h
  ·by_cases hm:e.media=n
   ·exact .inr hm
   ·rw [q7,if_neg hm] at h;exact .inl h
 simp only [if_neg h3] at h0 ⊢
 by_cases h4:e.kind=4
 ·simp only [if_pos h4] at h0 ⊢;rw [if_pos (.inr h4)] at he;simp only [Bool.and_eq_true] at he;obtain ⟨q1,q2,q3,l,f,q4,q5,q6,q7⟩:=aJk hs he.1.1.1 he.1.1.2 h0;refine ⟨q1,by rw [q2];omega,q3,fun n h=>?_,fun n h=>?_⟩
  ·rw [q7];split
   ·simp
   ·exact h
  ·by_cases hm:e.media=n
   ·exact .inr hm
   ·rw [q7,if_neg hm] at h;exact .inl h
 simp only [if_neg h4] at h0 ⊢;rw [if_neg (by rintro (h | h)<;>contradiction)] at he
 by_cases h5:e.kind=5
 ·rw [if_pos h5] at he;simp only [Bool.and_eq_true] at he;obtain ⟨q1,q2,q3,l,q4,q7⟩:=aL2 hs he.1.1.2 h0;refine ⟨q1,by rw [q2];omega,q3,fun n h=>?_,fun n h=>?_⟩
  ·rw [q7];split
   ·simp
   ·exact h
  ·by_cases hm:e.media=n
   ·exact .inr hm
   ·rw [q7,if_neg hm] at h;exact .inl h
 ·rw [if_neg h5] at he;cases he
theorem aLk {s:StateR} {e:EventR} (hs:Ok s) (he:kB e=true) (h0:(bJ s e).1=0):eZ s e=((bJ s e).2,Gf s (bJ s e).2,0):=by
 unfold eZ;rw [(Eb s).2 hs,he,if_pos h0];rfl
theorem aD5 {s:StateR} {e:EventR} (hs:Ok s) (h:(eZ s e).2.2=0):kB e=true∧(bJ s e).1=0:=by
 unfold eZ at h;rw [(Eb s).2 hs] at h;cases he:kB e with
 | false=>simp [he] at h
 | true =>
  refine ⟨rfl,?_⟩
  by_cases h0:(bJ s e).1=0
  ·exact h0
  ·simp [he,h0] at h
theorem aAd {s:StateR} {e:EventR} (hs:Ok s) (h:(eZ s e).2.2=0):StepOk s e (eZ s e).1∧(eZ s e).2.1=Gf s (eZ s e).1:=by
 obtain ⟨he,h0⟩:=aD5 hs h;rw [aLk hs he h0];exact ⟨Dz hs he h0,rfl⟩
theorem aJu:Ok ⟨[],[]⟩:=⟨by simp,by simp,by simp,by simp,by simp,by simp⟩
open Go.RowKit
set_option maxRecDepth 4000
theorem sZ {α : Type} (c : α → List T) {L:List α} {j:Nat} (x : α) {r:List V} (h:r=(c x).map V.t):(aL (L.map c)).set j r=aL ((L.set j x).map c):=by
 rw [h];unfold aL;rw [List.map_set,List.map_set]
theorem aEu {xs:List (List V)} {k:Nat} (h:k<xs.length) (d:List T) (r:List V):qD d (xs.set k r) k=r:=by
 unfold qD;rw [List.getElem?_set_self h];rfl
theorem Jk {α : Type} (c : α → List T) {L:List α} {j:Nat} (x : α) {r:List T} (h:r=c x):(L.map c).set j r=(L.set j x).map c:=by
 rw [h,List.map_set]
theorem zJ {α : Type} (c : α → List T) (l:List α) (k:Nat) (r:List V):((aL (l.map c)).set k r).length=l.length:=by
 unfold aL;rw [List.length_set,List.length_map,List.length_map]
theorem vR {α : Type} (c : α → List T) {l:List α} {k:Nat} (h:k<l.length) (d:List T) (r:List V):qD d ((aL (l.map c)).set k r) k=r :=
 aEu (by unfold aL;rw [List.length_map,List.length_map];exact h) d r
open Go.RowKit
set_option maxRecDepth 4000
def EventR.c (e:EventR):List T:=[ti e.kind,gJ e.media,gJ e.file,gJ e.proxy,tu e.sum]
abbrev Hy (e:EventR):V := .agg [aC e.kind,bM e.media,bM e.file,bM e.proxy,dS e.sum]
@[go_sem] theorem EventR.ct (e:EventR):(EventR.c e).map V.t = [aC e.kind,bM e.media,bM e.file,bM e.proxy,dS e.sum]:=rfl
@[go_sem] theorem EventR.cl (e:EventR):(EventR.c e).length=5:=rfl
@[go_sem] abbrev aAc (l:List EventR):T := .list 5 (EventR.c default) (l.map EventR.c)
def OutR.c (o:OutR):List T:=[gJ o.media,ti o.status]
@[go_sem] theorem OutR.ct (o:OutR):(OutR.c o).map V.t = [bM o.media,aC o.status]:=rfl
@[go_sem] theorem OutR.cl (o:OutR):(OutR.c o).length=2:=rfl
@[go_sem] abbrev aSc (l:List OutR):T := .list 2 (OutR.c default) (l.map OutR.c)
@[go_sem] abbrev RowF (l:List FileR):Blk := .row 153 3 (FileR.c default) (aL (l.map FileR.c))
@[go_sem] abbrev RowL (l:List LinkR):Blk := .row 135 4 (LinkR.c default) (aL (l.map LinkR.c))
abbrev stH (s:StateR):Heap:=[(2,RowL s.links),(1,RowF s.files),(0, .box [.own 1, .own 2])]
abbrev stK (s:StateR):Heap:=[(4,RowL s.links),(3,RowF s.files),(0, .box [.own 3, .own 4])]
theorem aR5 {fs:List FileR} {n:ByteArray} {k:Nat} (h:jM fs n=k):(fs.getD k default).name=n:=by
 have h0 : ¬ jM fs n<0:=by omega
 have:=(tW (wH h0)).1;unfold gR at this;rw [h,Int.toNat_natCast] at this;exact this
theorem cChange (s:StateR) (e:EventR) (hf:s.files.length≤32) (hl:s.links.length≤16) (he : 1≤e.kind∧e.kind≤5) :
  CIO Tryz.prog 189 3 (stH s) [.own 0,Hy e] (aC (bJ s e).1) (stK (bJ s e).2) 5:=by
 refine mW Tryz.X189 Tryz.func189 rfl Tryz.ntmps189 (by rw [Tryz.results189]) (aD _ ?_);simp only [go_sem,simprocAttr,dtf];refine aK 14 .done rfl (by kernel_rfl) (by kernel_rfl) (by decide) ?_;simp only [go_sem,simprocAttr,dtf];have hf':s.files.length≤maxLen:=by unfold maxLen;omega
 have hl':s.links.length≤maxLen:=by unfold maxLen;omega
 refine ⟨_,aC3 s _ hl',rfl,?_⟩;simp only [go_sem,simprocAttr,dtf];refine ⟨_,aKw s _ hf',rfl,?_⟩;simp only [go_sem,simprocAttr,dtf];refine ⟨by kernel_rfl,?_⟩;obtain ⟨x,hx⟩:∃ x,x=jM s.files e.file:=⟨_,rfl⟩
 obtain ⟨y,hy⟩:∃ y,y=mG s.links e.media:=⟨_,rfl⟩
 rw [← hx, ← hy];have hr:x = -1 ∨ ∃ k:Nat,k<s.files.length∧x=k:=by rw [hx];exact fidx_range _ _
 have hq:y = -1 ∨ ∃ k:Nat,k<s.links.length∧y=k:=by rw [hy];exact lidx_range _ _
 have hB:rY s.files e.file=(decide (x ≥ 0)&&(s.files.getD x.toNat default).present):=by unfold rY gR;rw [← hx]
 refine ⟨fun h=>?_,fun h=>?_,fun h1=>?_,fun h1=>?_⟩
 ·simp only [bxx] at h;rcases hr with hr | ⟨k,hk,hr⟩<;>omega
 ·simp only [bxx] at h;rcases hr with hr | ⟨k,hk,hr⟩<;>omega
 ·simp only [bxx] at h1;have eP:bJ s e=dJ s e.file e.sum:=by unfold bJ;rw [if_pos h1]
  rw [eP];unfold awS;simp only [go_sem,simprocAttr,dtf];refine ⟨fun h2=>?_,fun h2=>?_⟩
  ·simp only [bxx] at h2;obtain ⟨k,hk,rfl⟩:∃ k:Nat,k<s.files.length∧x=k:=by
    rcases hr with hr | hr
    ·omega
    ·exact hr
   have eA:dJ s e.file e.sum=(0,⟨s.files.set k ⟨e.file,e.sum,true⟩,s.links⟩):=by
    unfold dJ;rw [← hx,if_pos (by omega),Int.toNat_natCast]
   rw [eA];unfold awS;simp only [go_sem,simprocAttr,dtf];refine aK 18 .done rfl (by kernel_rfl) (by kernel_rfl) (by decide) ?_;have hn:=vR FileR.c hk;have hnm:=aR5 hx.symm;simp only [go_sem,simprocAttr,dtf,zJ,hn,List.set_set];refine ⟨⟨by omega,by omega⟩,hk,⟨by omega,by omega⟩,hk,by kernel_rfl,?_⟩;rw [hnm,sZ FileR.c ⟨e.file,e.sum,true⟩ (by rfl)];refine aN [(4,some 2),(3,some 1),(0,some 0)] ?_;simp only [go_sem,simprocAttr,dtf];simp
  ·simp only [bxx] at h2;have h32:((s.files.length:Int)==32)=decide (32≤s.files.length):=by
    rw [Bool.eq_iff_iff,beq_iff_eq,decide_eq_true_eq];omega
   unfold awS;simp only [go_sem,simprocAttr,dtf,gK,List.length_map];rw [h32];refine ⟨fun h3=>?_,fun h3=>?_⟩
   ·simp only [bxx] at h3;have eA:dJ s e.file e.sum=(18,s):=by
     unfold dJ;rw [← hx,if_neg (by omega),if_pos h3]
    rw [eA];unfold awS;simp only [go_sem,simprocAttr,dtf];refine aN [(4,some 2),(3,some 1),(0,some 0)] ?_;simp only [go_sem,simprocAttr,dtf];simp
   ·simp only [bxx] at h3;have eA:dJ s e.file e.sum=(0,⟨s.files ++ [⟨e.file,e.sum,true⟩],s.links⟩):=by
     unfold dJ;rw [← hx,if_neg (by omega),if_neg h3]
    rw [eA];unfold awS;simp only [go_sem,simprocAttr,dtf];refine aK 15 .done rfl (by kernel_rfl) (by kernel_rfl) (by decide) ?_;simp only [go_sem,simprocAttr,dtf];refine ⟨⟨by unfold maxLen;omega,by omega⟩,by kernel_rfl,?_⟩;refine aN [(4,some 2),(3,some 29),(0,some 0)] ?_;simp only [go_sem,simprocAttr,dtf];rw [List.map_append];simp;rfl
 ·simp only [bxx] at h1;unfold awS;simp only [go_sem,simprocAttr,dtf];refine ⟨fun h2=>?_,fun h2=>?_⟩
  ·simp only [bxx] at h2;have eP:bJ s e=gM s e.file:=by unfold bJ;rw [if_neg h1,if_pos h2]
   rw [eP];unfold awS;simp only [go_sem,simprocAttr,dtf];refine ⟨fun h3=>?_,fun h3=>?_⟩
   ·have eL:gM s e.file=(7,s):=by
     unfold gM;rw [hB,nt h3];rfl
    rw [eL];unfold awS;simp only [go_sem,simprocAttr,dtf];refine aN [(4,some 2),(3,some 1),(0,some 0)] ?_;simp only [go_sem,simprocAttr,dtf];simp
   ·have h4:=nf h3;obtain ⟨k,hk,rfl⟩:∃ k:Nat,k<s.files.length∧x=k:=by
     rcases hr with hr | hr
     ·rw [hr] at h4;cases h4
     ·exact hr
    have eL:gM s e.file=(0,⟨s.files.set k { s.files.getD k default with present:=false },s.links⟩):=by
     unfold gM gR;rw [hB,h4, ← hx,Int.toNat_natCast];rfl
    rw [eL];unfold awS;simp only [go_sem,simprocAttr,dtf];refine ⟨⟨by omega,by omega⟩,hk,?_⟩;rw [Jk FileR.c { s.files.getD k default with present:=false } (by rfl)];refine aN [(4,some 2),(3,some 1),(0,some 0)] ?_;simp only [go_sem,simprocAttr,dtf];simp
  ·simp only [bxx] at h2;unfold awS;simp only [go_sem,simprocAttr,dtf];refine ⟨fun h3=>?_,fun h3=>?_⟩
   ·simp only [bxx] at h3;have eP:bJ s e=cH s e.media e.file:=by unfold bJ;rw [if_neg h1,if_neg h2,if_pos h3]
    rw [eP];unfold awS;simp only [go_sem,simprocAttr,dtf];refine ⟨fun h4=>?_,fun h4=>?_⟩
    ·simp only [bxx] at h4;have eC:cH s e.media e.file=(8,s):=by
      unfold cH;rw [← hy,if_pos h4]
     rw [eC];unfold awS;simp only [go_sem,simprocAttr,dtf];refine aN [(4,some 2),(3,some 1),(0,some 0)] ?_;simp only [go_sem,simprocAttr,dtf];simp
    ·simp only [bxx] at h4;unfold awS;simp only [go_sem,simprocAttr,dtf];refine ⟨fun h5=>?_,fun h5=>?_⟩
     ·have eC:cH s e.media e.file=(7,s):=by
       unfold cH;rw [← hy,if_neg (by omega),hB,nt h5];rfl
      rw [eC];unfold awS;simp only [go_sem,simprocAttr,dtf];refine aN [(4,some 2),(3,some 1),(0,some 0)] ?_;simp only [go_sem,simprocAttr,dtf];simp
     ·have h6:=nf h5;obtain ⟨k,hk,rfl⟩:∃ k:Nat,k<s.files.length∧x=k:=by
       rcases hr with hr | hr
       ·rw [hr] at h6;cases h6
       ·exact hr
      have h16:((s.links.length:Int)==16)=decide (16≤s.links.length):=by
       rw [Bool.eq_iff_iff,beq_iff_eq,decide_eq_true_eq];omega
      unfold awS;simp only [go_sem,simprocAttr,dtf,gK,List.length_map];rw [h16];refine ⟨fun h7=>?_,fun h7=>?_⟩
      ·simp only [bxx] at h7;have eC:cH s e.media e.file=(18,s):=by
        unfold cH;rw [← hy,if_neg (by omega),hB,h6,if_pos rfl,if_pos h7]
       rw [eC];unfold awS;simp only [go_sem,simprocAttr,dtf];refine aN [(4,some 2),(3,some 1),(0,some 0)] ?_;simp only [go_sem,simprocAttr,dtf];simp
      ·simp only [bxx] at h7;have eC:cH s e.media e.file=(0,⟨s.files,s.links ++ [⟨e.media,e.file,(s.files.getD k default).sum,⟨#[]⟩⟩]⟩):=by
        unfold cH gR;rw [← hy, ← hx,if_neg (by omega),hB,h6,if_pos rfl,if_neg h7,Int.toNat_natCast]
       rw [eC];unfold awS;simp only [go_sem,simprocAttr,dtf];refine aK 23 .done rfl (by kernel_rfl) (by kernel_rfl) (by decide) ?_;simp only [go_sem,simprocAttr,dtf];refine ⟨⟨by omega,by omega⟩,hk,⟨by unfold maxLen;omega,by omega⟩,by kernel_rfl,?_⟩;refine aN [(4,some 37),(3,some 1),(0,some 0)] ?_;simp only [go_sem,simprocAttr,dtf];rw [List.map_append];simp;rfl
   ·simp only [bxx] at h3;unfold awS;simp only [go_sem,simprocAttr,dtf];refine ⟨fun h4=>?_,fun h4=>?_⟩
    ·simp only [bxx] at h4;have eP:bJ s e=mD s e.media e.file:=by unfold bJ;rw [if_neg h1,if_neg h2,if_neg h3,if_pos h4]
     rw [eP];unfold awS;simp only [go_sem,simprocAttr,dtf];refine ⟨fun h5=>?_,fun h5=>?_⟩
     ·have eC:mD s e.media e.file=(7,s):=by
       unfold mD;rw [hB, ← hy,if_pos h5]
      rw [eC];unfold awS;simp only [go_sem,simprocAttr,dtf];refine aN [(4,some 2),(3,some 1),(0,some 0)] ?_;simp only [go_sem,simprocAttr,dtf];simp
     ·have h5':=h5;rw [Bool.or_eq_false_iff,decide_eq_false_iff_not] at h5';have h6:=nf h5'.2;obtain ⟨k,hk,rfl⟩:∃ k:Nat,k<s.files.length∧x=k:=by
       rcases hr with hr | hr
       ·rw [hr] at h6;cases h6
       ·exact hr
      obtain ⟨j,hj,rfl⟩:∃ k:Nat,k<s.links.length∧y=k:=by
       rcases hq with hq | hq
       ·omega
       ·exact hq
      have eC:mD s e.media e.file=(0,⟨s.files,s.links.set j { s.links.getD j default with file:=e.file,sum:=(s.files.getD k default).sum }⟩):=by
       unfold mD gR;rw [hB, ← hy,h5, ← hx,Int.toNat_natCast,Int.toNat_natCast];rfl
      rw [eC];unfold awS;simp only [go_sem,simprocAttr,dtf];have hn:=vR LinkR.c hj;refine aK 26 .done rfl (by kernel_rfl) (by kernel_rfl) (by decide) ?_;simp only [go_sem,simprocAttr,dtf,zJ,hn,List.set_set];refine ⟨⟨by omega,by omega⟩,hk,⟨by omega,by omega⟩,hj,⟨by omega,by omega⟩,hj,by kernel_rfl,?_⟩;rw [sZ LinkR.c { s.links.getD j default with file:=e.file,sum:=(s.files.getD k default).sum } (by rfl)];refine aN [(4,some 2),(3,some 1),(0,some 0)] ?_;simp only [go_sem,simprocAttr,dtf];simp
    ·simp only [bxx] at h4;have h5:e.kind=5:=by omega
     have eP:bJ s e=jN s e.media e.proxy:=by unfold bJ;rw [if_neg h1,if_neg h2,if_neg h3,if_neg h4]
     rw [eP];have h5':(e.kind==5)=true:=by rw [h5];rfl
     unfold awS;simp only [go_sem,simprocAttr,dtf];rw [h5'];simp only [go_sem,simprocAttr,dtf];refine ⟨?_,fun h=>h.elim⟩;unfold awS;simp only [go_sem,simprocAttr,dtf];refine ⟨fun h6=>?_,fun h6=>?_⟩
     ·have eC:jN s e.media e.proxy=(1,s):=by
       unfold jN;rw [if_pos h6]
      rw [eC];unfold awS;simp only [go_sem,simprocAttr,dtf];refine aN [(4,some 2),(3,some 1),(0,some 0)] ?_;simp only [go_sem,simprocAttr,dtf];simp
     ·unfold awS;simp only [go_sem,simprocAttr,dtf];refine aK 16 .done rfl (by kernel_rfl) (by kernel_rfl) (by decide) ?_;simp only [go_sem,simprocAttr,dtf];refine ⟨_,fun _=>aC3 s _ hl',rfl,?_⟩;simp only [go_sem,simprocAttr,dtf];refine ⟨by kernel_rfl,?_⟩;refine brW (b:=decide (y<0)||(!emp e.proxy&&decide (mG s.links e.proxy<0))) ?_ ⟨fun h7=>?_,fun h7=>?_⟩
      ·rfl
      ·have eC:jN s e.media e.proxy=(7,s):=by
        unfold jN;rw [h6,if_neg (by decide), ← hy,if_pos h7]
       rw [eC];unfold awS;simp only [go_sem,simprocAttr,dtf];refine aN [(4,some 2),(3,some 1),(0,some 0)] ?_;simp only [go_sem,simprocAttr,dtf];simp
      ·have h7':=h7;rw [Bool.or_eq_false_iff,decide_eq_false_iff_not] at h7';obtain ⟨j,hj,rfl⟩:∃ k:Nat,k<s.links.length∧y=k:=by
        rcases hq with hq | hq
        ·omega
        ·exact hq
       have eC:jN s e.media e.proxy=(0,⟨s.files,s.links.set j { s.links.getD j default with proxy:=e.proxy }⟩):=by
        unfold jN;rw [h6,if_neg (by decide), ← hy,h7,Int.toNat_natCast];rfl
       rw [eC];unfold awS;simp only [go_sem,simprocAttr,dtf];refine aK 10 .done rfl (by kernel_rfl) (by kernel_rfl) (by decide) ?_;simp only [go_sem,simprocAttr,dtf];refine ⟨⟨by omega,by omega⟩,hj,by kernel_rfl,?_⟩;rw [sZ LinkR.c { s.links.getD j default with proxy:=e.proxy } (by rfl)];refine aN [(4,some 2),(3,some 1),(0,some 0)] ?_;simp only [go_sem,simprocAttr,dtf];simp
end Go.Proofs.YtbfnemkngoaeeaaGreat
