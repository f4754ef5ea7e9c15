/- Proved here: Picks from a slice whose elements are given, on the abstract machine. -/
import Derived.Test.YtkjdkbmfaamhaaaGreatQ03
import Derived.ProofKit
import Derived.OpenShut
import Derived.ShutString
import Derived.Test.YtkjdkbmfaamhaaaGreatProg
set_option linter.unusedSimpArgs false
set_option linter.unusedVariables false
set_option linter.unusedSectionVars false
set_option linter.unnecessarySimpa false
namespace Go.Proofs.YtkjdkbmfaamhaaaGreat
open Go.RowKit
@[go_sem] theorem dec_str{l:List UInt8}:decide ((⟨l⟩:Array UInt8).size<=maxLen)=decide (l.length<=maxLen):=rfl
theorem zV{n:Nat}(h:n<=65536):n<=maxLen:=by unfold maxLen;omega
@[go_sem] theorem dec_len0:decide (0<=maxLen)=true:=decide_eq_true (zV (by omega))
@[go_sem] theorem dec_len1:decide (1<=maxLen)=true:=decide_eq_true (zV (by omega))
@[go_sem] theorem dec_len2:decide (2<=maxLen)=true:=decide_eq_true (zV (by omega))
@[go_sem] theorem dec_len3:decide (3<=maxLen)=true:=decide_eq_true (zV (by omega))
@[go_sem] theorem dec_len5:decide (5<=maxLen)=true:=decide_eq_true (zV (by omega))
@[go_sem] theorem dec_len6:decide (6<=maxLen)=true:=decide_eq_true (zV (by omega))
@[go_sem] theorem dec_len8:decide (8<=maxLen)=true:=decide_eq_true (zV (by omega))
@[go_sem] theorem dec_len13:decide (13<=maxLen)=true:=decide_eq_true (zV (by omega))
@[go_sem] theorem nth_s2{d a0 a1:ByteArray}{n:Nat}:nth [.lit (.string d)] [[.lit (.string a0)],[.lit (.string a1)]] n=[.lit (.string ([a0,a1].getD n d))]:=uS (λx=>[.lit (.string x)]) d [a0,a1] n
@[go_sem] theorem nth_ii3{kd ke:IntKind}{d e a0 a1 a2 b0 b1 b2:Int}{n:Nat}:nth [.lit (.int kd d),.lit (.int ke e)] [[.lit (.int kd a0),.lit (.int ke b0)],[.lit (.int kd a1),.lit (.int ke b1)],[.lit (.int kd a2),.lit (.int ke b2)]] n=[.lit (.int kd ([(a0,b0),(a1,b1),(a2,b2)].getD n (d,e)).1),.lit (.int ke ([(a0,b0),(a1,b1),(a2,b2)].getD n (d,e)).2)]:=uS (λx:Int×Int=>[.lit (.int kd x.1),.lit (.int ke x.2)]) (d,e) [(a0,b0),(a1,b1),(a2,b2)] n
@[go_sem] theorem nth_i4{kd:IntKind}{d a0 a1 a2 a3:Int}{n:Nat}:nth [.lit (.int kd d)] [[.lit (.int kd a0)],[.lit (.int kd a1)],[.lit (.int kd a2)],[.lit (.int kd a3)]] n=[.lit (.int kd ([a0,a1,a2,a3].getD n d))]:=uS (λx=>[.lit (.int kd x)]) d [a0,a1,a2,a3] n
@[go_sem] theorem nth_s4{d a0 a1 a2 a3:ByteArray}{n:Nat}:nth [.lit (.string d)] [[.lit (.string a0)],[.lit (.string a1)],[.lit (.string a2)],[.lit (.string a3)]] n=[.lit (.string ([a0,a1,a2,a3].getD n d))]:=uS (λx=>[.lit (.string x)]) d [a0,a1,a2,a3] n
@[go_sem] theorem nth_i6{kd:IntKind}{d a0 a1 a2 a3 a4 a5:Int}{n:Nat}:nth [.lit (.int kd d)] [[.lit (.int kd a0)],[.lit (.int kd a1)],[.lit (.int kd a2)],[.lit (.int kd a3)],[.lit (.int kd a4)],[.lit (.int kd a5)]] n=[.lit (.int kd ([a0,a1,a2,a3,a4,a5].getD n d))]:=uS (λx=>[.lit (.int kd x)]) d [a0,a1,a2,a3,a4,a5] n
@[go_sem] theorem nth_i8{kd:IntKind}{d a0 a1 a2 a3 a4 a5 a6 a7:Int}{n:Nat}:nth [.lit (.int kd d)] [[.lit (.int kd a0)],[.lit (.int kd a1)],[.lit (.int kd a2)],[.lit (.int kd a3)],[.lit (.int kd a4)],[.lit (.int kd a5)],[.lit (.int kd a6)],[.lit (.int kd a7)]] n=[.lit (.int kd ([a0,a1,a2,a3,a4,a5,a6,a7].getD n d))]:=uS (λx=>[.lit (.int kd x)]) d [a0,a1,a2,a3,a4,a5,a6,a7] n
@[go_sem] theorem nth_ii9{kd ke:IntKind}{d e a0 a1 a2 a3 a4 a5 a6 a7 a8 b0 b1 b2 b3 b4 b5 b6 b7 b8:Int}{n:Nat}:nth [.lit (.int kd d),.lit (.int ke e)] [[.lit (.int kd a0),.lit (.int ke b0)],[.lit (.int kd a1),.lit (.int ke b1)],[.lit (.int kd a2),.lit (.int ke b2)],[.lit (.int kd a3),.lit (.int ke b3)],[.lit (.int kd a4),.lit (.int ke b4)],[.lit (.int kd a5),.lit (.int ke b5)],[.lit (.int kd a6),.lit (.int ke b6)],[.lit (.int kd a7),.lit (.int ke b7)],[.lit (.int kd a8),.lit (.int ke b8)]] n=[.lit (.int kd ([(a0,b0),(a1,b1),(a2,b2),(a3,b3),(a4,b4),(a5,b5),(a6,b6),(a7,b7),(a8,b8)].getD n (d,e)).1),.lit (.int ke ([(a0,b0),(a1,b1),(a2,b2),(a3,b3),(a4,b4),(a5,b5),(a6,b6),(a7,b7),(a8,b8)].getD n (d,e)).2)]:=uS (λx:Int×Int=>[.lit (.int kd x.1),.lit (.int ke x.2)]) (d,e) [(a0,b0),(a1,b1),(a2,b2),(a3,b3),(a4,b4),(a5,b5),(a6,b6),(a7,b7),(a8,b8)] n
def CMk(P:Program)(f:FuncId)(args:List V)(r:V)(cs:List V):Prop:=
 P.enters f=true /\∀(w:World) (S:Nat->Prop) (vs:List Value),(∀x,S x->x<w.heap.size)->RdVs w (jM S) args vs ->
  Calls P f vs.toArray w λe w'=>∃v0 b S' ty cells,e=.returned (.tuple #[v0,.pointer (some ⟨b,0,none⟩)])/\w.heap.size<=b/\(∀x,S x->S' x)/\(∀x,S' x->S x\/w.heap.size<=x) /\
   (∀x,S' x->x<w'.heap.size)/\RdV w' (jM S') r v0/\w'.heap[b]?=some (.cells cells ty (0,0))/\RdVs w' (jM S') cs cells.toList/\cells.toList.all (·.oneCell')=true/\Below w.heap.size w w' /\¬S' b
def mkK(r:V)(cs':List V)(x:V)(σ:St):Prop:=
 match x with
 | .tup [y,.own i]=>y.lend (σ.h.del i)=r/\r.pure=true/\aK0 (σ.h.look i) (σ.h.del i) cs'
 |_=>False
theorem aNx{w:World}{E:Env}{a b:V}{vs:Array Value}(h:RdVs w E [a,b] vs.toList):∃x y,vs=#[x,y]/\RdV w E a x/\RdV w E b y:=by
 obtain⟨l⟩:=vs;rcases l with _|⟨x,_|⟨y,_|⟨z,l⟩⟩⟩<;>simp only[RdVs,and_false,and_true]at h
 exact⟨x,y,rfl,h⟩
attribute [go_sem] mkK
@[go_sem] def idRen:Heap->Ren
 |[]=>[]
 |(i,_)::r=>(i,some i)::idRen r
theorem aC{n0:Nat}{σ σ':St}(hok:wkOk n0 (idRen σ'.h) σ σ'):Cd n0 σ σ':=cA _ hok
def Rv(b:Option Blk)(x:V):V:=
 match b with
 |some _=>x
 |none=> .dead
mutual
def aG1(h:Heap):V->V
 | .own i=>Rv (h.look i) (.own i)
 | .ptr i o=>Rv (h.look i) (.ptr i o)
 | .rptr i k n j=>Rv (h.look i) (.rptr i k n j)
 | .rsl i k n j=>Rv (h.look i) (.rsl i k n j)
 | .agg cs=> .agg (By h cs)
 | .tup cs=> .tup (By h cs)
 | .cond g x=> .cond g (aG1 h x)
 | .clo f cs=> .clo f (By h cs)
 | .t x=> .t x
 | .elem k d xs i j=> .elem k d xs i j
 | .dead=> .dead
def By(h:Heap):List V->List V
 |[]=>[]
 |x::xs=>aG1 h x::By h xs
end
def bE(σ:St):St:={ σ with fr:=By σ.h σ.fr }
def aY:List Nat->St->St
 |[],σ=> σ
 |i::r,σ=>aY r (bP i .dead σ)
attribute [go_sem] aY Rv aG1 By bE
def Ln:List Nat->Nat->Nat->Option Nat
 |[],_,_=>none
 |a::r,i,k=>if i=a then some k else Ln r i (k+1)
def Cb(is:List Nat)(nx j:Nat):Nat:=
 match is[j]? with
 |some i=>i
 |none=>nx+(j-is.length)
def xJ(m:Nat)(g:Nat->Nat):Heap->Heap
 |[]=>[]
 |(j,b)::r=>if j<m then xJ m g r else (g j,b.ren g)::xJ m g r
def aBx(i:Nat)(g:Nat->Nat)(b:Option Blk)(r:Heap):Heap:=
 match b with
 |some b=>(i,b.ren g)::r
 |none=>r
def outP(i:Nat)(old:Blk)(g:Nat->Nat)(h':Heap)(p:Option Nat)(r:Heap):Heap:=
 match p with
 |some j=>aBx i g (h'.look j) r
 |none=>(i,old)::r
def Hr(is:List Nat)(g:Nat->Nat)(h':Heap):Heap->Heap
 |[]=>[]
 |(i,b)::r=>outP i b g h' (Ln is i 0) (Hr is g h' r)
def inH(m:Nat)(g:Nat->Nat)(H:Heap):Heap->Prop
 |[]=>True
 |(j,b)::r=>(j<m/\yN m b.ment=true/\H.look (g j)=some (b.ren g))/\inH m g H r
def allB(m:Nat)(h:Heap):Bool:=(List.range m).all λj=>(h.look j).isSome
def Qr(n:Nat)(h:Heap):Bool:=h.all λp=>decide (p.1<n)
theorem Pz(i:Nat):∀(a b:Heap),Heap.look (a++b) i=match Heap.look a i with|some x=>some x|none=>Heap.look b i
 |[],b=>rfl
 |(j,x)::r,b=>by
  simp only[List.cons_append,Heap.look];split
  .rfl
  .exact Pz i r b
theorem Va:∀{is:List Nat} {i k:Nat},i ∉ is->Ln is i k=none
 |[],_,_,_=>rfl
 |a::r,i,k,h=>by
  simp only[List.mem_cons,not_or]at h;rw[Ln,if_neg h.1,Va h.2]
theorem aHj:∀{is:List Nat} {j k:Nat} (h:j<is.length),is.Nodup->Ln is is[j] k=some (k+j)
 |a::r,0,k,h,_=>by simp[Ln]
 |a::r,j+1,k,h,hn=>by
  rw[List.nodup_cons]at hn;simp only[List.getElem_cons_succ,Ln];rw[if_neg (λe=>hn.1 (by rw[<-e];exact List.getElem_mem _)),aHj (by simpa using h) hn.2];congr 1;omega
section
variable {m n':Nat} {g:Nat->Nat} (hinj:∀i j,i<n'->j<n'->g i=g j->i=j)
include hinj
theorem Vd{j:Nat}(hj:j<n'):∀{h:Heap},Qr n' h=true->(xJ m g h).look (g j)=if j<m then none else (h.look j).map (Blk.ren g)
 |[],_=>by simp[xJ,Heap.look]
 |(k,b)::r,hk=>by
  simp only[Qr,List.all_cons,Bool.and_eq_true,decide_eq_true_eq]at hk;have ih:=Vd hj (h:=r) (by simpa[Qr]using hk.2);unfold xJ
  by_cases hkm:k<m
  .rw[if_pos hkm,ih];split
   .rfl
   .rename_i hjm;rw[Heap.look,if_neg (by omega)]
  .rw[if_neg hkm,Heap.look]
   by_cases hjk:j=k
   .subst hjk;rw[if_pos rfl,if_neg hkm,Heap.look,if_pos rfl];rfl
   .rw[if_neg (λe=>hjk (hinj _ _ hj hk.1 e)),ih,Heap.look,if_neg hjk]
end
theorem Pk{m n':Nat}{g:Nat->Nat}{i:Nat}(hi:∀j,j<n'->g j≠i):∀{h:Heap},Qr n' h=true->(xJ m g h).look i=none
 |[],_=>rfl
 |(k,b)::r,hk=>by
  simp only[Qr,List.all_cons,Bool.and_eq_true,decide_eq_true_eq]at hk;have ih:=Pk hi (m:=m) (h:=r) (by simpa[Qr]using hk.2);unfold xJ;split
  .exact ih
  .rw[Heap.look,if_neg (λe=>hi k hk.1 e.symm),ih]
theorem Bh{is:List Nat}{g:Nat->Nat}{h':Heap}{i:Nat}:∀{H:Heap},(Hr is g h' H).look i=match Ln is i 0 with|some j=>(match H.look i with|some _=>(h'.look j).map (Blk.ren g)|none=>none)|none=>H.look i
 |[]=>by
  simp only[Hr,Heap.look];split<;>rfl
 |(k,b)::r=>by
  have ih:=Bh (is:=is) (g:=g) (h':=h') (i:=i) (H:=r);unfold Hr outP
  by_cases hik:i=k
  .subst hik;cases hp:Ln is i 0 with
   |none=>simp only[Heap.look,if_true]
   |some j=>
    simp only[Heap.look,if_true];rw[hp]at ih;simp only at ih;unfold aBx;cases hl:Heap.look h' j with
    |none=>simp only[Option.map_none];rw[ih,hl];split<;>rfl
    |some b'=>simp only[Heap.look,if_true,Option.map_some]
  .have hne:∀r',(match Ln is k 0 with|some j=>aBx k g (Heap.look h' j) r'|none=>(k,b)::r').look i=Heap.look r' i:=λr'=>by
    cases Ln is k 0 with
    |none=>simp only[Heap.look,if_neg hik]
    |some j=>
     simp only[aBx];cases Heap.look h' j with
     |none=>rfl
     |some b'=>simp only[Heap.look,if_neg hik]
   rw[hne,ih];simp only[Heap.look,if_neg hik]
theorem aJ8{m:Nat}{g:Nat->Nat}{H:Heap}:∀{h:Heap},inH m g H h ->∀j blk,h.look j=some blk->j<m/\yN m blk.ment=true/\H.look (g j)=some (blk.ren g)
 |[],_,j,blk,hl=>by simp[Heap.look]at hl
 |(k,b)::r,hi,j,blk,hl=>by
  rw[Heap.look]at hl;split at hl
  .rename_i e;subst e;injection hl with hl;subst hl;exact hi.1
  .exact aJ8 hi.2 j blk hl
theorem aU2{m:Nat}{h:Heap}(ha:allB m h=true):∀j,j<m ->∃blk,h.look j=some blk:=by
 intro j hj;simp only[allB,List.all_eq_true,List.mem_range]at ha;have:=ha j hj;cases hl:h.look j with
 |none=>rw[hl]at this;cases this
 |some b=>exact⟨b,rfl⟩
theorem xK{is:List Nat}{nx j:Nat}(h:j<is.length):Cb is nx j=is[j]:=by unfold Cb;rw[List.getElem?_eq_getElem h]
theorem Bn{is:List Nat}{nx j:Nat}(h:is.length<=j):Cb is nx j=nx+(j-is.length):=by unfold Cb;rw[List.getElem?_eq_none h]
theorem Fv{P:Program}{σ:St}{d:Option Tmp}{f:FuncId}{m n':Nat}{h h':Heap}{args xs:List V}{r:V}{K:St->Prop}(hc:CIO P f m h args r h' n')(is:List Nat)(hlen:is.length=m)(hmn:m<=n')(hnd:is.Nodup)
  (hin:inH m (Cb is σ.nx) σ.h h) (hall:allB m h=true) (hkeys:Qr n' h'=true) (hargs:yN m (V.ments args)=true) (hxs:xs=V.rens (Cb is σ.nx) args)
  (hK:K (({ σ with h:=xJ m (Cb is σ.nx) h'++Hr is (Cb is σ.nx) h' σ.h,nx:= σ.nx+(n'-m) }:St).put d (r.ren (Cb is σ.nx)))):ICall P σ d f xs K:=by
 subst hlen;refine rW hc.1 (λE w vs hr hbd hvs=>?_);have hlow:=aJ8 hin;have hal:=aU2 hall;have hold:∀j (hj:j<is.length),E.U is[j]/\is[j]<σ.nx /\∃blk,σ.h.look is[j]=some blk:=λj hj=>by
  obtain⟨blk,hb⟩:=hal j hj;have h2:=(hlow j blk hb).2.2;rw[xK hj]at h2;have h3:=hr.uses h2;exact⟨h3,hbd _ h3,_,h2⟩
 have hinj:∀i j,i<n'->j<n'->Cb is σ.nx i=Cb is σ.nx j->i=j:=λi j hi hj he=>by
  by_cases hi1:i<is.length
  .by_cases hj1:j<is.length
   .rw[xK hi1,xK hj1]at he;exact(List.getElem_inj hnd).1 he
   .rw[xK hi1,Bn (by omega)]at he;have:=(hold i hi1).2.1;omega
  .by_cases hj1:j<is.length
   .rw[xK hj1,Bn (by omega)]at he;have:=(hold j hj1).2.1;omega
   .rw[Bn (by omega),Bn (by omega)]at he;omega
 have hnew:∀j,is.length<=j->j<n' ->¬E.U (Cb is σ.nx j):=λj h1 h2 hU=>by
  rw[Bn h1]at hU;have:=hbd _ hU;omega
 subst hxs;refine(aJm hc hmn hinj hlow hal hargs hr hnew hvs).mono ?_;rintro e w' ⟨v,E',rfl,h1,h2,h3,h4⟩;refine⟨v,_,_,_,E',rfl,h1 _ (λj hj=>?_) (λi hi=>?_),λq hq=>?_,h2,h3,hK⟩
 .rw[Pz,Vd hinj hj hkeys]
  by_cases hjm:j<is.length
  .rw[if_pos hjm];simp only;rw[Bh,xK hjm,aHj hjm hnd,Nat.zero_add];obtain⟨_,_,blk,hb⟩:=hold j hjm;simp only[hb]
  .rw[if_neg hjm];cases hl:(Heap.look h' j).map (Blk.ren (Cb is σ.nx))with
   |some x=>rfl
   |none=>
    simp only;have hno:σ.h.look (Cb is σ.nx j)=none:=by
     cases hl2:σ.h.look (Cb is σ.nx j)with
     |none=>rfl
     |some b=>exact(hnew j (by omega) hj (hr.uses hl2)).elim
    rw[Bh,hno];split<;>rfl
 .rw[Pz,Pk hi hkeys];simp only;rw[Bh,Va];intro hmem;obtain⟨j,hj,he⟩:=List.mem_iff_getElem.1 hmem;exact hi j (by omega) (by rw[xK hj];exact he)
 .rcases h4 q hq with h4|⟨j,h5,h6,rfl⟩
  .have:=hbd q h4;show q<σ.nx+(n'-is.length)
   omega
  .rw[Bn h5];show _<σ.nx+(n'-is.length)
   omega
attribute [go_sem] Ln Cb xJ aBx outP Hr inH yN V.ment V.ments Fe Pw Blk.ment ioK
set_option maxRecDepth 4000
def sF(P:Program)(ops:List Oper)(Q:Exit->St->Prop)(l:List Oper)(σ:St):Prop:=
 ∀E a w,RelF E σ a w ->∀E0 w0,Ext E0 w0 E w->wpListIn (Wd E.ro) 0 P ops.toArray (sD E0 w0 Q) l a w
theorem dC{P:Program}{ops:List Oper}{Q:Exit->St->Prop}{l:List Oper}{σ:St}(h:tC P ops l (Q .normal) σ):sF P ops Q l σ:=Nf l σ h
theorem Np{P:Program}{ops:List Oper}{Q:Exit->St->Prop}{l2:List Oper}:∀(l:List Oper) (σ:St),tC P ops l (sF P ops Q l2) σ->sF P ops Q (l++l2) σ
 |[],σ,h=>h
 |o::r,σ,h=>by
  intro E a w hr E0 w0 hE;have next:∀{σ'} {E':Env} {a' w'},tC P ops r (sF P ops Q l2) σ'->RelF E' σ' a' w'->Ext E w E' w'->wpListIn (Wd E.ro) 0 P ops.toArray (sD E0 w0 Q) (r++l2) a' w':=λh3 h1 h2=>by
   have:=Np r _ h3 _ _ _ h1 E0 w0 (hE.trans h2);rwa[h2.ro]at this
  unfold tC Pm at h;rw[List.cons_append];unfold wpListIn;split at h
  .rename_i hg;have hw:Region.wanted o (yielded ops.toArray a.tmps)=true:=by simp[Region.wanted,hg]
   rw[if_pos hw];exact wQ h E a w hr _ _ λa' w' E' σ' h1 h2 h3=>next h3 h1 h2
  .rename_i j want hg;unfold Zh at h;split at h
   .rename_i g hgs;have hw:=zZ hr hg hgs;rw[hw];split at h
    .obtain⟨x,hK,hy⟩:=nX h;cases g with
     |true=>
      rw[if_pos rfl];exact fE (.inr (qG h)) (hy rfl E a w hr _ _ λv w' E' h1 h2 h3 _=>next hK (h1.put o.dst (nG (by rw[RdV];exact⟨λ_=>h3,λh=>by cases h⟩))) h2)
     |false=>
      rw[if_neg (by simp)];exact⟨λ_ _=>trivial,next hK (hr.put o.dst (nG (by rw[RdV];exact⟨λh=>(by cases h),λ_=>rfl⟩))) (Ext.refl E w)⟩
    .cases g with
     |true=>
      rw[if_pos rfl];exact wQ (h.1 rfl) E a w hr _ _ λa' w' E' σ' h1 h2 h3=>next h3 h1 h2
     |false=>
      rw[if_neg (by simp)];exact⟨λ_ _=>trivial,next (h.2 rfl) (hr.put o.dst (by simp only[RdV])) (Ext.refl E w)⟩
   .exact h.elim
theorem gA{P:Program}{ops:List Oper}{Q:Exit->St->Prop}{o:Oper}{r:List Oper}{σ:St}{j:Nat}{want:Bool}(hg:o.guard=some (j,want))(hgs:nA ops σ j want=some true)
  (h:tZ P σ o.dst o.op (sF P ops Q r)):sF P ops Q (o::r) σ:=by
 intro E a w hr E0 w0 hE;unfold wpListIn;rw[zZ hr hg hgs,if_pos rfl];exact wQ h E a w hr _ _ λa' w' E' σ' h1 h2 h3=>by
  have:=h3 E' a' w' h1 E0 w0 (hE.trans h2);rwa[h2.ro]at this
theorem Sf{P:Program}{n0 id:Nat}{ops:Array Oper}{Q:Exit->St->Prop}{σ:St}(h:sF P ops.toList Q ops.toList σ):AWP P n0 (.region id ops false) Q σ:=by
 intro E a w hr E0 w0 hU hE;have:=h E a w hr E0 w0 hE;rw[Array.toArray_toList]at this;exact wpIn_region_list this
theorem aU{P:Program}{n0 id:Nat}{ops:Array Oper}{Q:Exit->St->Prop}{σ:St}(n:Nat)(h:tC P ops.toList (ops.toList.take n) (sF P ops.toList Q (ops.toList.drop n)) σ):AWP P n0 (.region id ops false) Q σ:=by
 refine Sf ?_;have:=Np (l2:=ops.toList.drop n) (ops.toList.take n) σ h;rwa[List.take_append_drop]at this
def Blk.res(h:Heap):Blk->Blk
 | .row e k d xs=> .row e k d (xs.map (V.ress h))
 | .box cs=> .box (V.ress h cs)
 | .map es=> .map es
 | .shr t=> .shr t
 | .loop st pend tmps ps c d=> .loop st pend (V.ress h tmps) ps c d
 | .defd=> .defd
def Heap.res(h:Heap):Heap->Heap
 |[]=>[]
 |(i,b)::r=>(i,b.res h)::Heap.res h r
theorem Heap.look_res(h:Heap)(i:Nat):∀h2:Heap,(Heap.res h h2).look i=(h2.look i).map (Blk.res h)
 |[]=>rfl
 |(j,b)::r=>by
  simp only[Heap.res,Heap.look];split
  .rfl
  .exact Heap.look_res h i r
theorem aB7(h:Heap):∀xs:List V,(V.ress h xs).length=xs.length
 |[]=>rfl
 |x::xs=>by simp only[V.ress,List.length_cons,aB7 h xs]
theorem Kd(h:Heap):∀xs ys:List V,V.ress h (xs++ys)=V.ress h xs++V.ress h ys
 |[],ys=>rfl
 |x::xs,ys=>by simp only[List.cons_append,V.ress,Kd h xs ys]
theorem Et(h:Heap):∀xs:List (List V),(xs.map (V.ress h)).flatten=V.ress h xs.flatten
 |[]=>rfl
 |x::xs=>by simp only[List.map_cons,List.flatten_cons,Kd,Et h xs]
theorem Blk.rel_res{w:World}{E:Env}{h:Heap}(hr:Rel w E h){b:Blk}{hv:Value}(hb:BlkRel w E b hv):BlkRel w E (b.res h) hv:=by
 cases b with
 |row e k d xs=>
  obtain⟨cells,h1,h2,h3,h4⟩:=hb;refine⟨cells,by rw[List.length_map];exact h1,by rw[Et];exact RdVs.res hr _ h2,λx hx=>?_,h4⟩;obtain⟨y,hy,rfl⟩:=List.mem_map.1 hx;rw[aB7];exact h3 y hy
 |box cs=>
  obtain⟨b,vs,ty,h1,h2,h3,h4⟩:=hb;exact⟨b,vs,ty,h1,h2,RdVs.res hr _ h3,h4⟩
 |map es=>exact hb
 |shr t=>exact hb
 |loop st pend tmps ps c d=>
  obtain⟨l,rec,h1,h2,h3,h4,h5,h6,h7,h8⟩:=hb;exact⟨l,rec,h1,h2,h3,h4,h5,h6,h7,RdVs.res hr _ h8⟩
 |defd=>exact hb
theorem Blk.at_res{E:Env}{h:Heap}{i:Nat}{b:Blk}:E.at (b.res h) i=E.at b i:=by cases b<;>rfl
theorem Rel.res{w:World}{E:Env}{h:Heap}(hr:Rel w E h):Rel w E (Heap.res h h):=by
 refine⟨λi blk hl=>?_,λi hv hB=>?_,hr.domF,hr.own,hr.apart,hr.slt,hr.dlt⟩
 .rw[Heap.look_res]at hl;obtain⟨b,hb,rfl⟩:=Option.map_eq_some_iff.1 hl;obtain⟨hv,h1,h2⟩:=hr.has i b hb;exact⟨hv,by rw[Blk.at_res];exact h1,Blk.rel_res hr h2⟩
 .obtain⟨h1,b,h2⟩:=hr.dom i hv hB;exact⟨h1,_,by rw[Heap.look_res,h2];rfl⟩
def aRp(P:Program)(n0:Nat)(c:Code)(Q:Exit->St->Prop)(σ:St)(o:Option Heap):Prop:=
 match o with
 |some h=>AWP P n0 c Q { σ with h:=Heap.res h h,fr:=V.ress h σ.fr }
 |none=>False
theorem aTx{P:Program}{n0:Nat}{c:Code}{Q:Exit->St->Prop}{σ:St}(is:List Nat)(h:aRp P n0 c Q σ (giveL is σ.h)):AWP P n0 c Q σ:=by
 unfold aRp at h;split at h
 .rename_i h' hg;intro E a w hr E0 w0 hU hE;obtain⟨E1,r1,r2,r3⟩:=RelF.giveL is (h:= σ.h) hr hg;have:=h E1 a w ⟨Rel.res r1.rel,r1.bound,RdVs.res r1.rel _ r1.fr,r1.defers⟩ E0 w0 hU (hE.trans r2);rwa[r2.ro]at this
 .exact h.elim
def aFn(Q:Exit->St->Prop)(e:Exit)(σ:St)(o:Option Heap):Prop:=
 match o with
 |some h=>Q e { σ with h:=Heap.res h h,fr:=V.ress h σ.fr }
 |none=>False
def giveQ(is:List Nat)(Q:Exit->St->Prop)(e:Exit)(σ:St):Prop:=aFn Q e σ (giveL is σ.h)
@[go_sem] theorem giveQ_eq{is:List Nat}{Q:Exit->St->Prop}{e:Exit}{fr:List V}{h:Heap}{nx:Nat}{df:List Dfr}:giveQ is Q e ⟨fr,h,nx,df⟩=aFn Q e ⟨fr,h,nx,df⟩ (giveL is h):=rfl
attribute [go_sem] aRp aFn Blk.res Heap.res
open Go.ChangeShapes Go.WideShapes
def aGe(w:World):Nat->Prop:=λb=>b<w.heap.size
def Opens{α:Type}(P:Program)(t:TypeId)(c:α->List T):Prop:=
 ∀{H:Type} (enc:TypeId×Value->H) (w:World) (spare:Nat->Bool) (held:Bool) (n:Nat) (cs:List Value) (x:DataW H×List MemPlace),DataW.trod enc P w 0 spare held n t cs=some x ->∃a,RdTs w (aGe w) (c a) cs
section
variable {P:Program} {t:TypeId} {α β:Type}
theorem Opens.map{c:α->List T}{c':β->List T}(g:α->β)(h:∀a,c' (g a)=c a)(ho:Opens P t c):Opens P t c':=by
 intro H enc w spare held n cs x hx;obtain⟨a,ha⟩:=ho enc w spare held n cs x hx;exact⟨g a,by rw[h];exact ha⟩
theorem aLh{k:IntKind}(ht:P.underlying t=some (.int k)):Opens P t λn:Int=>[.lit (.int k n)]:=by
 intro H enc w spare held n cs x hx;obtain⟨b,rfl,_⟩:=DataW.trod_int ht hx;exact⟨b,.lit _ rfl trivial,trivial⟩
theorem Yr(ht:P.underlying t=some .string):Opens P t λs:ByteArray=>[.lit (.string s)]:=by
 intro H enc w spare held n cs x hx;obtain⟨s,rfl,_,hs⟩:=DataW.trod_string ht hx;exact⟨s,.lit _ rfl hs,trivial⟩
theorem Lb{Q:Nat->α->Prop}:∀(n:Nat),(∀i,i<n ->∃a,Q i a) ->∃al:List α,al.length=n /\∀i a,al[i]?=some a->Q i a
 |0,_=>⟨[],rfl,by simp⟩
 |n+1,h=>by
  obtain⟨al,h1,h2⟩:=Lb n λi hi=>h i (by omega)
  obtain⟨a,ha⟩:=h n (by omega);refine⟨al++[a],by simp[h1],λi b hb=>?_⟩
  by_cases hi:i<n
  .rw[List.getElem?_append_left (by omega)]at hb;exact h2 i b hb
  .have hi2:i<(al++[a]).length:=(List.getElem?_eq_some_iff.1 hb).1;have:i=n:=by simp[h1]at hi2;omega
   subst this;rw[List.getElem?_append_right (by omega),h1]at hb;simp at hb;subst hb;exact ha
theorem aMr{w:World}{a:Addr}{v:Value}(h:w.cell? a=some v):a.spot=none:=by
 unfold World.cell? at h;split at h
 .cases hs:a.spot with
  |none=>rfl
  |some x=>rw[hs]at h;simp at h
 .cases h
theorem aSe{w:World}{a:Addr}{v:Value}(h:w.cell? a=some v):a.block<w.heap.size:=by
 unfold World.cell? at h;split at h
 .rename_i hh;exact(Array.getElem?_eq_some_iff.1 hh).1
 .cases h
theorem aH8{w:World}{S:Nat->Prop}:∀{xs:List T} {vs:List Value} {j:Nat} {x:T} {v:Value},RdTs w S xs vs->xs[j]?=some x->vs[j]?=some v->RdT w S x v
 |x::xs,v::vs,0,_,_,h,hx,hv=>by simp at hx hv;subst hx hv;exact h.1
 |x::xs,v::vs,j+1,_,_,h,hx,hv=>aH8 (j:=j) h.2 (by simpa using hx) (by simpa using hv)
 |[],_,_,_,_,_,hx,_=>by simp at hx
 |_::_,[],_,_,_,h,_,_=>h.elim
theorem aBz{e:TypeId}{c:α->List T}{k:Nat}(d:List T)(ht:P.underlying t=some (.slice e))(he:Opens P e c)(hk:P.cellsOf e=k)(hc:∀a,(c a).length=k)(hpos:0<k):
  Opens P t λal:List α=>[.list k d (al.map c)]:=by
 subst hk;intro H enc w spare held n cs x hx;rcases DataW.trod_slice ht hx with ⟨rfl,_⟩|⟨a,len,cap,elems,rest,m,rfl,rfl,rfl,hb,hl,hm,hlen,hel,_,_⟩
 .exact⟨[],.list _ _ _ none 0 (Nat.zero_le _) (Nat.zero_le _) (λ_=>rfl) (by simp) (by simp) (by simp),trivial⟩
 .obtain⟨al,h1,h2⟩:=Lb (Q:=λi x=>∃cs,w.cells? 0 (a.add (i*P.cellsOf e)) (P.cellsOf e)=some cs/\RdTs w (aGe w) (c x) cs) len λi hi=>by
   have h3:=hel i hi;rw[List.getElem?_eq_getElem (by omega)]at h3;obtain⟨cs,h4,h5⟩:=Option.bind_eq_some_iff.1 h3;obtain⟨y,hy⟩:=he enc w spare held m cs _ h5;exact⟨y,cs,h4,hy⟩
  refine⟨al,?_,trivial⟩;have hlen':(al.map c).length=len:=by simp[h1]
  rw[<-hlen'];have key:∀i y,al[i]?=some y ->∃cs,RdTs w (aGe w) (c y) cs/\cs.length=P.cellsOf e/\a.spot=none/\a.block<w.heap.size /\∀j,j<P.cellsOf e->w.cell? ⟨a.block,a.off+i*P.cellsOf e+j,none⟩=cs[j]? :=by
   intro i y hy;obtain⟨cs,h3,h4⟩:=h2 i y hy;obtain⟨_,h5,h6⟩:=World.cells?_some h3;have h0:=h6 0 hpos;rw[List.getElem?_eq_getElem (by omega)]at h0;have hlt:=aSe h0;have hsp:a.spot=none:=by
    have hl0:0<al.length:=by have:=(List.getElem?_eq_some_iff.1 hy).1;omega
    obtain⟨cs0,g3,g4⟩:=h2 0 _ (List.getElem?_eq_getElem hl0);obtain⟨_,g5,g6⟩:=World.cells?_some g3;have g0:=g6 0 hpos;rw[List.getElem?_eq_getElem (by omega),Nat.zero_mul]at g0;have e0:(a.add 0).add 0=a:=by simp[Addr.add]
    rw[e0]at g0;exact aMr g0
   obtain⟨b,off,sp⟩:=a;have hsp':sp=none:=hsp;subst hsp';rw[Addr.add_lit,Addr.add_lit]at hlt;refine⟨cs,h4,h5,rfl,hlt,λj hj=>?_⟩;have:=h6 j hj;rw[Addr.add_lit,Addr.add_lit]at this;exact this
  refine .list _ _ _ (some a) cap (by omega) (by omega) (λh=>by cases h) ?_ ?_ ?_
  .intro y hy;obtain⟨z,_,rfl⟩:=List.mem_map.1 hy;exact hc z
  .intro i y hy;rw[List.getElem?_map,Option.map_eq_some_iff]at hy;obtain⟨z,hz,rfl⟩:=hy;obtain⟨cs,k1,k2,k3,k4,k5⟩:=key i z hz;obtain⟨b,off,sp⟩:=a;have k3':sp=none:=k3;subst k3';refine⟨b,off,rfl,k4,λj x hx=>?_⟩;have hj:j<P.cellsOf e:=by rw[<-hc z];exact(List.getElem?_eq_some_iff.1 hx).1
   exact⟨cs[j]'(by omega),by rw[k5 j hj,List.getElem?_eq_getElem (by omega)]⟩
  .intro i y j x' b off u hy hx' hA hu;rw[List.getElem?_map,Option.map_eq_some_iff]at hy;obtain⟨z,hz,rfl⟩:=hy;obtain⟨cs,k1,k2,k3,k4,k5⟩:=key i z hz;injection hA with hA;subst hA;have hj:j<P.cellsOf e:=by rw[<-hc z];exact(List.getElem?_eq_some_iff.1 hx').1
   rw[k5 j hj]at hu;exact aH8 k1 hx' hu
def laysF(P:Program):List Field->Nat->Option Nat
 |[],o=>some o
 |f::r,o=>if f.offset=o then laysF P r (o+P.cellsOf f.type)else none
def OpensF(P:Program)(fs:List Field)(c:α->List T):Prop:=
 ∀{H:Type} (enc:TypeId×Value->H) (w:World) (spare:Nat->Bool) (held:Bool) (n:Nat) (cs:List Value),(∀f∈fs,∃x,DataW.trod enc P w 0 spare held n f.type ((cs.drop f.offset).take (P.cellsOf f.type))=some x) ->
  ∀o e,laysF P fs o=some e ->∃a,RdTs w (aGe w) (c a) ((cs.drop o).take (e-o))
end
def Aq{α:Type}(P:Program)(t:TypeId)(v:α->V):Prop:=
 ∀{H:Type} (enc:TypeId×Value->H) (w:World) (spare:Nat->Bool) (held:Bool) (val:Value) (d:DataW H) (p:List MemPlace),Value.okWide P w .any 0 t val->DataW.Trod enc P w 0 spare held t val d p ->∃a,RdV w (jM (aGe w)) (v a) val
section
variable {P:Program} {t:TypeId} {α β:Type}
theorem Pq{w:World}{S:Nat->Prop}{x:T}{u:Value}{l:List Value}(hl:l=[u])(h:RdTs w S [x] l):RdV w (jM S) (.t x) u:=by
 subst hl;simp only[RdV];exact h.1
theorem Sw(ht:P.underlying t=some .string):Aq P t λs:ByteArray=> .t (.lit (.string s)):=by
 rintro H enc w spare held val d p hv ⟨n,hn⟩;obtain⟨b,rfl⟩:=okWide_string ht hv;obtain⟨a,ha⟩:=Yr ht enc w spare held n _ _ hn;exact⟨a,Pq rfl ha⟩
theorem Ys{e:TypeId}{x:α->T}(ht:P.underlying t=some (.slice e))(ho:Opens P t λa=>[x a]):Aq P t λa=> .t (x a):=by
 rintro H enc w spare held val d p hv ⟨n,hn⟩;obtain⟨A,l,c,rfl⟩:=okWide_slice ht hv;obtain⟨a,ha⟩:=ho enc w spare held n _ _ hn;exact⟨a,Pq rfl ha⟩
def Mr(P:Program)(ts:List TypeId)(vs:α->List V):Prop:=
 ∀{H:Type} (enc:TypeId×Value->H) (w:World) (spare:Nat->Bool) (held:Bool) (args:List Value) (ds:List (DataW H)) (p:List MemPlace),(∀(j:Nat) t v,ts[j]?=some t->args[j]?=some v->Value.okWide P w .any 0 t v) ->
  DataW.TrodAll enc P w 0 spare held ts args ds p ->∃a,RdVs w (jM (aGe w)) (vs a) args
theorem aC0:Mr P [] λ_:Unit=>[]:=by
 intro H enc w spare held args ds p hv h;cases args with
 |nil=>exact⟨(),by simp[RdVs]⟩
 |cons _ _=>cases ds<;>exact h.elim
theorem nY{ts:List TypeId}{v:α->V}{vs:β->List V}(h1:Aq P t v)(h2:Mr P ts vs):Mr P (t::ts) λx:α×β=>v x.1::vs x.2:=by
 intro H enc w spare held args ds p hv h;cases args with
 |nil=>cases ds<;>exact h.elim
 |cons u us=>
  cases ds with
  |nil=>exact h.elim
  |cons d ds=>
   obtain⟨p1,p2,k1,k2,rfl⟩:=h;obtain⟨a,ha⟩:=h1 enc w spare held u d p1 (hv 0 t u rfl rfl) k1;obtain⟨b,hb⟩:=h2 enc w spare held us ds p2 (λj t v ht hv'=>hv (j+1) t v (by simpa using ht) (by simpa using hv')) k2;exact⟨(a,b),by simp only[RdVs];exact⟨ha,hb⟩⟩
def aFg(P:Program)(ts:List TypeId):Bool:=ts.all λt=>P.readableRec t&&decide (t<P.types.size)
theorem Ec{H:Type}{enc:TypeId×Value->H}(hl:laidOutB P=true){W W':World}(hb:Below W.heap.size W W'):∀{ts:List TypeId} {vs:List Value} {ds:List (DataW H)} {p:List MemPlace},aFg P ts=true ->
  DataW.TrodAll enc P W 0 (λ_=>true) true ts vs ds p->DataW.TrodAll enc P W' 0 (λb=>decide (b<W.heap.size)) true ts vs ds p
 |[],[],[],_,_,h=>h
 |t::ts,v::vs,d::ds,p,hk,h=>by
  obtain⟨p1,p2,k1,k2,rfl⟩:=h;simp only[aFg,List.all_cons,Bool.and_eq_true,decide_eq_true_eq]at hk;refine⟨p1,p2,Below.trod hl hk.1.1 hk.1.2 k1 hb ?_,Ec hl hb (by simpa[aFg]using hk.2) k2,rfl⟩;obtain⟨m,hm⟩:=k1;exact DataW.trod_lt m _ _ _ hm
 |[],_::_,_,_,_,h=>h.elim
 |[],[],_::_,_,_,h=>h.elim
 |_::_,[],_,_,_,h=>h.elim
 |_::_,_::_,[],_,_,h=>h.elim
end
theorem aM2{P:Program}{f:FuncId}{fn:Func}{s:ChangeSpec}{c:OpenClaim}
  (k1:c.wf (OpenSpec.ofChange s)=true) (k2:laidOutB P=true) (k3:mapsRowed P=true) (k4:fn.params.all (P.readableRec ·)=true) (k5:namedTie P c.named s.vars=true)
  (k6:(c.inPlace==P.inPlace f)=true) (k7:(c.unfollowed==P.unfollowed f)=true) (k8:(c.recurses==P.recurses f)=true) (k9:(c.named==P.varsNamed f)=true)
  (k10:(c.plainKeys==P.plainKeys)=true) (k11:P.stopsHeard=true) (k12:P.mayEnter=true) (k13:(c.lifted==P.liftsFinal)=true) (k14:(P.make==some c.make)=true) (k15:(c.pinned==c.pinnedBy)=true)
  (r1:((c.stops == [])&&(P.stops == [])&&(c.knobs == [])&&(P.stopKnobs == []))=true)
  (r2:(c.maps==(fn.params.toList++s.plain.varTypes P).any (P.mapsRec ·))=true) (r3:(c.ifaces==(fn.params.toList++s.plain.varTypes P).any (P.ifacesRec ·))=true) (r4:(c.mapsOut==P.mapsAmong fn.resultTypes.toList)=true)
  (r5:(c.loops==(fn.params.toList++s.plain.varTypes P).any (P.loopsFrom ·))=true) (r6:(c.wideKeys==(fn.params.toList++s.plain.varTypes P++fn.resultTypes.toList).any (P.wideKeysFrom ·))=true)
  (r7:s.vars.all (P.varReadable ·)=true) (r8:fn.resultTypes.all (λt=>P.readableRec t&&decide (t<P.types.size))=true) (r9:(c.ifacesOut==fn.resultTypes.toList.any (P.ifacesRec ·))=true) (r10:(c.loopsOut==fn.resultTypes.toList.any (P.loopsFrom ·))=true)
  (r11:c.shortTexts.isNone=true) (r12:(c.kinds==(if c.domain.isEmpty then []else fn.params.toList.map λt=>match P.underlying t with|some (.int k)=>some k|_=>none))=true)
  (r13:(c.veiled==(fn.params.toList++s.plain.varTypes P++fn.resultTypes.toList).any (P.veiledRec ·))=true) (r14:c.veiledFits P fn.params.toList (fn.params.toList++s.plain.varTypes P++fn.resultTypes.toList)=true) :
  joinedFacts P f fn s c=true:=by
 simp only[Bool.and_eq_true]at r1;unfold joinedFacts;rw[k1,k2,k3,k4,k5,k6,k7,k8,k9,k10,k11,k12,k13,k14,k15,r1.1.1.1,r1.1.1.2,r1.1.2,r1.2,r2,r3,r4,r5,r6,r7,r8,r9,r10,r11,r13,r14];simp only[Bool.true_and,Bool.and_true];exact r12
def SAny(P:Program)(ops:Array Oper)(Q:Exit->St->Prop)(f:Nat)(listed:Array Bool)(σ:St):Prop:=
 ∀E a w,RelF E σ a w ->∀E0 w0,Ext E0 w0 E w->wpAnyIn (Wd E.ro) 0 P .any ops (sD E0 w0 Q) f listed a w
section
variable {P:Program} {l:List Oper} {Q:Exit->St->Prop} {n0 m:Nat} {L:Log} {σT σ0:St} {rs:List Rec} {fT:Nat}
end
inductive RS where
 |op (i:Nat)
 |give (is:List Nat)
def RS.tree:List RS->OT
 |[]=> .done
 | .op i::r=> .step i (RS.tree r)
 | .give _::r=>RS.tree r
def aCx(K:St->Prop)(σ:St)(o:Option Heap):Prop:=
 match o with
 |some h=>K { σ with h:=Heap.res h h,fr:=V.ress h σ.fr }
 |none=>False
def opR(P:Program)(o:Option Oper)(σ:St)(K:St->Prop):Prop:=
 match o with
 |some o=>opG P o o.guard σ K
 |none=>False
where
 opG (P:Program) (o:Oper) (g:Option (Nat×Bool)) (σ:St) (K:St->Prop):Prop:=
  match g with
  |none=>tZ P σ o.dst o.op K
  |some _=>False
def Dc(P:Program)(l:List Oper)(K:St->Prop):List RS->St->Prop
 |[],σ=>K σ
 | .op i::r,σ=>opR P (l[i]?) σ (Dc P l K r)
 | .give is::r,σ=>aCx (Dc P l K r) σ (giveL is σ.h)
@[go_sem] theorem rsteps_nil{P:Program}{l:List Oper}{K:St->Prop}{σ:St}:Dc P l K [] σ=K σ:=rfl
@[go_sem] theorem rsteps_op{P:Program}{l:List Oper}{K:St->Prop}{σ:St}{i:Nat}{r:List RS}:Dc P l K (.op i::r) σ=opR P (l[i]?) σ (Dc P l K r):=rfl
@[go_sem] theorem rsteps_give{P:Program}{l:List Oper}{K:St->Prop}{σ:St}{is:List Nat}{r:List RS}:Dc P l K (.give is::r) σ=aCx (Dc P l K r) σ (giveL is σ.h):=rfl
attribute [go_sem] aCx opR opR.opG
def rowsT:List (List V)->Option (List (List T))
 |[]=>some []
 |x::r=>rowsU (tCells x) (rowsT r)
where
 rowsU (a:Option (List T)) (b:Option (List (List T))):Option (List (List T)):=
  match a,b with
  |some a,some b=>some (a::b)
  |_,_=>none
def bsQ(k:Nat)(d:List T)(σ:St)(dst:Option Tmp)(K:St->Prop)(r:Option (List (List T))):Prop:=
 match r with
 |some rows=>K (σ.put dst (.t (.list k d rows)))
 |none=>False
def bsB(σ:St)(dst:Option Tmp)(K:St->Prop)(b:Blk):Prop:=
 match b with
 | .row _ k d xs=>bsQ k d σ dst K (rowsT xs)
 |_=>False
def bsG(l:List Oper)(σ:St)(g:Option (Nat×Bool)):Prop:=
 match g with
 |none=>True
 |some (j,want)=>nA l σ j want=some true
def bsC(P:Program)(l:List Oper)(σ:St)(o:Oper)(K:St->Prop):Prop:=bsG l σ o.guard/\kR (Lq P σ o.op) (bsB σ o.dst K)
def aGv(P:Program)(l:List Oper)(n0 i:Nat)(σ:St)(o:Oper)(b:Bool)(K:CK->St->Prop):Prop:=
 match b with
 |true=>bsC P l σ o (K .new)
 |false=>Gj P l n0 i σ o.dst o.op o.guard (ckind P o.op o.guard) (K (ckind P o.op o.guard))
def aJv(P:Program)(pu:List Nat)(l:List Oper)(n0:Nat)(fin:St->Prop):Nat->List Oper->Log->St->Prop
 |_,[],L,σ=>vJ l n0 L=true/\fin σ
 |i,o::os,L,σ=>aGv P l n0 i σ o (pu.contains i) (λk=>aJv P pu l n0 fin (i+1) os (kP i σ k (tN o.op) L))
section
variable {P:Program} {pu:List Nat} {l:List Oper} {n0 i:Nat} {fin:St->Prop} {L:Log} {σ:St}
@[go_sem] theorem cRunP_nil:aJv P pu l n0 fin i [] L σ=(vJ l n0 L=true/\fin σ):=rfl
@[go_sem] theorem cRunP_cons{o:Oper}{os:List Oper}:aJv P pu l n0 fin i (o::os) L σ=aGv P l n0 i σ o (pu.contains i) (λk=>aJv P pu l n0 fin (i+1) os (kP i σ k (tN o.op) L)):=rfl
@[go_sem] theorem stepP_true{o:Oper}{K:CK->St->Prop}:aGv P l n0 i σ o true K=bsC P l σ o (K .new):=rfl
@[go_sem] theorem stepP_false{o:Oper}{K:CK->St->Prop}:aGv P l n0 i σ o false K=Gj P l n0 i σ o.dst o.op o.guard (ckind P o.op o.guard) (K (ckind P o.op o.guard)):=rfl
end
attribute [go_sem] bsC bsG bsB bsQ rowsT rowsT.rowsU List.contains_cons List.contains_nil
theorem semS_io{P:Program}{ops:List Oper}{Q:Exit->St->Prop}{o:Oper}{r:List Oper}{σ:St}{f:FuncId}{args:Array Operand}{tys:Array TypeId}(hg:o.guard=none)(ho:o.op=.call { callee:=.value (.func f),args:=args,argTypes:=tys })
  (h:eE true (args.toList.map σ.ev) λxs=>ICall P σ o.dst f xs (sF P ops Q r)):sF P ops Q (o::r) σ:=by
 intro E a w hr E0 w0 hE;unfold wpListIn;have hw:Region.wanted o (yielded ops.toArray a.tmps)=true:=by simp[Region.wanted,hg]
 rw[if_pos hw];have hi:OpI P o σ (sF P ops Q r):=vE (.inr λc hc=>by rw[ho]at hc;cases hc) (Pj ho h);exact hi E a w hr _ _ λa' w' E' σ' h1 h2 h3=>by
  have:=h3 E' a' w' h1 E0 w0 (hE.trans h2);rwa[h2.ro]at this
def gopR(P:Program)(l:List Oper)(o:Option Oper)(σ:St)(K:St->Prop):Prop:=
 match o with
 |some o=>gopG P l o o.guard σ K
 |none=>False
where
 gopG (P:Program) (l:List Oper) (o:Oper) (g:Option (Nat×Bool)) (σ:St) (K:St->Prop):Prop:=
  match g with
  |none=>tZ P σ o.dst o.op K
  |some (j,want)=>nA l σ j want=some true/\tZ P σ o.dst o.op K
def Dr(P:Program)(l:List Oper)(K:St->Prop):List RS->St->Prop
 |[],σ=>K σ
 | .op i::r,σ=>gopR P l (l[i]?) σ (Dr P l K r)
 | .give is::r,σ=>aCx (Dr P l K r) σ (giveL is σ.h)
@[go_sem] theorem gsteps_nil{P:Program}{l:List Oper}{K:St->Prop}{σ:St}:Dr P l K [] σ=K σ:=rfl
@[go_sem] theorem gsteps_op{P:Program}{l:List Oper}{K:St->Prop}{σ:St}{i:Nat}{r:List RS}:Dr P l K (.op i::r) σ=gopR P l (l[i]?) σ (Dr P l K r):=rfl
@[go_sem] theorem gsteps_give{P:Program}{l:List Oper}{K:St->Prop}{σ:St}{is:List Nat}{r:List RS}:Dr P l K (.give is::r) σ=aCx (Dr P l K r) σ (giveL is σ.h):=rfl
attribute [go_sem] gopR gopR.gopG
def apC(P:Program)(l:List Oper)(n0 i:Nat)(σ:St)(o:Oper)(K:St->Prop):Prop:=
 bsG l σ o.guard/\apO P n0 i σ o.dst o.op K
where
 apT (n0 i:Nat) (σ:St) (d:Option Tmp) (K:St->Prop) (old:Option Nat) (k:Nat) (dd:List T) (r:Option (List (List T))):Prop:=
  match r with
  |some rows=>K (({ σ with h:=(n0+i,.shr (.list k dd rows))::Zp σ.h old }:St).put d (.t (.list k dd rows)))
  |none=>False
 apB (n0 i:Nat) (σ:St) (d:Option Tmp) (K:St->Prop) (old:Option Nat) (b:Blk):Prop:=
  match b with
  | .row _ k dd xs=>apT n0 i σ d K old k dd (rowsT xs)
  |_=>False
 apP (n0 i:Nat) (σ:St) (d:Option Tmp) (K:St->Prop) (tb:Option Nat×Blk):Prop:=apB n0 i σ d K tb.1 tb.2
 apL (P:Program) (n0 i:Nat) (σ:St) (d:Option Tmp) (args:List Operand) (tys:List TypeId) (K:St->Prop):Prop:=
  match args,tys with
  |[s,x],[t,t']=>yM P t t'/\kR (aN4 P σ (P.elemT t) s x) (apP n0 i σ d K)
  |_,_=>False
 apO (P:Program) (n0 i:Nat) (σ:St) (d:Option Tmp) (op:Op) (K:St->Prop):Prop:=
  match op with
  | .call { callee:=.builtin .append,args,argTypes }=>apL P n0 i σ d args.toList argTypes.toList K
  |_=>False
def aR1(pu pa:List Nat)(i:Nat):Nat:=if pu.contains i=true then 1 else if pa.contains i=true then 2 else 0
def aAk(P:Program)(l:List Oper)(n0 i:Nat)(σ:St)(o:Oper)(m:Nat)(K:CK->St->Prop):Prop:=
 match m with
 |1=>bsC P l σ o (K .new)
 |2=>apC P l n0 i σ o (K .app)
 |_=>Gj P l n0 i σ o.dst o.op o.guard (ckind P o.op o.guard) (K (ckind P o.op o.guard))
def aJu(P:Program)(pu pa:List Nat)(l:List Oper)(n0:Nat)(fin:St->Prop):Nat->List Oper->Log->St->Prop
 |_,[],L,σ=>vJ l n0 L=true/\fin σ
 |i,o::os,L,σ=>aAk P l n0 i σ o (aR1 pu pa i) (λk=>aJu P pu pa l n0 fin (i+1) os (kP i σ k (tN o.op) L))
section
variable {P:Program} {pu pa:List Nat} {l:List Oper} {n0 i:Nat} {fin:St->Prop} {L:Log} {σ:St}
@[go_sem] theorem cRunQ_nil:aJu P pu pa l n0 fin i [] L σ=(vJ l n0 L=true/\fin σ):=rfl
@[go_sem] theorem cRunQ_cons{o:Oper}{os:List Oper}:aJu P pu pa l n0 fin i (o::os) L σ=aAk P l n0 i σ o (aR1 pu pa i) (λk=>aJu P pu pa l n0 fin (i+1) os (kP i σ k (tN o.op) L)):=rfl
@[go_sem] theorem stepQ_1{o:Oper}{K:CK->St->Prop}:aAk P l n0 i σ o 1 K=bsC P l σ o (K .new):=rfl
@[go_sem] theorem stepQ_2{o:Oper}{K:CK->St->Prop}:aAk P l n0 i σ o 2 K=apC P l n0 i σ o (K .app):=rfl
@[go_sem] theorem stepQ_0{o:Oper}{K:CK->St->Prop}:aAk P l n0 i σ o 0 K=Gj P l n0 i σ o.dst o.op o.guard (ckind P o.op o.guard) (K (ckind P o.op o.guard)):=rfl
end
attribute [go_sem] aR1 apC apC.apO apC.apL apC.apP apC.apB apC.apT
def copyE(P:Program)(σ:St)(t:TypeId)(s x:V)(K:St->V->Prop):Prop:=
 copyA (P.elemT t)
where
 copyC (i kk lo hi e k:Nat) (blk:Option Blk) (src:Option (List T×List (List V))):Prop:=
  match blk,src with
  |some (.row e' k' d xs),some (_,ys)=>e'=e/\k'=k/\kk=k/\0<ys.length/\lo+ys.length<=hi/\K { σ with h:= σ.h.set i (.row e' k' d (xs.take lo++ys++xs.drop (lo+ys.length))) } (aA ys.length)
  |_,_=>False
 copyS (e k:Nat) (s:V):Prop:=
  match s with
  | .rsl i kk lo hi=>copyC i kk lo hi e k (σ.h.look i) (Cz σ.h k x)
  |_=>False
 copyB (e:Nat) (k:Option Nat):Prop:=
  match k with
  |some k=>copyS e k s
  |none=>False
 copyA (e:Option TypeId):Prop:=
  match e with
  |some e=>copyB e (P.szT e)
  |none=>False
def lastC(P:Program)(o:Option Oper)(σ:St)(K:St->Prop):Prop:=
 match o with
 |some o=>lastG o o.guard o.op
 |none=>False
where
 lastL (o:Oper) (args:List Operand) (tys:List TypeId):Prop:=
  match args,tys with
  |[s,x],[t,_]=>dB true (σ.ev s) λs'=>dB true (σ.ev x) λx'=>copyE P σ t s' x' λσ' v=>K (σ'.put o.dst v)
  |_,_=>False
 lastO (o:Oper) (op:Op):Prop:=
  match op with
  | .call { callee:=.builtin .copy,args,argTypes }=>lastL o args.toList argTypes.toList
  |_=>False
 lastG (o:Oper) (g:Option (Nat×Bool)) (op:Op):Prop:=
  match g with
  |none=>lastO o op
  |some _=>False
attribute [go_sem] lastC lastC.lastG lastC.lastO lastC.lastL copyE copyE.copyA copyE.copyB copyE.copyS copyE.copyC
theorem RelF.giveT2{w:World}{E:Env}{σ:St}{a:Act}{i:Nat}{blk:Blk}{hv:Value}{t:T}(hr:RelF E σ a w)(hl:σ.h.look i=some blk)(hB:E.B i=some hv)(hT:RdT w (λb=>E.S b\/aV hv=some b) t hv):
  ∃E',RelF E' { σ with h:= σ.h.set i (.shr t) } a w/\Ext E w E' w/\(∀q,E'.U q->E.U q)/\E'.F i=some hv /\∀b,E.S b\/aV hv=some b->E'.S b:=by
 let E':Env:={ S:=λb=>E.S b\/aV hv=some b,B:=λj=>if j=i then none else E.B j,U:=E.U,D:=E.D,F:=λj=>if j=i then some hv else E.F j,ro:=E.ro }
 have hUi:E.U i:=(hr.rel.dom i hv hB).1;have hE:Ext E w E' w:=by
  refine⟨rfl,rfl,rfl,Nat.le_refl _,λ_ _=>rfl,λb hb=> .inl hb,λb hb=>?_,λ_=> .rfl,λ_ h=>h,λj hj v hv'=>?_,λj hj v hv'=>?_,rfl⟩
  .rcases hb with hb|hb
   .exact .inl hb
   .exact .inr (hr.rel.own i hv b hB hb).2.2
  .simp only[E']at hv';split at hv'
   .cases hv'
   .exact hv'
  .simp only[E',Env.Is]at hv'
   by_cases hji:j=i
   .subst hji;simp only[if_true,reduceCtorEq,false_or,Option.some.injEq]at hv';subst hv';exact .inl hB
   .simp only[if_neg hji]at hv';exact hv'
 refine⟨E',⟨⟨λj blk hlj=>?_,λj v hBj=>?_,λj v hFj=>?_,λj v b hBj hbk=>?_,λp q vp vq b hBp hBq hbp hbq=>?_,λb hb=>?_,hr.rel.dlt⟩,hr.bound,hE.rdVs _ hr.fr,hE.defs hr.defers⟩,hE,λ_ h=>h,by simp[E'],λb hb=>hb⟩
 .rw[Heap.look_set _ _ _ hl]at hlj;split at hlj
  .rename_i hji;injection hlj with hlj;subst hlj;exact⟨hv,by simp[E',Env.at,hji],hT⟩
  .rename_i hji;obtain⟨v,hat,hrel⟩:=hr.rel.has j blk hlj;refine⟨v,?_,hrel.keep hE λ_ _=>rfl⟩;cases blk<;>simpa[E',Env.at,hji]using hat
 .simp only[E']at hBj;split at hBj
  .cases hBj
  .rename_i hji;obtain⟨q1,q2⟩:=hr.rel.dom j v hBj;refine⟨q1,?_⟩;rw[Heap.look_set _ _ _ hl,if_neg hji];exact q2
 .simp only[E']at hFj ⊢
  by_cases hji:j=i
  .subst hji;exact⟨hUi,by simp⟩
  .simp only[if_neg hji]at hFj⊢;exact hr.rel.domF j v hFj
 .simp only[E']at hBj⊢;split at hBj
  .cases hBj
  .rename_i hji;obtain⟨q1,q2,q3⟩:=hr.rel.own j v b hBj hbk;refine⟨q1,λhs=>?_,q3⟩;rcases hs with hs|hs
   .exact q2 hs
   .exact hji (hr.rel.apart j i v hv b hBj hB hbk hs)
 .simp only[E']at hBp hBq;split at hBp
  .cases hBp
  .split at hBq
   .cases hBq
   .exact hr.rel.apart p q vp vq b hBp hBq hbp hbq
 .rcases hb with hb|hb
  .exact hr.rel.slt b hb
  .exact(hr.rel.own i hv b hB hb).1
mutual
def V.gbx(i:Nat)(ts:List T):V->V
 | .own j=>if j=i then .elem ts.length ts [ts] 0 0 else .own j
 | .ptr j off=>if j=i then .elem ts.length ts [ts] 0 off else .ptr j off
 | .agg cs=> .agg (V.gbxs i ts cs)
 | .tup cs=> .tup (V.gbxs i ts cs)
 | .clo f cs=> .clo f (V.gbxs i ts cs)
 |x=>x
def V.gbxs(i:Nat)(ts:List T):List V->List V
 |[]=>[]
 |x::xs=>V.gbx i ts x::V.gbxs i ts xs
end
def GbOk(w:World)(E:Env)(i:Nat)(ts:List T):Prop:=∃b,(∀hv,E.Is i hv->hv=.pointer (some ⟨b,0,none⟩))/\(∃hv,E.Is i hv)/\RdT w E.S (.list ts.length ts [ts]) (.slice (some ⟨b,0,none⟩) 1 1)
mutual
theorem RdV.gbx{w:World}{E:Env}{i:Nat}{ts:List T}(hg:GbOk w E i ts):∀(x:V) {v:Value},RdV w E x v->RdV w E (x.gbx i ts) v
 | .own j,v,hx=>by
  unfold V.gbx;split
  .rename_i hji;subst hji;obtain⟨b,h1,⟨hv,h2⟩,h3⟩:=hg;simp only[RdV]at hx⊢;have e1:=hx.2.2 hv h2;have e2:=h1 hv h2;subst e1 e2;exact⟨b,0,1,h3,by simp,by simp⟩
  .exact hx
 | .ptr j off,v,hx=>by
  unfold V.gbx;split
  .rename_i hji;subst hji;obtain⟨b,h1,⟨hv,h2⟩,h3⟩:=hg;simp only[RdV]at hx⊢;obtain⟨b',e1,e2⟩:=hx.2.2 hv h2;have e3:=h1 hv h2;rw[e3]at e1;injection e1 with e1;injection e1 with e1;injection e1 with e1;subst e1 e2;exact⟨b,0,1,h3,by simp,by simp⟩
  .exact hx
 | .agg cs,v,hx=>by
  simp only[V.gbx,RdV]at hx⊢;obtain⟨vs,hv,h1,h2⟩:=hx;exact⟨vs,hv,RdVs.gbx hg cs h1,h2⟩
 | .tup cs,v,hx=>by
  simp only[V.gbx,RdV]at hx⊢;obtain⟨vs,hv,h1⟩:=hx;exact⟨vs,hv,RdVs.gbx hg cs h1⟩
 | .clo f cs,v,hx=>by
  simp only[V.gbx,RdV]at hx⊢;obtain⟨vs,hv,h1⟩:=hx;exact⟨vs,hv,RdVs.gbx hg cs h1⟩
 | .t x,v,hx=>by simpa only[V.gbx]using hx
 | .rptr i k n j,v,hx=>by simpa only[V.gbx]using hx
 | .rsl i k n j,v,hx=>by simpa only[V.gbx]using hx
 | .elem k d xs i j,v,hx=>by simpa only[V.gbx]using hx
 | .cond g x,v,hx=>by simpa only[V.gbx]using hx
 | .dead,v,hx=>by simpa only[V.gbx]using hx
theorem RdVs.gbx{w:World}{E:Env}{i:Nat}{ts:List T}(hg:GbOk w E i ts):∀(xs:List V) {vs:List Value},RdVs w E xs vs->RdVs w E (V.gbxs i ts xs) vs
 |[],[],_=>by simp only[V.gbxs,RdVs]
 |x::xs,v::vs,hx=>by
  simp only[V.gbxs,RdVs]at hx⊢;exact⟨RdV.gbx hg x hx.1,RdVs.gbx hg xs hx.2⟩
 |[],_::_,h=>by simp only[RdVs]at h
 |_::_,[],h=>by simp only[RdVs]at h
end
def gbxT(h:Heap)(b:Option Blk):Option (List T):=
 match b with
 |some (.box cs)=>lendCs (pD h) cs
 |_=>none
theorem RelF.gbx{w:World}{E:Env}{σ:St}{a:Act}{i:Nat}{ts:List T}(hr:RelF E σ a w)(hg:gbxT σ.h (σ.h.look i)=some ts):
  ∃E',RelF E' { σ with h:= σ.h.del i,fr:=V.gbxs i ts σ.fr } a w/\Ext E w E' w /\∀q,E'.U q->E.U q:=by
 unfold gbxT at hg;split at hg
 .rename_i cs hlk;obtain⟨hv,hB,b,vs,ty,rfl,hh,h1,h2⟩:=hr.rel.has i _ hlk;have hT:RdTs w E.S ts vs.toList:=wJ (λx t v h1 h2=>Qe hr.rel x t v h1 h2) hg h1;obtain⟨E',r1,r2,r3,r4,r5⟩:=hr.giveT2 (t:=.opq) hlk hB (.opq _ rfl);have hlen:=RdTs.len hT;have hcell:∀(j:Nat) x,ts[j]?=some x ->∃u,w.cell? ⟨b,0+0*ts.length+j,none⟩=some u/\vs.toList[j]?=some u:=by
   intro j x hj;have hjl:j<vs.toList.length:=by rw[<-hlen];exact(List.getElem?_eq_some_iff.1 hj).1
   refine⟨vs.toList[j],?_,List.getElem?_eq_getElem hjl⟩;simp only[World.cell?,hh,Nat.zero_mul,Nat.zero_add];simp
  have hg:GbOk w E' i ts:=by
   refine⟨b,λhv hI=>?_,⟨_,.inr r4⟩,.list ts.length ts [ts] (some ⟨b,0,none⟩) 1 (by simp[maxLen]) (by simp) (by simp) (by simp) ?_ ?_⟩
   .exact r1.rel.isF r4 hI
   .intro i' e he;cases i' with
    |zero=>
     simp at he;subst he;exact⟨b,0,rfl,r5 b (.inr rfl),λj x hj=>by obtain⟨u,hu,_⟩:=hcell j x hj;exact⟨u,hu⟩⟩
    |succ i'=>simp at he
   .intro i' e j x b' off u he hj hA hu;cases i' with
    |zero=>
     simp at he;subst he;injection hA with hA;injection hA with hA1 hA2;subst hA1 hA2;obtain⟨u',hu',hv'⟩:=hcell j x hj;rw[hu]at hu';injection hu' with hu';subst hu';exact(RdTs.nth j hT hj hv').mono r2.S λ_ _=>rfl
    |succ i'=>simp at he
  refine⟨E',⟨⟨λj blk hl=>?_,λj hv hB'=>?_,r1.rel.domF,r1.rel.own,r1.rel.apart,r1.rel.slt,r1.rel.dlt⟩,r1.bound,RdVs.gbx hg _ r1.fr,r1.defers⟩,r2,r3⟩
  .have hl0:(σ.h.del i).look j=some blk:=hl;rw[Heap.look_del]at hl0;split at hl0
   .cases hl0
   .rename_i hji;exact r1.rel.has j blk (by show(σ.h.set i (.shr .opq)).look j=_;rw[Heap.look_set _ _ _ hlk,if_neg hji];exact hl0)
  .obtain⟨q1,blk,q2⟩:=r1.rel.dom j hv hB';have hji:j≠i:=λe=>by
    subst e;rw[(r1.rel.domF j _ r4).2]at hB';cases hB'
   refine⟨q1,blk,?_⟩;show(σ.h.del i).look j=_
   rw[Heap.look_del,if_neg hji];have q3:(σ.h.set i (.shr .opq)).look j=some blk:=q2;rw[Heap.look_set _ _ _ hlk,if_neg hji]at q3;exact q3
 .cases hg
def gbxA(P:Program)(n0:Nat)(c:Code)(Q:Exit->St->Prop)(σ:St)(i:Nat)(o:Option (List T)):Prop:=
 match o with
 |some ts=>AWP P n0 c Q { σ with h:= σ.h.del i,fr:=V.gbxs i ts σ.fr }
 |none=>False
attribute [go_sem] gbxA gbxT V.gbx V.gbxs
def rmE(k:Value):List (Value×V)->List (Value×V)
 |[]=>[]
 |e::es=>if pM k e.1=true then es else e::rmE k es
def mapDelR(P:Program)(h:Heap)(u:Option (TypeId×TypeId))(m k:V):RO Heap:=
 match u,m,k with
 |some (kt,_),.own i,.t (.lit kv)=>mdA (P.underlying kt) h i kv (h.look i)
 |_,_,_=>none
where
 mdA (d:Option TypeDesc) (h:Heap) (i:Nat) (kv:Value) (b:Option Blk):RO Heap:=
  match d,b with
  |some d,some (.map es)=>some (gQ d kv=true/\fP d es=true,h.set i (.map (rmE kv es)))
  |_,_=>none
section
variable {P:Program} {σ:St} {o:Oper} {K:St->Prop}
end
attribute [go_sem] mapDelR mapDelR.mdA
def IStep(P:Program)(o:Oper)(σ:St)(K:St->Prop):Prop:=o.guard=none/\OpI P o σ K
theorem IStep.mono{P:Program}{o:Oper}{σ:St}{K K':St->Prop}(hk:∀σ,K σ->K' σ)(h:IStep P o σ K):IStep P o σ K':=
 ⟨h.1,λE a w hr next Q hn=>h.2 E a w hr next Q λa' w' E' σ' h1 h2 h3=>hn a' w' E' σ' h1 h2 (hk _ h3)⟩
def dAnyI(P:Program)(ops:Array Oper)(K:St->Prop):Nat->Array Bool->St->Prop
 |0,listed,σ=>Region.ready .any ops listed=[]/\K σ
 |f+1,listed,σ=>(Region.ready .any ops listed=[]->K σ) /\∀i∈Region.ready .any ops listed,∃o,ops[i]?=some o/\IStep P o σ (dAnyI P ops K f (listed.setIfInBounds i true))
def aFh(P:Program)(o:Option Oper)(σ:St)(K:St->Prop):Prop:=
 match o with
 |some o=>o.guard=none/\tZ P σ o.dst o.op K
 |none=>False
def xS(P:Program)(l:List Oper)(K:St->Prop):OT->St->Prop
 | .done,σ=>K σ
 | .step i t,σ=>aFh P (l[i]?) σ (xS P l K t)
 | .alt a b,σ=>xS P l K a σ/\xS P l K b σ
@[go_sem] theorem isteps_done{P:Program}{l:List Oper}{K:St->Prop}{σ:St}:xS P l K .done σ=K σ:=rfl
@[go_sem] theorem isteps_step{P:Program}{l:List Oper}{K:St->Prop}{σ:St}{i:Nat}{t:OT}:xS P l K (.step i t) σ=aFh P (l[i]?) σ (xS P l K t):=rfl
@[go_sem] theorem isteps_alt{P:Program}{l:List Oper}{K:St->Prop}{σ:St}{a b:OT}:xS P l K (.alt a b) σ=(xS P l K a σ/\xS P l K b σ):=rfl
theorem aCt{P:Program}{σ:St}{o:Oper}{K:St->Prop}:aFh P (some o) σ K=(o.guard=none/\tZ P σ o.dst o.op K):=rfl
attribute [go_sem] aCt
def aHw(ops:Array Oper):Nat->Nat->Nat->Bool
 |0,_,_=>false
 |d+1,j,i=>match ops[j]? with
  |some oj=>(oj.after.any λe=>Region.binds .any e&&e.on==i)||oj.after.any λe=>Region.binds .any e&&aHw ops d e.on i
  |none=>false
def chkEQ(l:List Oper)(n0:Nat)(L:Log)(e:Nat×Nat×Bool):Bool:=
 (L.all λf=> !(f.2.2&&f.2.1==e.2.1)||f.1==e.1||(if f.1<e.1 then aHw l.toArray 16 e.1 f.1 else aHw l.toArray 16 f.1 e.1))&&(decide (e.2.1<n0)||(decide (e.2.1-n0<e.1)&&aHw l.toArray 16 e.1 (e.2.1-n0)))
def chkLQ(l:List Oper)(n0:Nat)(L:Log):Bool:=L.all (chkEQ l n0 L)
def yZ(x y:V):Prop:=
 match y with
 | .dead=>True
 | .t b=>match x with
  | .t a=>wkE a b
  |_=>False
 |y=>x=y
def Ya:List V->List V->Prop
 |[],[]=>True
 |x::xs,y::ys=>yZ x y/\Ya xs ys
 |_,_=>False
theorem aPt{w:World}{E:Env}{x y:V}{v:Value}(h:yZ x y)(hx:RdV w E x v):RdV w E y v:=by
 unfold yZ at h;split at h
 .simp only[RdV]
 .split at h
  .simp only[RdV]at hx⊢;exact aNm h hx
  .exact h.elim
 .subst h;exact hx
theorem Un{w:World}{E:Env}:∀{xs ys:List V} {vs:List Value},Ya xs ys->RdVs w E xs vs->RdVs w E ys vs
 |[],[],[],_,_=>by simp only[RdVs]
 |x::xs,y::ys,v::vs,h,hx=>by
  simp only[RdVs]at hx⊢;exact⟨aPt h.1 hx.1,Un h.2 hx.2⟩
 |[],[],_::_,_,hx=>by simp only[RdVs]at hx
 |_::_,_::_,[],_,hx=>by simp only[RdVs]at hx
 |[],_::_,_,h,_=>h.elim
 |_::_,[],_,h,_=>h.elim
theorem dD{n0:Nat}{σ σ':St}(hok:σ.h=σ'.h/\σ.nx<=σ'.nx/\σ.df=σ'.df/\Ya σ.fr σ'.fr):Cd n0 σ σ':=by
 obtain⟨h1,h2,h3,h4⟩:=hok;intro E a w hr E0 w0 hU hE;exact⟨E,⟨h1 ▸ hr.rel,λi hi=>Nat.lt_of_lt_of_le (hr.bound i hi) h2,Un h4 hr.fr,h3 ▸ hr.defers⟩,hE⟩
theorem aE6{n0:Nat}{a b c:St}(h1:Cd n0 a b)(h2:Cd n0 b c):Cd n0 a c:=by
 intro E x w hr E0 w0 hU hE;obtain⟨E1,k1,k2⟩:=h1 E x w hr E0 w0 hU hE;exact h2 E1 x w k1 E0 w0 hU k2
def aQx(i e k:Nat)(d:List T)(σ:St):St:={ σ with fr:= σ.fr.set i (.own σ.nx),h:=(σ.nx,.row e k d [])::σ.h,nx:= σ.nx+1 }
theorem aNn{n0:Nat}{σ:St}(i e k:Nat)(d:List T)(hn:n0<=σ.nx)(hi:σ.fr[i]?=some (.t (.lit (.slice none 0 0)))):Cd n0 σ (aQx i e k d σ):=by
 intro E a w hr E0 w0 hU hE;have hb:Below w.heap.size w w:=⟨rfl,rfl,rfl,Nat.le_refl _,λ_ _=>rfl⟩
 obtain⟨k1,k2,k3⟩:=hr.add (hv:=.slice none 0 0) (blk:=.row e k d []) (S':=E.S) hb (λ_ h=>h) (λb hb=> .inl hb) hr.rel.slt
  (λ_=>⟨[],World.ownsRow_nil w 0 e k,by simp only[List.flatten_nil,RdVs],by simp,rfl⟩) (λb hb'=>by simp[aV]at hb') rfl rfl
 obtain⟨v,hv1,hv2⟩:=RdVs.get hr.fr hi;have hv3:=(aJ hv2).1;subst hv3;refine⟨_,⟨k1.rel,k1.bound,?_,k1.defers⟩,hE.trans k2⟩;have h5:=RdVs.set k3 i k1.fr;have h6:a.tmps.toList.set i (.slice none 0 0)=a.tmps.toList:=by
  apply List.ext_getElem?;intro j;rw[List.getElem?_set];split
  .rename_i hij;subst hij;split
   .exact hv1.symm
   .rename_i hlt;exact(hlt (List.getElem?_eq_some_iff.1 hv1).1).elim
  .rfl
 rw[h6]at h5;exact h5
theorem RdVs.setI{w:World}{E:Env}{x y:V}(hy:∀v,RdV w E x v->RdV w E y v):∀{xs:List V} {vs:List Value} (i:Nat),RdVs w E xs vs->xs[i]?=some x->RdVs w E (xs.set i y) vs
 |[],[],i,h,hx=>by simp at hx
 |x0::xs,v0::vs,0,h,hx=>by
  simp only[RdVs]at h;simp at hx;subst hx;simp only[List.set_cons_zero,RdVs];exact⟨hy _ h.1,h.2⟩
 |x0::xs,v0::vs,i+1,h,hx=>by
  simp only[RdVs]at h;simp only[List.set_cons_succ,RdVs];exact⟨h.1,RdVs.setI hy i h.2 (by simpa using hx)⟩
 |[],_::_,i,h,_=>by simp only[RdVs]at h
 |_::_,[],i,h,_=>by simp only[RdVs]at h
theorem Rel.recell{w:World}{E:Env}{h:Heap}{b:Nat}{cs cs':List V}(hr:Rel w E h)(hl:h.look b=some (.box cs))(hc:∀vs,RdVs w E cs vs->RdVs w E cs' vs):Rel w E (h.set b (.box cs')):=by
 refine⟨λi blk hi=>?_,λi hv hB=>?_,hr.domF,hr.own,hr.apart,hr.slt,hr.dlt⟩
 .rw[Heap.look_set _ _ _ hl]at hi;split at hi
  .rename_i hib;subst hib;injection hi with hi;subst hi;obtain⟨hv,h1,b',vs,ty,h2,h3,h4,h5⟩:=hr.has _ _ hl;exact⟨hv,h1,b',vs,ty,h2,h3,hc _ h4,h5⟩
  .exact hr.has i blk hi
 .obtain⟨q1,q2⟩:=hr.dom i hv hB;refine⟨q1,?_⟩;rw[Heap.look_set _ _ _ hl];split
  .exact⟨_,rfl⟩
  .exact q2
def aQy(b i e k:Nat)(d:List T)(cs:List V)(σ:St):St:={ σ with h:=(σ.nx,.row e k d [])::σ.h.set b (.box (cs.set i (.own σ.nx))),nx:= σ.nx+1 }
theorem aKb{n0:Nat}{σ:St}(b i e k:Nat)(d:List T)(cs:List V)(hn:n0<=σ.nx)(hl:σ.h.look b=some (.box cs))(hi:cs[i]?=some (.t (.lit (.slice none 0 0)))):Cd n0 σ (aQy b i e k d cs σ):=by
 intro E a w hr E0 w0 hU hE;have hb:Below w.heap.size w w:=⟨rfl,rfl,rfl,Nat.le_refl _,λ_ _=>rfl⟩
 have hbn:b≠σ.nx:=λe=>by
  have:=hr.bound b (hr.rel.uses hl);omega
 obtain⟨k1,k2,k3⟩:=hr.add (hv:=.slice none 0 0) (blk:=.row e k d []) (S':=E.S) hb (λ_ h=>h) (λb hb=> .inl hb) hr.rel.slt
  (λ_=>⟨[],World.ownsRow_nil w 0 e k,by simp only[List.flatten_nil,RdVs],by simp,rfl⟩) (λb hb'=>by simp[aV]at hb') rfl rfl
 have h1:Heap.look ((σ.nx,.row e k d [])::σ.h) b=some (.box cs):=by rw[Heap.look,if_neg hbn];exact hl
 have h2:=k1.rel.recell (cs':=cs.set i (.own σ.nx)) h1 λvs hvs=>RdVs.setI (λv hv=>by rw[(aJ hv).1];exact k3) i hvs hi
 rw[Heap.set,if_neg hbn]at h2;exact⟨_,⟨h2,k1.bound,k1.fr,k1.defers⟩,hE.trans k2⟩
@[go_sem] theorem Heap.set_set(h:Heap)(i:Nat)(a b:Blk):(h.set i a).set i b=h.set i b:=by
 induction h with
 |nil=>rfl
 |cons x r ih=>
  obtain⟨k,c⟩:=x;simp only[Heap.set];split
  .rename_i hk;simp only[Heap.set,if_pos hk]
  .rename_i hk;simp only[Heap.set,if_neg hk,ih]
theorem sB{P:Program}{n0:Nat}{a b:Code}{Q:Exit->St->Prop}{σ:St}{α:Type}(F:α->St)(J:α->Prop)(h1:AWP P n0 a (Jw (λσ'=>∃x,Cd n0 σ' (F x)/\J x) Q) σ)(h2:∀x,J x->AWP P n0 b Q (F x)):AWP P n0 (.seq a b) Q σ:=by
 refine aH (Gr h1 λe σ' h=>?_);cases e with
 |normal=>
  obtain⟨x,hx,hJ⟩:=h;exact jN hx (h2 x hJ)
 |_=>exact h
attribute [go_sem] Ya aQx aQy
section
variable {x:V}
@[go_sem high] theorem sameV_self:yZ x x=True:=by
 unfold yZ;split
 .rfl
 .dsimp only;exact aNk _
 .simp
@[go_sem] theorem sameV_dead:yZ x .dead=True:=rfl
@[go_sem] theorem sameV_t{b:T}:yZ x (.t b)=match x with| .t a=>wkE a b|_=>False:=rfl
@[go_sem] theorem sameV_own{i:Nat}:yZ x (.own i)=(x=.own i):=rfl
@[go_sem] theorem sameV_agg{l:List V}:yZ x (.agg l)=(x=.agg l):=rfl
@[go_sem] theorem sameV_tup{l:List V}:yZ x (.tup l)=(x=.tup l):=rfl
@[go_sem] theorem sameV_ptr{i o:Nat}:yZ x (.ptr i o)=(x=.ptr i o):=rfl
end
def XCall(P:Program)(σ:St)(d:Option Tmp)(f:FuncId)(xs:List V)(K:St->Prop):Prop:=
 ICall P σ d f xs λs=>(Gw σ.h s.h/\WFh s/\σ.nx<=s.nx)/\K s
theorem XCall.mono{P:Program}{σ:St}{d:Option Tmp}{f:FuncId}{xs:List V}{K K':St->Prop}(hk:∀σ,K σ->K' σ)(h:XCall P σ d f xs K):XCall P σ d f xs K':=
 ICall.mono (λs hs=>⟨hs.1,hk s hs.2⟩) h
def aNe(P:Program)(o:Oper)(σ:St)(K:St->Prop):Prop:=
 o.guard=none/\match o.op with
 | .call { callee:=.value (.func f),args,.. }=>eE true (args.toList.map σ.ev) λxs=>XCall P σ o.dst f xs K
 |_=>False
def stepX(P:Program)(ops:Array Oper)(b:Bool)(o:Oper)(σ:St)(K:St->Prop):Prop:=
 match b with
 |true=>aNe P o σ K
 |false=>dH P ops.toList σ o.dst o.op o.guard K
def dAnyX(P:Program)(ops:Array Oper)(xs:List Nat)(K:St->Prop):Nat->Array Bool->St->Prop
 |0,listed,σ=>Region.ready .any ops listed=[]/\K σ
 |f+1,listed,σ=>(Region.ready .any ops listed=[]->K σ) /\∀i∈Region.ready .any ops listed,∃o,ops[i]?=some o/\stepX P ops (xs.contains i) o σ (dAnyX P ops xs K f (listed.setIfInBounds i true))
def planBX(P:Program)(ops:Array Oper)(xs:List Nat):List Nat->Array Bool->Bool
 |[],_=>true
 |i::r,listed=>(Region.ready .any ops listed).contains i&&Region.free .any ops listed i&&(ops[i]?).any (fM P ·.op) && !xs.contains i &&
   ((List.range ops.size).all λj=> !(ops[j]?).any (yK P ·.op)||(xs.contains j||zN .any ops 16 j i))&&planBX P ops xs r (listed.setIfInBounds i true)
def Ar(P:Program)(l:List Oper)(b:Bool)(o:Option Oper)(σ:St)(K:St->Prop):Prop:=
 match o with
 |some o=>stepX P l.toArray b o σ K
 |none=>False
def wV(P:Program)(l:List Oper)(xs:List Nat)(K:St->Prop):OT->St->Prop
 | .done,σ=>K σ
 | .step i t,σ=>Ar P l (xs.contains i) (l[i]?) σ (wV P l xs K t)
 | .alt a b,σ=>wV P l xs K a σ/\wV P l xs K b σ
theorem RelF.wfh{E:Env}{σ:St}{a:Act}{w:World}(hr:RelF E σ a w):WFh σ:=λq hq=>by
 cases hl:σ.h.look q with
 |none=>rfl
 |some blk=>
  have:=hr.bound q (hr.rel.uses hl);omega
inductive PT where
 |done
 |look (i:Nat) (t:PT)
 |step (i:Nat) (t:PT)
def aHy(P:Program)(ops:Array Oper)(xs:List Nat)(listed:Array Bool)(i:Nat):Bool:=
 (Region.ready .any ops listed).contains i&&Region.free .any ops listed i&&(ops[i]?).any (fM P ·.op) && !xs.contains i &&
  ((List.range ops.size).all λj=> !(ops[j]?).any (yK P ·.op)||(xs.contains j||zN .any ops 16 j i))
def ptB(P:Program)(ops:Array Oper)(xs:List Nat):Nat->Array Bool->Bool->PT->Bool
 |0,listed,_,.done=>Region.ready .any ops listed == []
 |0,_,_,_=>false
 |_+1,listed,_,.done=>Region.ready .any ops listed == []
 |f+1,listed,w,.look i t=>w&&aHy P ops xs listed i&&ptB P ops xs f (listed.setIfInBounds i true) w t
 |f+1,listed,w,.step i t=>Region.ready .any ops listed == [i]&&(ops[i]?).isSome&&ptB P ops xs f (listed.setIfInBounds i true) (w&&xs.contains i) t
def xF(P:Program)(l:List Oper)(xs:List Nat)(K:St->Prop):PT->St->Prop
 | .done,σ=>K σ
 | .look i t,σ=>psteps.pstepsO P l (l[i]?) σ (xF P l xs K t)
 | .step i t,σ=>Ar P l (xs.contains i) (l[i]?) σ (xF P l xs K t)
section
variable {P:Program} {l:List Oper} {xs:List Nat} {K:St->Prop} {σ:St}
@[go_sem] theorem ptsteps_done:xF P l xs K .done σ=K σ:=rfl
@[go_sem] theorem ptsteps_look{i:Nat}{t:PT}:xF P l xs K (.look i t) σ=psteps.pstepsO P l (l[i]?) σ (xF P l xs K t):=rfl
@[go_sem] theorem ptsteps_step{i:Nat}{t:PT}:xF P l xs K (.step i t) σ=Ar P l (xs.contains i) (l[i]?) σ (xF P l xs K t):=rfl
end
section
variable {P:Program} {l:List Oper} {xs:List Nat} {K:St->Prop} {σ:St}
@[go_sem] theorem xsteps_done:wV P l xs K .done σ=K σ:=rfl
@[go_sem] theorem xsteps_step{i:Nat}{t:OT}:wV P l xs K (.step i t) σ=Ar P l (xs.contains i) (l[i]?) σ (wV P l xs K t):=rfl
@[go_sem] theorem xsteps_alt{a b:OT}:wV P l xs K (.alt a b) σ=(wV P l xs K a σ/\wV P l xs K b σ):=rfl
@[go_sem] theorem xstepsO_false{o:Oper}:Ar P l false (some o) σ K=dH P l σ o.dst o.op o.guard K:=rfl
@[go_sem] theorem xstepsO_true{o:Oper}:Ar P l true (some o) σ K=aNe P o σ K:=rfl
end
attribute [go_sem] aNe
theorem Gq{P:Program}{n0:Nat}{c:Code}{Q:Exit->St->Prop}{σ:St}(h:WFh σ->AWP P n0 c Q σ):AWP P n0 c Q σ:=by
 intro E a w hr E0 w0 hU hE;exact h hr.wfh E a w hr E0 w0 hU hE
theorem bxx:(∀(p:Prop) [Decidable p],(decide p=true)=p)/\(∀(p:Prop) [Decidable p],(decide p=false) ↔ ¬p)/\(∀(α:Type) [BEq α] [LawfulBEq α] (a b:α),((a==b)=true)↔a=b)/\(∀(α:Type) [BEq α] [LawfulBEq α] (a b:α),((a != b)=true)↔a≠b)/\(∀(α:Sort 1) (a b:α),(a≠b) = ¬(a=b))/\(∀(α:Type) [BEq α] [LawfulBEq α] (a b:α),((a==b)=false)↔a≠b)/\(∀b:Bool,((!b)=true)=(b=false))/\(∀b:Bool,(¬(b=true))=(b=false))/\(∀b:Bool,((!b)=false)=(b=true))/\(∀a b:Bool,((a||b)=true)=(a=true\/b=true))/\(∀a b:Bool,((a&&b)=true)=(a=true/\b=true))/\(∀a b:Bool,((a||b)=false)=(a=false/\b=false))/\(∀a b:Bool,((a&&b)=false)=(a=false\/b=false))/\((false=true)=False)/\(∀a b:Bool,((!a)=b)=(a=!b))/\((!true)=false)/\((!false)=true):=
 ⟨λ_ _=>decide_eq_true_eq,λ_ _=>decide_eq_false_iff_not,λ_ _ _ _ _=>beq_iff_eq,λ_ _ _ _ _=>bne_iff_ne,λ_ _ _=>rfl,λ_ _ _ _ _=>beq_eq_false_iff_ne,by decide,by decide,by decide,by decide,by decide,by decide,by decide,by decide,by decide,rfl,rfl⟩
theorem dtf:(∀h:Decidable True,@decide True h=true)/\(∀h:Decidable False,@decide False h=false):=⟨λh=>decide_true h,λh=>decide_false h⟩
theorem bff:(∀b:Bool,(b||false)=b)/\(∀b:Bool,(false||b)=b)/\(∀b:Bool,(b||true)=true)/\(∀b:Bool,(true||b)=true)/\(∀b:Bool,(b&&true)=b)/\(∀b:Bool,(true&&b)=b)/\(∀b:Bool,(b&&false)=false)/\(∀b:Bool,(false&&b)=false):=⟨Bool.or_false,Bool.false_or,Bool.or_true,Bool.true_or,Bool.and_true,Bool.true_and,Bool.and_false,Bool.false_and⟩
abbrev ti (n:Int):T:=.lit (.int .i64 n)
abbrev tu (n:Int):T:=.lit (.int .u64 n)
abbrev mW (s:ByteArray):T:=.lit (.string s)
abbrev tbl (b:Bool):T:=.lit (.bool b)
abbrev bD (n:Int):V:=.t (.lit (.int .u64 n))
def eB(n:Int):List T:=[ti n]
def aP6(s:ByteArray):List T:=[mW s]
@[go_sem] abbrev cM (l:List Int):T:=.list 1 (eB 0) (l.map eB)
@[go_sem] abbrev aGr (l:List ByteArray):T:=.list 1 (aP6 ⟨#[]⟩) (l.map aP6)
@[go_sem] theorem intC_t(n:Int):(eB n).map V.t=[aA n]:=rfl
@[go_sem] theorem strC_t(n:ByteArray):(aP6 n).map V.t=[cF n]:=rfl
@[go_sem] theorem intC_l(n:Int):(eB n).length=1:=rfl
@[go_sem] theorem strC_l(n:ByteArray):(aP6 n).length=1:=rfl
structure RatR where
 num:Int
 den:Int
 deriving Inhabited
structure SourceR where
 kind:Int
 name:ByteArray
 pos:RatR
 speed:RatR
 smooth:Bool
 deriving Inhabited
structure ClipR where
 len:Int
 kind:Int
 a:SourceR
 b:SourceR
 off:Int
 total:Int
 param:Int
 text:ByteArray
 gain:Int
 chan:List Int
 deriving Inhabited
def RatR.c(r:RatR):List T:=[ti r.num,ti r.den]
def SourceR.c(s:SourceR):List T:=[ti s.kind,mW s.name,ti s.pos.num,ti s.pos.den,ti s.speed.num,ti s.speed.den,tbl s.smooth]
def ClipR.c(c:ClipR):List T:=[ti c.len,ti c.kind,ti c.a.kind,mW c.a.name,ti c.a.pos.num,ti c.a.pos.den,ti c.a.speed.num,ti c.a.speed.den,tbl c.a.smooth,
 ti c.b.kind,mW c.b.name,ti c.b.pos.num,ti c.b.pos.den,ti c.b.speed.num,ti c.b.speed.den,tbl c.b.smooth,ti c.off,ti c.total,ti c.param,mW c.text,ti c.gain,cM c.chan]
abbrev bV (r:RatR):V:=.agg [aA r.num,aA r.den]
abbrev eH (s:SourceR):V:=.agg [aA s.kind,cF s.name,aA s.pos.num,aA s.pos.den,aA s.speed.num,aA s.speed.den,aR s.smooth]
abbrev kJ (c:ClipR):V:=.agg [aA c.len,aA c.kind,aA c.a.kind,cF c.a.name,aA c.a.pos.num,aA c.a.pos.den,aA c.a.speed.num,aA c.a.speed.den,aR c.a.smooth,
 aA c.b.kind,cF c.b.name,aA c.b.pos.num,aA c.b.pos.den,aA c.b.speed.num,aA c.b.speed.den,aR c.b.smooth,aA c.off,aA c.total,aA c.param,cF c.text,aA c.gain,.t (cM c.chan)]
@[go_sem] theorem RatR.ct(r:RatR):(RatR.c r).map V.t=[aA r.num,aA r.den]:=rfl
@[go_sem] theorem SourceR.ct(s:SourceR):(SourceR.c s).map V.t=[aA s.kind,cF s.name,aA s.pos.num,aA s.pos.den,aA s.speed.num,aA s.speed.den,aR s.smooth]:=rfl
@[go_sem] theorem ClipR.ct(c:ClipR):(ClipR.c c).map V.t=[aA c.len,aA c.kind,aA c.a.kind,cF c.a.name,aA c.a.pos.num,aA c.a.pos.den,aA c.a.speed.num,aA c.a.speed.den,aR c.a.smooth,
 aA c.b.kind,cF c.b.name,aA c.b.pos.num,aA c.b.pos.den,aA c.b.speed.num,aA c.b.speed.den,aR c.b.smooth,aA c.off,aA c.total,aA c.param,cF c.text,aA c.gain,.t (cM c.chan)]:=rfl
@[go_sem] theorem RatR.cl(r:RatR):(RatR.c r).length=2:=rfl
@[go_sem] theorem SourceR.cl(r:SourceR):(SourceR.c r).length=7:=rfl
@[go_sem] theorem ClipR.cl(r:ClipR):(ClipR.c r).length=22:=rfl
@[go_sem] abbrev jC (l:List ClipR):T:=.list 22 (ClipR.c default) (l.map ClipR.c)
theorem bB{α:Type}[Inhabited α]{xs:List α}{k:Nat}(h:k<xs.length):xs.getD k default=xs[k]:=by simp[List.getD_eq_getElem?_getD,h]
theorem brW{B b:Bool}{A C:Prop}(h:B=b)(k:(b=true->A)/\(b=false->C)):(B=true->A)/\(B=false->C):=by rw[h];exact k
theorem nt{b:Bool}(h:(!b)=true):b=false:=by cases b<;>simp_all
theorem nf{b:Bool}(h:(!b)=false):b=true:=by cases b<;>simp_all
@[go_sem] theorem bne_f{b:Bool}:(b != false)=b:=by cases b<;>rfl
def I64(n:Int):Prop:= -9223372036854775808<=n/\n<=9223372036854775807
theorem wrap64{x:Int}(h1:-9223372036854775808<=x:=by omega)(h2:x<=9223372036854775807:=by omega):IntKind.i64.wrap x=x:=by
 have e1:(2:Int) ^ IntKind.i64.bits=18446744073709551616:=by decide
 have e2:(2:Int) ^ (IntKind.i64.bits-1)=9223372036854775808:=by decide
 unfold IntKind.wrap;simp only[IntKind.signed,e1,e2,Bool.true_and,decide_eq_true_eq];split<;>omega
theorem fC{n:Nat}(h:n<=9223372036854775807:=by omega):IntKind.i64.wrap (n:Int)=n:=wrap64
theorem bJ{k:Nat}(h:k<9223372036854775807:=by omega):IntKind.i64.wrap ((k:Int)+1)=(k:Int)+1:=wrap64
theorem cZ{x:Int}(h1:0<=x:=by omega)(h2:x<=18446744073709551615:=by omega):IntKind.u64.wrap x=x:=by
 have e1:(2:Int) ^ IntKind.u64.bits=18446744073709551616:=by decide
 unfold IntKind.wrap;simp only[IntKind.signed,e1,Bool.false_and,Bool.false_eq_true,if_false];omega
theorem nD{x:Int}(h1 : -18446744073709551616<=x)(h2:x<0):IntKind.u64.wrap x=x+18446744073709551616:=by
 have e1:(2:Int) ^ IntKind.u64.bits=18446744073709551616:=by decide
 unfold IntKind.wrap;simp only[IntKind.signed,e1,Bool.false_and,Bool.false_eq_true,if_false];omega
structure RatR.fit (r:RatR):Prop where
 num:I64 r.num
 den:I64 r.den
structure SourceR.fit (s:SourceR):Prop where
 kind:I64 s.kind
 pos:s.pos.fit
 speed:s.speed.fit
structure ClipR.fit (c:ClipR):Prop where
 len:I64 c.len
 kind:I64 c.kind
 a:c.a.fit
 b:c.b.fit
 off:I64 c.off
 total:I64 c.total
 param:I64 c.param
 gain:I64 c.gain
def nmI(n:Int):Bool:=(decide (97<=n)&&decide (n<=122))||(decide (48<=n)&&decide (n<=57))||n==45||n==95||n==46
def lnI(n:Int):Bool:=decide (32<=n)&&decide (n<=126)
def wS(p:Int->Bool)(s:ByteArray):Bool:=s.data.toList.all λc=>p c.toNat
def mM(s:ByteArray)(k:Nat):Int:=(s.data.toList.getD k 0).toNat
theorem Xa(s:ByteArray):s.data.toList.length=s.size:=Array.length_toList
theorem Ca{p:Int->Bool}{s:ByteArray}{k:Nat}(h:k<s.size)(hp:p (mM s k)=false):wS p s=false:=by
 have hl:k<s.data.toList.length:=by rw[Xa];exact h
 unfold mM at hp;rw[List.getD_eq_getElem?_getD,List.getElem?_eq_getElem hl]at hp;unfold wS;rw[Bool.eq_false_iff,ne_eq,List.all_eq_true];intro h';have:=h' _ (List.getElem_mem hl);simp only[Option.getD_some]at hp;rw[hp]at this;cases this
theorem yC{p:Int->Bool}{s:ByteArray}(h:∀k,k<s.size->p (mM s k)=true):wS p s=true:=by
 unfold wS;rw[List.all_eq_true];intro c hc;obtain⟨k,hk,rfl⟩:=List.mem_iff_getElem.1 hc;have:=h k (by rw[<-Xa];exact hk);unfold mM at this;rw[List.getD_eq_getElem?_getD,List.getElem?_eq_getElem hk]at this;exact this
def fF(s:ByteArray):Bool:=decide (1<=s.size)&&decide (s.size<=32)&&wS nmI s
def jZ(s:ByteArray):Bool:=decide (1<=s.size)&&decide (s.size<=64)&&wS lnI s
@[go_sem] theorem Tryz.tq1:Tryz.prog.szT 2=some 1/\Tryz.prog.aggT 2=some false/\Tryz.prog.bytesT 2=some 8/\Tryz.prog.zeroT 2=some [Value.int IntKind.i64 0]/\cE [Value.int IntKind.i64 0]=true/\Tryz.prog.szT 3=some 1/\Tryz.prog.aggT 3=some false/\Tryz.prog.bytesT 3=some 8/\Tryz.prog.zeroT 3=some [Value.int IntKind.i64 0]/\Tryz.prog.szT 4=some 1/\Tryz.prog.aggT 4=some false/\Tryz.prog.zeroT 4=some [Value.bool false]/\cE [Value.bool false]=true/\Tryz.prog.aggT 5=some false/\Tryz.prog.szT 9=some 1/\Tryz.prog.aggT 9=some false/\Tryz.prog.bytesT 9=some 16/\Tryz.prog.zeroT 9=some [Value.string ⟨#[]⟩]/\cE [Value.string ⟨#[]⟩]=true/\Tryz.prog.szT 22=some 1/\Tryz.prog.aggT 22=some false/\Tryz.prog.elemT 22=some 3/\cE [Value.slice none 0 0]=true/\Tryz.prog.szT 23=some 1/\Tryz.prog.aggT 23=some false/\Tryz.prog.elemT 23=some 58/\Tryz.prog.szT 24=some 1/\Tryz.prog.aggT 24=some false/\Tryz.prog.elemT 24=some 61/\cE [Value.slice none 0 0,Value.slice none 0 0]=true/\Tryz.prog.szT 26=some 2/\Tryz.prog.aggT 26=some true/\Tryz.prog.plT 26=some [(0,1),(1,1)]/\Tryz.prog.zeroT 26=some [Value.slice none 0 0,Value.slice none 0 0]/\Tryz.prog.fldT 26 0=some (0,23)/\Tryz.prog.fldT 26 1=some (1,24)/\cE [Value.slice none 0 0,Value.int IntKind.i64 0]=true/\Tryz.prog.plT 31=some [(0,1),(1,1)]/\Tryz.prog.zeroT 31=some [Value.slice none 0 0,Value.int IntKind.i64 0]/\Tryz.prog.fldT 31 0=some (0,22):=by and_intros<;>kernel_rfl
@[go_sem] theorem Tryz.tq2:Tryz.prog.fldT 31 1=some (1,3)/\Tryz.prog.szT 32=some 1/\Tryz.prog.aggT 32=some false/\Tryz.prog.elemT 32=some 35/\Tryz.prog.szT 33=some 1/\Tryz.prog.aggT 33=some false/\Tryz.prog.elemT 33=some 48/\Tryz.prog.zeroT 33=some [Value.slice none 0 0]/\cE [Value.string ⟨#[]⟩,Value.slice none 0 0]=true/\Tryz.prog.szT 35=some 2/\Tryz.prog.aggT 35=some true/\Tryz.prog.bytesT 35=some 40/\Tryz.prog.plT 35=some [(0,1),(1,1)]/\Tryz.prog.zeroT 35=some [Value.string ⟨#[]⟩,Value.slice none 0 0]/\Tryz.prog.fldT 35 0=some (0,9)/\Tryz.prog.fldT 35 1=some (1,33)/\Tryz.prog.szT 38=some 1/\Tryz.prog.aggT 38=some false/\Tryz.prog.elemT 38=some 9/\Tryz.prog.szT 39=some 1/\Tryz.prog.aggT 39=some false/\Tryz.prog.elemT 39=some 2/\Tryz.prog.szT 40=some 1/\Tryz.prog.aggT 40=some false/\Tryz.prog.zeroT 40=some [Value.int IntKind.i64 0]/\Tryz.prog.szT 48=some 1/\Tryz.prog.aggT 48=some false/\Tryz.prog.elemT 48=some 76/\Tryz.prog.bytesT 48=some 24/\Tryz.prog.zeroT 48=some [Value.slice none 0 0]/\Tryz.prog.szT 50=some 1/\Tryz.prog.aggT 50=some false/\cE [Value.int IntKind.i64 0,Value.int IntKind.i64 0]=true/\Tryz.prog.szT 52=some 2/\Tryz.prog.aggT 52=some true/\Tryz.prog.plT 52=some [(0,1),(1,1)]/\Tryz.prog.zeroT 52=some [Value.int IntKind.i64 0,Value.int IntKind.i64 0]/\Tryz.prog.fldT 52 0=some (0,2)/\Tryz.prog.fldT 52 1=some (1,2):=by and_intros<;>kernel_rfl
def Tryz.z54:List Value:=[Value.int IntKind.i64 0,Value.int IntKind.i64 0,Value.int IntKind.i64 0,Value.int IntKind.i64 0,Value.bool false,Value.int IntKind.i64 0,Value.int IntKind.i64 0]++List.replicate 128 (Value.int IntKind.u8 0)
@[go_sem] theorem Tryz.zok54:cE Tryz.z54=true:=by kernel_rfl
@[go_sem] theorem Tryz.zlen54:Tryz.z54.length=135:=by kernel_rfl
@[go_sem] theorem Tryz.tq3:Tryz.prog.szT 55=some 135/\Tryz.prog.plT 55=some [(0,1),(1,1),(2,2),(4,1),(5,1),(6,1),(7,64),(71,64)]:=by and_intros<;>kernel_rfl
def Tryz.z55:List Value:=[Value.int IntKind.i64 0,Value.int IntKind.i64 0,Value.int IntKind.i64 0,Value.int IntKind.i64 0,Value.bool false,Value.int IntKind.i64 0,Value.int IntKind.i64 0]++List.replicate 128 (Value.int IntKind.u8 0)
@[go_sem] theorem Tryz.xze55:Tryz.prog.zeroT 55=some Tryz.z55:=by kernel_rfl
@[go_sem] theorem Tryz.zok55:cE Tryz.z55=true:=by kernel_rfl
@[go_sem] theorem Tryz.zlen55:Tryz.z55.length=135:=by kernel_rfl
@[go_sem] theorem Tryz.tq4:Tryz.prog.fldT 55 2=some (2,52)/\Tryz.prog.szT 56=some 1/\Tryz.prog.aggT 56=some false/\Tryz.prog.elemT 56=some 71:=by and_intros<;>kernel_rfl
def Tryz.z57:List Value:=[Value.string ⟨#[]⟩,Value.int IntKind.u64 0,Value.int IntKind.i64 0,Value.int IntKind.i64 0,Value.int IntKind.i64 0,Value.int IntKind.i64 0,Value.bool false,Value.int IntKind.i64 0,Value.int IntKind.i64 0]++List.replicate 128 (Value.int IntKind.u8 0)++[Value.int IntKind.i64 0,Value.int IntKind.i64 0,Value.int IntKind.i64 0,Value.slice none 0 0]
@[go_sem] theorem Tryz.zok57:cE Tryz.z57=true:=by kernel_rfl
@[go_sem] theorem Tryz.zlen57:Tryz.z57.length=141:=by kernel_rfl
@[go_sem] theorem Tryz.tq5:Tryz.prog.szT 58=some 141/\Tryz.prog.aggT 58=some true/\Tryz.prog.bytesT 58=some 256/\Tryz.prog.plT 58=some [(0,1),(1,1),(2,135),(137,1),(138,1),(139,1),(140,1)]:=by and_intros<;>kernel_rfl
def Tryz.z58:List Value:=[Value.string ⟨#[]⟩,Value.int IntKind.u64 0,Value.int IntKind.i64 0,Value.int IntKind.i64 0,Value.int IntKind.i64 0,Value.int IntKind.i64 0,Value.bool false,Value.int IntKind.i64 0,Value.int IntKind.i64 0]++List.replicate 128 (Value.int IntKind.u8 0)++[Value.int IntKind.i64 0,Value.int IntKind.i64 0,Value.int IntKind.i64 0,Value.slice none 0 0]
@[go_sem] theorem Tryz.xze58:Tryz.prog.zeroT 58=some Tryz.z58:=by kernel_rfl
@[go_sem] theorem Tryz.zok58:cE Tryz.z58=true:=by kernel_rfl
@[go_sem] theorem Tryz.zlen58:Tryz.z58.length=141:=by kernel_rfl
@[go_sem] theorem Tryz.tq6:Tryz.prog.fldT 58 0=some (0,9)/\Tryz.prog.fldT 58 2=some (2,55)/\Tryz.prog.fldT 58 3=some (137,2)/\Tryz.prog.fldT 58 4=some (138,3)/\Tryz.prog.fldT 58 5=some (139,2)/\Tryz.prog.fldT 58 6=some (140,56)/\Tryz.prog.szT 59=some 1/\Tryz.prog.aggT 59=some false/\Tryz.prog.elemT 59=some 68/\Tryz.prog.zeroT 59=some [Value.slice none 0 0]/\cE [Value.string ⟨#[]⟩,Value.int IntKind.i64 0,Value.int IntKind.i64 0,Value.int IntKind.i64 0,Value.int IntKind.i64 0,Value.slice none 0 0,Value.slice none 0 0,Value.slice none 0 0,Value.int IntKind.i64 0]=true/\Tryz.prog.szT 61=some 9/\Tryz.prog.aggT 61=some true/\Tryz.prog.bytesT 61=some 128/\Tryz.prog.plT 61=some [(0,1),(1,2),(3,1),(4,1),(5,1),(6,1),(7,1),(8,1)]/\Tryz.prog.zeroT 61=some [Value.string ⟨#[]⟩,Value.int IntKind.i64 0,Value.int IntKind.i64 0,Value.int IntKind.i64 0,Value.int IntKind.i64 0,Value.slice none 0 0,Value.slice none 0 0,Value.slice none 0 0,Value.int IntKind.i64 0]/\Tryz.prog.fldT 61 0=some (0,9)/\Tryz.prog.fldT 61 1=some (1,52)/\Tryz.prog.fldT 61 2=some (3,3)/\Tryz.prog.fldT 61 3=some (4,3)/\Tryz.prog.fldT 61 4=some (5,59)/\Tryz.prog.fldT 61 5=some (6,59)/\Tryz.prog.fldT 61 6=some (7,56)/\Tryz.prog.fldT 61 7=some (8,3)/\cE [Value.int IntKind.i64 0,Value.string ⟨#[]⟩,Value.int IntKind.i64 0,Value.int IntKind.i64 0,Value.int IntKind.i64 0,Value.int IntKind.i64 0,Value.bool false]=true/\Tryz.prog.szT 64=some 7/\Tryz.prog.aggT 64=some true/\Tryz.prog.bytesT 64=some 64/\Tryz.prog.plT 64=some [(0,1),(1,1),(2,2),(4,2),(6,1)]/\Tryz.prog.zeroT 64=some [Value.int IntKind.i64 0,Value.string ⟨#[]⟩,Value.int IntKind.i64 0,Value.int IntKind.i64 0,Value.int IntKind.i64 0,Value.int IntKind.i64 0,Value.bool false]/\Tryz.prog.fldT 64 0=some (0,3)/\Tryz.prog.fldT 64 1=some (1,9)/\Tryz.prog.fldT 64 2=some (2,52)/\Tryz.prog.fldT 64 3=some (4,52)/\Tryz.prog.fldT 64 4=some (6,4):=by and_intros<;>kernel_rfl
@[go_sem] theorem Tryz.xzk65:cE [Value.int IntKind.i64 0,Value.int IntKind.i64 0,Value.int IntKind.i64 0,Value.string ⟨#[]⟩,Value.int IntKind.i64 0,Value.int IntKind.i64 0,Value.int IntKind.i64 0,Value.int IntKind.i64 0,Value.bool false,Value.int IntKind.i64 0,Value.string ⟨#[]⟩,Value.int IntKind.i64 0,Value.int IntKind.i64 0,Value.int IntKind.i64 0,Value.int IntKind.i64 0,Value.bool false,Value.int IntKind.i64 0,Value.int IntKind.i64 0,Value.int IntKind.i64 0,Value.string ⟨#[]⟩,Value.int IntKind.i64 0,Value.slice none 0 0]=true:=by kernel_rfl
@[go_sem] theorem Tryz.tq7:Tryz.prog.szT 66=some 22/\Tryz.prog.aggT 66=some true/\Tryz.prog.bytesT 66=some 216/\Tryz.prog.plT 66=some [(0,1),(1,1),(2,7),(9,7),(16,1),(17,1),(18,1),(19,1),(20,1),(21,1)]:=by and_intros<;>kernel_rfl
@[go_sem] theorem Tryz.xze66:Tryz.prog.zeroT 66=some [Value.int IntKind.i64 0,Value.int IntKind.i64 0,Value.int IntKind.i64 0,Value.string ⟨#[]⟩,Value.int IntKind.i64 0,Value.int IntKind.i64 0,Value.int IntKind.i64 0,Value.int IntKind.i64 0,Value.bool false,Value.int IntKind.i64 0,Value.string ⟨#[]⟩,Value.int IntKind.i64 0,Value.int IntKind.i64 0,Value.int IntKind.i64 0,Value.int IntKind.i64 0,Value.bool false,Value.int IntKind.i64 0,Value.int IntKind.i64 0,Value.int IntKind.i64 0,Value.string ⟨#[]⟩,Value.int IntKind.i64 0,Value.slice none 0 0]:=by kernel_rfl
@[go_sem] theorem Tryz.tq8:Tryz.prog.fldT 66 0=some (0,2)/\Tryz.prog.fldT 66 1=some (1,3)/\Tryz.prog.fldT 66 2=some (2,64)/\Tryz.prog.fldT 66 3=some (9,64)/\Tryz.prog.fldT 66 4=some (16,2)/\Tryz.prog.fldT 66 5=some (17,2)/\Tryz.prog.fldT 66 6=some (18,3)/\Tryz.prog.fldT 66 7=some (19,9)/\Tryz.prog.fldT 66 8=some (20,3)/\Tryz.prog.fldT 66 9=some (21,22)/\Tryz.prog.szT 68=some 1/\Tryz.prog.aggT 68=some false/\Tryz.prog.elemT 68=some 66/\Tryz.prog.bytesT 68=some 24/\Tryz.prog.zeroT 68=some [Value.slice none 0 0]/\cE [Value.int IntKind.i64 0,Value.int IntKind.i64 0,Value.slice none 0 0]=true/\Tryz.prog.szT 71=some 3/\Tryz.prog.aggT 71=some true/\Tryz.prog.bytesT 71=some 40/\Tryz.prog.plT 71=some [(0,1),(1,1),(2,1)]/\Tryz.prog.zeroT 71=some [Value.int IntKind.i64 0,Value.int IntKind.i64 0,Value.slice none 0 0]/\Tryz.prog.fldT 71 0=some (0,2)/\Tryz.prog.fldT 71 1=some (1,2)/\Tryz.prog.fldT 71 2=some (2,38)/\Tryz.prog.elemT 72=some 52/\Tryz.prog.szT 76=some 1/\Tryz.prog.aggT 76=some false/\Tryz.prog.bytesT 76=some 2/\Tryz.prog.zeroT 76=some [Value.int IntKind.i16 0]/\cE [Value.int IntKind.i16 0]=true/\Tryz.prog.szT 78=some 1/\Tryz.prog.plT 78=some [(0,1)]/\Tryz.prog.zeroT 78=some [Value.int IntKind.i64 0]/\Tryz.prog.fldT 78 0=some (0,40)/\Tryz.prog.szT 85=some 1/\Tryz.prog.aggT 85=some false/\cE [Value.map none]=true/\Tryz.prog.mapT 85=some (9,52)/\Tryz.prog.zero1 52=some (Value.agg #[Value.int IntKind.i64 0,Value.int IntKind.i64 0])/\Tryz.prog.szT 86=some 1:=by and_intros<;>kernel_rfl
@[go_sem] theorem Tryz.tq9:Tryz.prog.aggT 86=some false/\Tryz.prog.mapT 86=some (9,35)/\Tryz.prog.zero1 35=some (Value.agg #[Value.string ⟨#[]⟩,Value.slice none 0 0])/\Tryz.prog.szT 87=some 1/\Tryz.prog.aggT 87=some false/\Tryz.prog.mapT 87=some (9,83)/\Tryz.prog.zero1 83=some (Value.pointer none)/\cE [Value.map none,Value.map none,Value.map none]=true/\Tryz.prog.plT 89=some [(0,1),(1,1),(2,1)]/\Tryz.prog.zeroT 89=some [Value.map none,Value.map none,Value.map none]/\Tryz.prog.fldT 89 0=some (0,85)/\Tryz.prog.fldT 89 1=some (1,86)/\Tryz.prog.fldT 89 2=some (2,87)/\Tryz.prog.szT 93=some 1/\Tryz.prog.aggT 93=some false/\Tryz.prog.elemT 93=some 124/\Tryz.prog.szT 94=some 1/\Tryz.prog.aggT 94=some false/\Tryz.prog.mapT 94=some (2,98)/\Tryz.prog.zero1 98=some (Value.agg #[Value.int IntKind.i64 0,Value.int IntKind.i64 0,Value.int IntKind.i64 0,Value.int IntKind.i64 0])/\cE [Value.int IntKind.i64 0,Value.int IntKind.i64 0,Value.int IntKind.i64 0,Value.slice none 0 0,Value.map none]=true/\Tryz.prog.plT 96=some [(0,2),(2,1),(3,1),(4,1)]/\Tryz.prog.zeroT 96=some [Value.int IntKind.i64 0,Value.int IntKind.i64 0,Value.int IntKind.i64 0,Value.slice none 0 0,Value.map none]/\Tryz.prog.fldT 96 0=some (0,52)/\Tryz.prog.fldT 96 1=some (2,3)/\Tryz.prog.fldT 96 2=some (3,93)/\Tryz.prog.fldT 96 3=some (4,94)/\cE [Value.int IntKind.i64 0,Value.int IntKind.i64 0,Value.int IntKind.i64 0,Value.int IntKind.i64 0]=true/\Tryz.prog.szT 98=some 4/\Tryz.prog.aggT 98=some true/\Tryz.prog.zeroT 98=some [Value.int IntKind.i64 0,Value.int IntKind.i64 0,Value.int IntKind.i64 0,Value.int IntKind.i64 0]/\cE [Value.slice none 0 0,Value.slice none 0 0,Value.slice none 0 0]=true/\Tryz.prog.szT 104=some 3/\Tryz.prog.aggT 104=some true/\Tryz.prog.plT 104=some [(0,2),(2,1)]/\Tryz.prog.zeroT 104=some [Value.slice none 0 0,Value.slice none 0 0,Value.slice none 0 0]/\Tryz.prog.fldT 104 0=some (0,26)/\Tryz.prog.fldT 104 1=some (2,32)/\Tryz.prog.szT 115=some 1/\Tryz.prog.aggT 115=some false:=by and_intros<;>kernel_rfl
@[go_sem] theorem Tryz.xmt115:Tryz.prog.mapT 115=some (9,58):=by kernel_rfl
@[go_sem] theorem Tryz.xz158:Tryz.prog.zero1 58=some (Value.agg #[Value.string ⟨#[]⟩,Value.int IntKind.u64 0,Value.int IntKind.i64 0,Value.int IntKind.i64 0,Value.int IntKind.i64 0,Value.int IntKind.i64 0,Value.bool false,Value.int IntKind.i64 0,Value.int IntKind.i64 0,Value.int IntKind.u8 0,Value.int IntKind.u8 0,Value.int IntKind.u8 0,Value.int IntKind.u8 0,Value.int IntKind.u8 0,Value.int IntKind.u8 0,Value.int IntKind.u8 0,Value.int IntKind.u8 0,Value.int IntKind.u8 0,Value.int IntKind.u8 0,Value.int IntKind.u8 0,Value.int IntKind.u8 0,Value.int IntKind.u8 0,Value.int IntKind.u8 0,Value.int IntKind.u8 0,Value.int IntKind.u8 0,Value.int IntKind.u8 0,Value.int IntKind.u8 0,Value.int IntKind.u8 0,Value.int IntKind.u8 0,Value.int IntKind.u8 0,Value.int IntKind.u8 0,Value.int IntKind.u8 0,Value.int IntKind.u8 0,Value.int IntKind.u8 0,Value.int IntKind.u8 0,Value.int IntKind.u8 0,Value.int IntKind.u8 0,Value.int IntKind.u8 0,Value.int IntKind.u8 0,Value.int IntKind.u8 0,Value.int IntKind.u8 0,Value.int IntKind.u8 0,Value.int IntKind.u8 0,Value.int IntKind.u8 0,Value.int IntKind.u8 0,Value.int IntKind.u8 0,Value.int IntKind.u8 0,Value.int IntKind.u8 0,Value.int IntKind.u8 0,Value.int IntKind.u8 0,Value.int IntKind.u8 0,Value.int IntKind.u8 0,Value.int IntKind.u8 0,Value.int IntKind.u8 0,Value.int IntKind.u8 0,Value.int IntKind.u8 0,Value.int IntKind.u8 0,Value.int IntKind.u8 0,Value.int IntKind.u8 0,Value.int IntKind.u8 0,Value.int IntKind.u8 0,Value.int IntKind.u8 0,Value.int IntKind.u8 0,Value.int IntKind.u8 0,Value.int IntKind.u8 0,Value.int IntKind.u8 0,Value.int IntKind.u8 0,Value.int IntKind.u8 0,Value.int IntKind.u8 0,Value.int IntKind.u8 0,Value.int IntKind.u8 0,Value.int IntKind.u8 0,Value.int IntKind.u8 0,Value.int IntKind.u8 0,Value.int IntKind.u8 0,Value.int IntKind.u8 0,Value.int IntKind.u8 0,Value.int IntKind.u8 0,Value.int IntKind.u8 0,Value.int IntKind.u8 0,Value.int IntKind.u8 0,Value.int IntKind.u8 0,Value.int IntKind.u8 0,Value.int IntKind.u8 0,Value.int IntKind.u8 0,Value.int IntKind.u8 0,Value.int IntKind.u8 0,Value.int IntKind.u8 0,Value.int IntKind.u8 0,Value.int IntKind.u8 0,Value.int IntKind.u8 0,Value.int IntKind.u8 0,Value.int IntKind.u8 0,Value.int IntKind.u8 0,Value.int IntKind.u8 0,Value.int IntKind.u8 0,Value.int IntKind.u8 0,Value.int IntKind.u8 0,Value.int IntKind.u8 0,Value.int IntKind.u8 0,Value.int IntKind.u8 0,Value.int IntKind.u8 0,Value.int IntKind.u8 0,Value.int IntKind.u8 0,Value.int IntKind.u8 0,Value.int IntKind.u8 0,Value.int IntKind.u8 0,Value.int IntKind.u8 0,Value.int IntKind.u8 0,Value.int IntKind.u8 0,Value.int IntKind.u8 0,Value.int IntKind.u8 0,Value.int IntKind.u8 0,Value.int IntKind.u8 0,Value.int IntKind.u8 0,Value.int IntKind.u8 0,Value.int IntKind.u8 0,Value.int IntKind.u8 0,Value.int IntKind.u8 0,Value.int IntKind.u8 0,Value.int IntKind.u8 0,Value.int IntKind.u8 0,Value.int IntKind.u8 0,Value.int IntKind.u8 0,Value.int IntKind.u8 0,Value.int IntKind.u8 0,Value.int IntKind.u8 0,Value.int IntKind.u8 0,Value.int IntKind.u8 0,Value.int IntKind.u8 0,Value.int IntKind.u8 0,Value.int IntKind.u8 0,Value.int IntKind.u8 0,Value.int IntKind.u8 0,Value.int IntKind.u8 0,Value.int IntKind.u8 0,Value.int IntKind.u8 0,Value.int IntKind.i64 0,Value.int IntKind.i64 0,Value.int IntKind.i64 0,Value.slice none 0 0]):=by kernel_rfl
@[go_sem] theorem Tryz.tq10:Tryz.prog.szT 116=some 1/\Tryz.prog.aggT 116=some false/\Tryz.prog.mapT 116=some (9,61)/\Tryz.prog.zero1 61=some (Value.agg #[Value.string ⟨#[]⟩,Value.int IntKind.i64 0,Value.int IntKind.i64 0,Value.int IntKind.i64 0,Value.int IntKind.i64 0,Value.slice none 0 0,Value.slice none 0 0,Value.slice none 0 0,Value.int IntKind.i64 0])/\cE [Value.map none,Value.map none]=true/\Tryz.prog.szT 118=some 2/\Tryz.prog.aggT 118=some true/\Tryz.prog.plT 118=some [(0,1),(1,1)]/\Tryz.prog.zeroT 118=some [Value.map none,Value.map none]/\Tryz.prog.fldT 118 0=some (0,115)/\Tryz.prog.fldT 118 1=some (1,116)/\Tryz.prog.mapT 120=some (9,3)/\Tryz.prog.zero1 3=some (Value.int IntKind.i64 0)/\cE [Value.slice none 0 0,Value.slice none 0 0,Value.int IntKind.i64 0]=true/\Tryz.prog.szT 124=some 3/\Tryz.prog.aggT 124=some true/\Tryz.prog.bytesT 124=some 56/\Tryz.prog.plT 124=some [(0,1),(1,1),(2,1)]/\Tryz.prog.zeroT 124=some [Value.slice none 0 0,Value.slice none 0 0,Value.int IntKind.i64 0]/\Tryz.prog.fldT 124 0=some (0,68)/\Tryz.prog.fldT 124 1=some (1,39)/\Tryz.prog.fldT 124 2=some (2,2)/\Tryz.prog.elemT 137=some 64/\Tryz.prog.plT 159=some [(0,7),(7,7)]/\Tryz.prog.zeroT 159=some [Value.int IntKind.i64 0,Value.string ⟨#[]⟩,Value.int IntKind.i64 0,Value.int IntKind.i64 0,Value.int IntKind.i64 0,Value.int IntKind.i64 0,Value.bool false,Value.int IntKind.i64 0,Value.string ⟨#[]⟩,Value.int IntKind.i64 0,Value.int IntKind.i64 0,Value.int IntKind.i64 0,Value.int IntKind.i64 0,Value.bool false]/\cE [Value.int IntKind.i64 0,Value.string ⟨#[]⟩,Value.int IntKind.i64 0,Value.int IntKind.i64 0,Value.int IntKind.i64 0,Value.int IntKind.i64 0,Value.bool false,Value.int IntKind.i64 0,Value.string ⟨#[]⟩,Value.int IntKind.i64 0,Value.int IntKind.i64 0,Value.int IntKind.i64 0,Value.int IntKind.i64 0,Value.bool false]=true/\cE [Value.int IntKind.i64 0,Value.int IntKind.i64 0,Value.int IntKind.i64 0,Value.int IntKind.i64 0,Value.int IntKind.i64 0]=true/\Tryz.prog.szT 169=some 5/\Tryz.prog.aggT 169=some true/\Tryz.prog.plT 169=some [(0,1),(1,4)]/\Tryz.prog.zeroT 169=some [Value.int IntKind.i64 0,Value.int IntKind.i64 0,Value.int IntKind.i64 0,Value.int IntKind.i64 0,Value.int IntKind.i64 0]/\Tryz.prog.fldT 169 0=some (0,3)/\Tryz.prog.fldT 169 1=some (1,98)/\Tryz.prog.elemT 174=some 59/\Tryz.prog.mapT 176=some (3,4)/\Tryz.prog.zero1 4=some (Value.bool false)/\cE [Value.int IntKind.u64 0,Value.int IntKind.u64 0]=true/\Tryz.prog.szT 179=some 2/\Tryz.prog.aggT 179=some true/\Tryz.prog.plT 179=some [(0,1),(1,1)]:=by and_intros<;>kernel_rfl
@[go_sem] theorem Tryz.tq11:Tryz.prog.zeroT 179=some [Value.int IntKind.u64 0,Value.int IntKind.u64 0]/\Tryz.prog.fldT 179 0=some (0,50)/\Tryz.prog.fldT 179 1=some (1,50)/\Tryz.prog.szT 187=some 1/\Tryz.prog.aggT 187=some false/\Tryz.prog.zeroT 187=some [Value.map none]/\Tryz.prog.mapT 187=some (9,4)/\cE [Value.bool false,Value.int IntKind.u64 0,Value.int IntKind.u64 0]=true/\Tryz.prog.szT 194=some 3/\Tryz.prog.aggT 194=some true/\Tryz.prog.plT 194=some [(0,1),(1,1),(2,1)]/\Tryz.prog.zeroT 194=some [Value.bool false,Value.int IntKind.u64 0,Value.int IntKind.u64 0]/\Tryz.prog.fldT 194 0=some (0,4)/\Tryz.prog.fldT 194 1=some (1,50)/\Tryz.prog.fldT 194 2=some (2,50):=by and_intros<;>kernel_rfl
attribute [go_sem] Tryz.underlying0 Tryz.underlying1 Tryz.underlying2 Tryz.underlying3 Tryz.underlying4 Tryz.underlying5 Tryz.underlying6 Tryz.underlying7 Tryz.underlying8 Tryz.underlying9 Tryz.underlying10 Tryz.underlying11 Tryz.underlying12 Tryz.underlying13 Tryz.underlying14 Tryz.underlying15 Tryz.underlying16 Tryz.underlying17 Tryz.underlying18 Tryz.underlying19 Tryz.underlying20 Tryz.underlying21 Tryz.underlying22 Tryz.underlying23 Tryz.underlying24 Tryz.underlying25 Tryz.underlying26 Tryz.underlying27 Tryz.underlying28 Tryz.underlying29 Tryz.underlying30 Tryz.underlying31 Tryz.underlying32 Tryz.underlying33 Tryz.underlying34 Tryz.underlying35 Tryz.underlying36 Tryz.underlying37 Tryz.underlying38 Tryz.underlying39 Tryz.underlying40 Tryz.underlying41 Tryz.underlying42 Tryz.underlying43 Tryz.underlying44 Tryz.underlying45 Tryz.underlying46 Tryz.underlying47 Tryz.underlying48 Tryz.underlying49 Tryz.underlying50 Tryz.underlying51 Tryz.underlying52 Tryz.underlying53 Tryz.underlying54 Tryz.underlying55 Tryz.underlying56 Tryz.underlying57 Tryz.underlying58 Tryz.underlying59 Tryz.underlying60 Tryz.underlying61 Tryz.underlying62 Tryz.underlying63 Tryz.underlying64 Tryz.underlying65 Tryz.underlying66 Tryz.underlying67 Tryz.underlying68 Tryz.underlying69 Tryz.underlying70 Tryz.underlying71 Tryz.underlying72 Tryz.underlying73 Tryz.underlying74 Tryz.underlying75 Tryz.underlying76 Tryz.underlying77 Tryz.underlying78 Tryz.underlying79 Tryz.underlying80 Tryz.underlying81 Tryz.underlying82 Tryz.underlying83 Tryz.underlying84 Tryz.underlying85 Tryz.underlying86 Tryz.underlying87 Tryz.underlying88 Tryz.underlying89 Tryz.underlying90 Tryz.underlying91 Tryz.underlying92 Tryz.underlying93 Tryz.underlying94 Tryz.underlying95 Tryz.underlying96 Tryz.underlying97 Tryz.underlying98 Tryz.underlying99 Tryz.underlying100 Tryz.underlying101 Tryz.underlying102 Tryz.underlying103 Tryz.underlying104 Tryz.underlying105 Tryz.underlying106 Tryz.underlying107 Tryz.underlying108 Tryz.underlying109 Tryz.underlying110 Tryz.underlying111 Tryz.underlying112 Tryz.underlying113 Tryz.underlying114 Tryz.underlying115 Tryz.underlying116 Tryz.underlying117 Tryz.underlying118 Tryz.underlying119 Tryz.underlying120 Tryz.underlying121 Tryz.underlying122 Tryz.underlying123 Tryz.underlying124 Tryz.underlying125 Tryz.underlying126 Tryz.underlying127 Tryz.underlying128 Tryz.underlying129 Tryz.underlying130 Tryz.underlying131 Tryz.underlying132 Tryz.underlying133 Tryz.underlying134 Tryz.underlying135 Tryz.underlying136 Tryz.underlying137 Tryz.underlying138 Tryz.underlying139 Tryz.underlying140 Tryz.underlying141 Tryz.underlying142 Tryz.underlying143 Tryz.underlying144 Tryz.underlying145 Tryz.underlying146 Tryz.underlying147 Tryz.underlying148 Tryz.underlying149 Tryz.underlying150 Tryz.underlying151 Tryz.underlying152 Tryz.underlying153 Tryz.underlying154 Tryz.underlying155 Tryz.underlying156 Tryz.underlying157 Tryz.underlying158 Tryz.underlying159 Tryz.underlying160 Tryz.underlying161 Tryz.underlying162 Tryz.underlying163 Tryz.underlying164 Tryz.underlying165 Tryz.underlying166 Tryz.underlying167 Tryz.underlying168 Tryz.underlying169 Tryz.underlying170 Tryz.underlying171 Tryz.underlying172 Tryz.underlying173 Tryz.underlying174 Tryz.underlying175 Tryz.underlying176 Tryz.underlying177 Tryz.underlying178 Tryz.underlying179 Tryz.underlying180 Tryz.underlying181 Tryz.underlying182 Tryz.underlying183 Tryz.underlying184 Tryz.underlying185 Tryz.underlying186 Tryz.underlying187 Tryz.underlying188 Tryz.underlying189 Tryz.underlying190 Tryz.underlying191 Tryz.underlying192 Tryz.underlying193 Tryz.underlying194 Tryz.underlying195 Tryz.underlying196 Tryz.underlying197 Tryz.underlying198 Tryz.underlying199 Tryz.underlying200 Tryz.underlying201 Tryz.underlying202 Tryz.underlying203 Tryz.underlying204 Tryz.underlying205 Tryz.underlying206 Tryz.underlying207 Tryz.underlying208 Tryz.underlying209 Tryz.underlying210 Tryz.underlying211 Tryz.underlying212 Tryz.underlying213 Tryz.underlying214 Tryz.underlying215 Tryz.underlying216 Tryz.underlying217 Tryz.underlying218 Tryz.underlying219 Tryz.underlying220 Tryz.underlying221 Tryz.underlying222 Tryz.underlying223 Tryz.underlying224 Tryz.underlying225 Tryz.underlying226 Tryz.underlying227 Tryz.underlying228 Tryz.underlying229 Tryz.underlying230 Tryz.underlying231 Tryz.underlying232 Tryz.underlying233 Tryz.underlying234 Tryz.underlying235 Tryz.underlying236 Tryz.underlying237 Tryz.underlying238 Tryz.underlying239 Tryz.underlying240 Tryz.underlying241 Tryz.underlying242 Tryz.underlying243 Tryz.underlying244 Tryz.underlying245 Tryz.underlying246 Tryz.underlying247 Tryz.underlying248 Tryz.underlying249 Tryz.underlying250 Tryz.underlying251 Tryz.underlying252 Tryz.underlying253 Tryz.underlying254 Tryz.underlying255 Tryz.underlying256 Tryz.underlying257 Tryz.underlying258 Tryz.underlying259 Tryz.underlying260 Tryz.underlying261 Tryz.underlying262 Tryz.underlying263 Tryz.underlying264 Tryz.underlying265 Tryz.underlying266 Tryz.underlying267 Tryz.underlying268
@[go_sem] theorem Tryz.tq12:Tryz.prog.ioF 2=false/\Tryz.prog.ioF 3=false:=by and_intros<;>kernel_rfl
theorem Tryz.X3:Tryz.prog.enters 3=true:=by kernel_rfl
@[go_sem] theorem Tryz.tq13:Tryz.prog.ioF 4=false/\Tryz.prog.ioF 5=false/\Tryz.prog.ioF 6=false:=by and_intros<;>kernel_rfl
theorem Tryz.X6:Tryz.prog.enters 6=true:=by kernel_rfl
@[go_sem] theorem Tryz.xio7:Tryz.prog.ioF 7=false:=by kernel_rfl
theorem Tryz.X7:Tryz.prog.enters 7=true:=by kernel_rfl
@[go_sem] theorem Tryz.xio8:Tryz.prog.ioF 8=false:=by kernel_rfl
theorem Tryz.X8:Tryz.prog.enters 8=true:=by kernel_rfl
@[go_sem] theorem Tryz.xio9:Tryz.prog.ioF 9=true:=by kernel_rfl
theorem Tryz.X9:Tryz.prog.enters 9=true:=by kernel_rfl
@[go_sem] theorem Tryz.xio10:Tryz.prog.ioF 10=false:=by kernel_rfl
theorem Tryz.X10:Tryz.prog.enters 10=true:=by kernel_rfl
@[go_sem] theorem Tryz.xio11:Tryz.prog.ioF 11=false:=by kernel_rfl
theorem Tryz.X11:Tryz.prog.enters 11=true:=by kernel_rfl
@[go_sem] theorem Tryz.xio12:Tryz.prog.ioF 12=false:=by kernel_rfl
theorem Tryz.X12:Tryz.prog.enters 12=true:=by kernel_rfl
@[go_sem] theorem Tryz.xio13:Tryz.prog.ioF 13=false:=by kernel_rfl
theorem Tryz.X13:Tryz.prog.enters 13=true:=by kernel_rfl
@[go_sem] theorem Tryz.xio14:Tryz.prog.ioF 14=false:=by kernel_rfl
theorem Tryz.X14:Tryz.prog.enters 14=true:=by kernel_rfl
@[go_sem] theorem Tryz.xio15:Tryz.prog.ioF 15=true:=by kernel_rfl
theorem Tryz.X15:Tryz.prog.enters 15=true:=by kernel_rfl
@[go_sem] theorem Tryz.xio16:Tryz.prog.ioF 16=true:=by kernel_rfl
theorem Tryz.X16:Tryz.prog.enters 16=true:=by kernel_rfl
@[go_sem] theorem Tryz.xio17:Tryz.prog.ioF 17=true:=by kernel_rfl
theorem Tryz.X17:Tryz.prog.enters 17=true:=by kernel_rfl
@[go_sem] theorem Tryz.xio18:Tryz.prog.ioF 18=true:=by kernel_rfl
theorem Tryz.X18:Tryz.prog.enters 18=true:=by kernel_rfl
@[go_sem] theorem Tryz.xio19:Tryz.prog.ioF 19=false:=by kernel_rfl
theorem Tryz.X19:Tryz.prog.enters 19=true:=by kernel_rfl
@[go_sem] theorem Tryz.xio20:Tryz.prog.ioF 20=false:=by kernel_rfl
theorem Tryz.X20:Tryz.prog.enters 20=true:=by kernel_rfl
@[go_sem] theorem Tryz.xio21:Tryz.prog.ioF 21=true:=by kernel_rfl
theorem Tryz.X21:Tryz.prog.enters 21=true:=by kernel_rfl
@[go_sem] theorem Tryz.xio22:Tryz.prog.ioF 22=false:=by kernel_rfl
theorem Tryz.X22:Tryz.prog.enters 22=true:=by kernel_rfl
@[go_sem] theorem Tryz.xio23:Tryz.prog.ioF 23=false:=by kernel_rfl
theorem Tryz.X23:Tryz.prog.enters 23=true:=by kernel_rfl
@[go_sem] theorem Tryz.xio24:Tryz.prog.ioF 24=false:=by kernel_rfl
theorem Tryz.X24:Tryz.prog.enters 24=true:=by kernel_rfl
@[go_sem] theorem Tryz.xio25:Tryz.prog.ioF 25=false:=by kernel_rfl
theorem Tryz.X25:Tryz.prog.enters 25=true:=by kernel_rfl
@[go_sem] theorem Tryz.xio26:Tryz.prog.ioF 26=false:=by kernel_rfl
theorem Tryz.X26:Tryz.prog.enters 26=true:=by kernel_rfl
@[go_sem] theorem Tryz.xio27:Tryz.prog.ioF 27=false:=by kernel_rfl
theorem Tryz.X27:Tryz.prog.enters 27=true:=by kernel_rfl
@[go_sem] theorem Tryz.xio28:Tryz.prog.ioF 28=false:=by kernel_rfl
theorem Tryz.X28:Tryz.prog.enters 28=true:=by kernel_rfl
@[go_sem] theorem Tryz.xio29:Tryz.prog.ioF 29=false:=by kernel_rfl
theorem Tryz.X29:Tryz.prog.enters 29=true:=by kernel_rfl
@[go_sem] theorem Tryz.xio30:Tryz.prog.ioF 30=false:=by kernel_rfl
theorem Tryz.X30:Tryz.prog.enters 30=true:=by kernel_rfl
@[go_sem] theorem Tryz.xio31:Tryz.prog.ioF 31=false:=by kernel_rfl
theorem Tryz.X31:Tryz.prog.enters 31=true:=by kernel_rfl
@[go_sem] theorem Tryz.xio32:Tryz.prog.ioF 32=false:=by kernel_rfl
theorem Tryz.X32:Tryz.prog.enters 32=true:=by kernel_rfl
@[go_sem] theorem Tryz.xio33:Tryz.prog.ioF 33=false:=by kernel_rfl
theorem Tryz.X33:Tryz.prog.enters 33=true:=by kernel_rfl
@[go_sem] theorem Tryz.xio34:Tryz.prog.ioF 34=true:=by kernel_rfl
theorem Tryz.X34:Tryz.prog.enters 34=true:=by kernel_rfl
@[go_sem] theorem Tryz.xio35:Tryz.prog.ioF 35=false:=by kernel_rfl
theorem Tryz.X35:Tryz.prog.enters 35=true:=by kernel_rfl
@[go_sem] theorem Tryz.xio36:Tryz.prog.ioF 36=false:=by kernel_rfl
theorem Tryz.X36:Tryz.prog.enters 36=true:=by kernel_rfl
@[go_sem] theorem Tryz.xio37:Tryz.prog.ioF 37=false:=by kernel_rfl
theorem Tryz.X37:Tryz.prog.enters 37=true:=by kernel_rfl
@[go_sem] theorem Tryz.xio38:Tryz.prog.ioF 38=false:=by kernel_rfl
theorem Tryz.X38:Tryz.prog.enters 38=true:=by kernel_rfl
@[go_sem] theorem Tryz.xio39:Tryz.prog.ioF 39=false:=by kernel_rfl
theorem Tryz.X39:Tryz.prog.enters 39=true:=by kernel_rfl
@[go_sem] theorem Tryz.xio40:Tryz.prog.ioF 40=false:=by kernel_rfl
theorem Tryz.X40:Tryz.prog.enters 40=true:=by kernel_rfl
@[go_sem] theorem Tryz.xio41:Tryz.prog.ioF 41=true:=by kernel_rfl
theorem Tryz.X41:Tryz.prog.enters 41=true:=by kernel_rfl
@[go_sem] theorem Tryz.xio42:Tryz.prog.ioF 42=false:=by kernel_rfl
theorem Tryz.X42:Tryz.prog.enters 42=true:=by kernel_rfl
@[go_sem] theorem Tryz.xio43:Tryz.prog.ioF 43=false:=by kernel_rfl
theorem Tryz.X43:Tryz.prog.enters 43=true:=by kernel_rfl
@[go_sem] theorem Tryz.xio44:Tryz.prog.ioF 44=false:=by kernel_rfl
theorem Tryz.X44:Tryz.prog.enters 44=true:=by kernel_rfl
@[go_sem] theorem Tryz.xio45:Tryz.prog.ioF 45=false:=by kernel_rfl
theorem Tryz.X45:Tryz.prog.enters 45=true:=by kernel_rfl
@[go_sem] theorem Tryz.xio46:Tryz.prog.ioF 46=false:=by kernel_rfl
theorem Tryz.X46:Tryz.prog.enters 46=true:=by kernel_rfl
@[go_sem] theorem Tryz.xio47:Tryz.prog.ioF 47=false:=by kernel_rfl
theorem Tryz.X47:Tryz.prog.enters 47=true:=by kernel_rfl
@[go_sem] theorem Tryz.xio48:Tryz.prog.ioF 48=false:=by kernel_rfl
theorem Tryz.X48:Tryz.prog.enters 48=true:=by kernel_rfl
@[go_sem] theorem Tryz.xio49:Tryz.prog.ioF 49=false:=by kernel_rfl
theorem Tryz.X49:Tryz.prog.enters 49=true:=by kernel_rfl
@[go_sem] theorem Tryz.xio50:Tryz.prog.ioF 50=false:=by kernel_rfl
theorem Tryz.X50:Tryz.prog.enters 50=true:=by kernel_rfl
@[go_sem] theorem Tryz.xio51:Tryz.prog.ioF 51=false:=by kernel_rfl
theorem Tryz.X51:Tryz.prog.enters 51=true:=by kernel_rfl
@[go_sem] theorem Tryz.xio52:Tryz.prog.ioF 52=true:=by kernel_rfl
theorem Tryz.X52:Tryz.prog.enters 52=true:=by kernel_rfl
@[go_sem] theorem Tryz.xio53:Tryz.prog.ioF 53=false:=by kernel_rfl
theorem Tryz.X53:Tryz.prog.enters 53=true:=by kernel_rfl
@[go_sem] theorem Tryz.xio54:Tryz.prog.ioF 54=false:=by kernel_rfl
theorem Tryz.X54:Tryz.prog.enters 54=true:=by kernel_rfl
@[go_sem] theorem Tryz.xio55:Tryz.prog.ioF 55=false:=by kernel_rfl
theorem Tryz.X55:Tryz.prog.enters 55=true:=by kernel_rfl
@[go_sem] theorem Tryz.xio56:Tryz.prog.ioF 56=false:=by kernel_rfl
theorem Tryz.X56:Tryz.prog.enters 56=true:=by kernel_rfl
@[go_sem] theorem Tryz.xio57:Tryz.prog.ioF 57=false:=by kernel_rfl
theorem Tryz.X57:Tryz.prog.enters 57=true:=by kernel_rfl
@[go_sem] theorem Tryz.xio58:Tryz.prog.ioF 58=false:=by kernel_rfl
theorem Tryz.X58:Tryz.prog.enters 58=true:=by kernel_rfl
@[go_sem] theorem Tryz.xio59:Tryz.prog.ioF 59=false:=by kernel_rfl
theorem Tryz.X59:Tryz.prog.enters 59=true:=by kernel_rfl
@[go_sem] theorem Tryz.xio60:Tryz.prog.ioF 60=false:=by kernel_rfl
theorem Tryz.X60:Tryz.prog.enters 60=true:=by kernel_rfl
@[go_sem] theorem Tryz.xio61:Tryz.prog.ioF 61=false:=by kernel_rfl
theorem Tryz.X61:Tryz.prog.enters 61=true:=by kernel_rfl
@[go_sem] theorem Tryz.xio62:Tryz.prog.ioF 62=false:=by kernel_rfl
theorem Tryz.X62:Tryz.prog.enters 62=true:=by kernel_rfl
@[go_sem] theorem Tryz.xio63:Tryz.prog.ioF 63=false:=by kernel_rfl
theorem Tryz.X63:Tryz.prog.enters 63=true:=by kernel_rfl
@[go_sem] theorem Tryz.xio64:Tryz.prog.ioF 64=false:=by kernel_rfl
theorem Tryz.X64:Tryz.prog.enters 64=true:=by kernel_rfl
@[go_sem] theorem Tryz.xio65:Tryz.prog.ioF 65=false:=by kernel_rfl
theorem Tryz.X65:Tryz.prog.enters 65=true:=by kernel_rfl
@[go_sem] theorem Tryz.xio66:Tryz.prog.ioF 66=true:=by kernel_rfl
theorem Tryz.X66:Tryz.prog.enters 66=true:=by kernel_rfl
@[go_sem] theorem Tryz.xio67:Tryz.prog.ioF 67=true:=by kernel_rfl
theorem Tryz.X67:Tryz.prog.enters 67=true:=by kernel_rfl
@[go_sem] theorem Tryz.xio68:Tryz.prog.ioF 68=false:=by kernel_rfl
theorem Tryz.X68:Tryz.prog.enters 68=true:=by kernel_rfl
@[go_sem] theorem Tryz.xio69:Tryz.prog.ioF 69=false:=by kernel_rfl
theorem Tryz.X69:Tryz.prog.enters 69=true:=by kernel_rfl
@[go_sem] theorem Tryz.xio70:Tryz.prog.ioF 70=false:=by kernel_rfl
theorem Tryz.X70:Tryz.prog.enters 70=true:=by kernel_rfl
@[go_sem] theorem Tryz.xio71:Tryz.prog.ioF 71=false:=by kernel_rfl
theorem Tryz.X71:Tryz.prog.enters 71=true:=by kernel_rfl
@[go_sem] theorem Tryz.xio72:Tryz.prog.ioF 72=false:=by kernel_rfl
theorem Tryz.X72:Tryz.prog.enters 72=true:=by kernel_rfl
@[go_sem] theorem Tryz.xio73:Tryz.prog.ioF 73=false:=by kernel_rfl
theorem Tryz.X73:Tryz.prog.enters 73=true:=by kernel_rfl
@[go_sem] theorem Tryz.xio74:Tryz.prog.ioF 74=false:=by kernel_rfl
theorem Tryz.X74:Tryz.prog.enters 74=true:=by kernel_rfl
@[go_sem] theorem Tryz.xio75:Tryz.prog.ioF 75=false:=by kernel_rfl
theorem Tryz.X75:Tryz.prog.enters 75=true:=by kernel_rfl
@[go_sem] theorem Tryz.xio76:Tryz.prog.ioF 76=false:=by kernel_rfl
theorem Tryz.X76:Tryz.prog.enters 76=true:=by kernel_rfl
@[go_sem] theorem Tryz.xio77:Tryz.prog.ioF 77=false:=by kernel_rfl
theorem Tryz.X77:Tryz.prog.enters 77=true:=by kernel_rfl
@[go_sem] theorem Tryz.xio78:Tryz.prog.ioF 78=false:=by kernel_rfl
theorem Tryz.X78:Tryz.prog.enters 78=true:=by kernel_rfl
@[go_sem] theorem Tryz.xio79:Tryz.prog.ioF 79=false:=by kernel_rfl
theorem Tryz.X79:Tryz.prog.enters 79=true:=by kernel_rfl
@[go_sem] theorem Tryz.xio80:Tryz.prog.ioF 80=false:=by kernel_rfl
theorem Tryz.X80:Tryz.prog.enters 80=true:=by kernel_rfl
@[go_sem] theorem Tryz.xio81:Tryz.prog.ioF 81=true:=by kernel_rfl
theorem Tryz.X81:Tryz.prog.enters 81=true:=by kernel_rfl
@[go_sem] theorem Tryz.xio82:Tryz.prog.ioF 82=false:=by kernel_rfl
theorem Tryz.X82:Tryz.prog.enters 82=true:=by kernel_rfl
@[go_sem] theorem Tryz.xio83:Tryz.prog.ioF 83=false:=by kernel_rfl
theorem Tryz.X83:Tryz.prog.enters 83=true:=by kernel_rfl
@[go_sem] theorem Tryz.xio84:Tryz.prog.ioF 84=false:=by kernel_rfl
theorem Tryz.X84:Tryz.prog.enters 84=true:=by kernel_rfl
@[go_sem] theorem Tryz.xio85:Tryz.prog.ioF 85=false:=by kernel_rfl
theorem Tryz.X85:Tryz.prog.enters 85=true:=by kernel_rfl
@[go_sem] theorem Tryz.xio86:Tryz.prog.ioF 86=false:=by kernel_rfl
theorem Tryz.X86:Tryz.prog.enters 86=true:=by kernel_rfl
@[go_sem] theorem Tryz.xio87:Tryz.prog.ioF 87=false:=by kernel_rfl
theorem Tryz.X87:Tryz.prog.enters 87=true:=by kernel_rfl
@[go_sem] theorem Tryz.xio88:Tryz.prog.ioF 88=false:=by kernel_rfl
theorem Tryz.X88:Tryz.prog.enters 88=true:=by kernel_rfl
@[go_sem] theorem Tryz.xio89:Tryz.prog.ioF 89=false:=by kernel_rfl
theorem Tryz.X89:Tryz.prog.enters 89=true:=by kernel_rfl
@[go_sem] theorem Tryz.xio90:Tryz.prog.ioF 90=false:=by kernel_rfl
theorem Tryz.X90:Tryz.prog.enters 90=true:=by kernel_rfl
@[go_sem] theorem Tryz.xio91:Tryz.prog.ioF 91=false:=by kernel_rfl
theorem Tryz.X91:Tryz.prog.enters 91=true:=by kernel_rfl
@[go_sem] theorem Tryz.xio92:Tryz.prog.ioF 92=false:=by kernel_rfl
theorem Tryz.X92:Tryz.prog.enters 92=true:=by kernel_rfl
@[go_sem] theorem Tryz.xio93:Tryz.prog.ioF 93=false:=by kernel_rfl
theorem Tryz.X93:Tryz.prog.enters 93=true:=by kernel_rfl
@[go_sem] theorem Tryz.xio94:Tryz.prog.ioF 94=false:=by kernel_rfl
theorem Tryz.X94:Tryz.prog.enters 94=true:=by kernel_rfl
@[go_sem] theorem Tryz.xio95:Tryz.prog.ioF 95=false:=by kernel_rfl
theorem Tryz.X95:Tryz.prog.enters 95=true:=by kernel_rfl
@[go_sem] theorem Tryz.xio96:Tryz.prog.ioF 96=false:=by kernel_rfl
theorem Tryz.X96:Tryz.prog.enters 96=true:=by kernel_rfl
@[go_sem] theorem Tryz.xio97:Tryz.prog.ioF 97=false:=by kernel_rfl
theorem Tryz.X97:Tryz.prog.enters 97=true:=by kernel_rfl
@[go_sem] theorem Tryz.xio98:Tryz.prog.ioF 98=false:=by kernel_rfl
theorem Tryz.X98:Tryz.prog.enters 98=true:=by kernel_rfl
@[go_sem] theorem Tryz.xio99:Tryz.prog.ioF 99=false:=by kernel_rfl
theorem Tryz.X99:Tryz.prog.enters 99=true:=by kernel_rfl
@[go_sem] theorem Tryz.xio100:Tryz.prog.ioF 100=false:=by kernel_rfl
theorem Tryz.X100:Tryz.prog.enters 100=true:=by kernel_rfl
@[go_sem] theorem Tryz.xio101:Tryz.prog.ioF 101=false:=by kernel_rfl
theorem Tryz.X101:Tryz.prog.enters 101=true:=by kernel_rfl
@[go_sem] theorem Tryz.xio102:Tryz.prog.ioF 102=false:=by kernel_rfl
theorem Tryz.X102:Tryz.prog.enters 102=true:=by kernel_rfl
@[go_sem] theorem Tryz.xio103:Tryz.prog.ioF 103=false:=by kernel_rfl
theorem Tryz.X103:Tryz.prog.enters 103=true:=by kernel_rfl
@[go_sem] theorem Tryz.xio104:Tryz.prog.ioF 104=false:=by kernel_rfl
theorem Tryz.X104:Tryz.prog.enters 104=true:=by kernel_rfl
@[go_sem] theorem Tryz.xio105:Tryz.prog.ioF 105=false:=by kernel_rfl
theorem Tryz.X105:Tryz.prog.enters 105=true:=by kernel_rfl
@[go_sem] theorem Tryz.xio106:Tryz.prog.ioF 106=false:=by kernel_rfl
theorem Tryz.X106:Tryz.prog.enters 106=true:=by kernel_rfl
@[go_sem] theorem Tryz.xio107:Tryz.prog.ioF 107=false:=by kernel_rfl
theorem Tryz.X107:Tryz.prog.enters 107=true:=by kernel_rfl
@[go_sem] theorem Tryz.xio108:Tryz.prog.ioF 108=false:=by kernel_rfl
theorem Tryz.X108:Tryz.prog.enters 108=true:=by kernel_rfl
@[go_sem] theorem Tryz.xio109:Tryz.prog.ioF 109=false:=by kernel_rfl
theorem Tryz.X109:Tryz.prog.enters 109=true:=by kernel_rfl
@[go_sem] theorem Tryz.xio110:Tryz.prog.ioF 110=false:=by kernel_rfl
theorem Tryz.X110:Tryz.prog.enters 110=true:=by kernel_rfl
@[go_sem] theorem Tryz.xio111:Tryz.prog.ioF 111=false:=by kernel_rfl
theorem Tryz.X111:Tryz.prog.enters 111=true:=by kernel_rfl
@[go_sem] theorem Tryz.xio112:Tryz.prog.ioF 112=false:=by kernel_rfl
theorem Tryz.X112:Tryz.prog.enters 112=true:=by kernel_rfl
@[go_sem] theorem Tryz.xio113:Tryz.prog.ioF 113=false:=by kernel_rfl
theorem Tryz.X113:Tryz.prog.enters 113=true:=by kernel_rfl
@[go_sem] theorem Tryz.xio114:Tryz.prog.ioF 114=false:=by kernel_rfl
theorem Tryz.X114:Tryz.prog.enters 114=true:=by kernel_rfl
@[go_sem] theorem Tryz.xio115:Tryz.prog.ioF 115=false:=by kernel_rfl
theorem Tryz.X115:Tryz.prog.enters 115=true:=by kernel_rfl
@[go_sem] theorem Tryz.xio116:Tryz.prog.ioF 116=false:=by kernel_rfl
theorem Tryz.X116:Tryz.prog.enters 116=true:=by kernel_rfl
@[go_sem] theorem Tryz.xio117:Tryz.prog.ioF 117=false:=by kernel_rfl
theorem Tryz.X117:Tryz.prog.enters 117=true:=by kernel_rfl
@[go_sem] theorem Tryz.xio118:Tryz.prog.ioF 118=true:=by kernel_rfl
theorem Tryz.X118:Tryz.prog.enters 118=true:=by kernel_rfl
@[go_sem] theorem Tryz.xio119:Tryz.prog.ioF 119=false:=by kernel_rfl
theorem Tryz.X119:Tryz.prog.enters 119=true:=by kernel_rfl
@[go_sem] theorem Tryz.xio120:Tryz.prog.ioF 120=false:=by kernel_rfl
theorem Tryz.X120:Tryz.prog.enters 120=true:=by kernel_rfl
@[go_sem] theorem Tryz.xio121:Tryz.prog.ioF 121=false:=by kernel_rfl
theorem Tryz.X121:Tryz.prog.enters 121=true:=by kernel_rfl
@[go_sem] theorem Tryz.xio122:Tryz.prog.ioF 122=false:=by kernel_rfl
theorem Tryz.X122:Tryz.prog.enters 122=true:=by kernel_rfl
@[go_sem] theorem Tryz.xio123:Tryz.prog.ioF 123=false:=by kernel_rfl
theorem Tryz.X123:Tryz.prog.enters 123=true:=by kernel_rfl
@[go_sem] theorem Tryz.xio124:Tryz.prog.ioF 124=false:=by kernel_rfl
theorem Tryz.X124:Tryz.prog.enters 124=true:=by kernel_rfl
@[go_sem] theorem Tryz.xio125:Tryz.prog.ioF 125=false:=by kernel_rfl
theorem Tryz.X125:Tryz.prog.enters 125=true:=by kernel_rfl
@[go_sem] theorem Tryz.xio126:Tryz.prog.ioF 126=false:=by kernel_rfl
theorem Tryz.X126:Tryz.prog.enters 126=true:=by kernel_rfl
@[go_sem] theorem Tryz.xio127:Tryz.prog.ioF 127=false:=by kernel_rfl
theorem Tryz.X127:Tryz.prog.enters 127=true:=by kernel_rfl
@[go_sem] theorem Tryz.xio128:Tryz.prog.ioF 128=false:=by kernel_rfl
theorem Tryz.X128:Tryz.prog.enters 128=true:=by kernel_rfl
@[go_sem] theorem Tryz.xio129:Tryz.prog.ioF 129=false:=by kernel_rfl
theorem Tryz.X129:Tryz.prog.enters 129=true:=by kernel_rfl
@[go_sem] theorem Tryz.xio130:Tryz.prog.ioF 130=false:=by kernel_rfl
theorem Tryz.X130:Tryz.prog.enters 130=true:=by kernel_rfl
@[go_sem] theorem Tryz.xio131:Tryz.prog.ioF 131=false:=by kernel_rfl
theorem Tryz.X131:Tryz.prog.enters 131=true:=by kernel_rfl
@[go_sem] theorem Tryz.xio132:Tryz.prog.ioF 132=false:=by kernel_rfl
theorem Tryz.X132:Tryz.prog.enters 132=true:=by kernel_rfl
@[go_sem] theorem Tryz.xio133:Tryz.prog.ioF 133=false:=by kernel_rfl
theorem Tryz.X133:Tryz.prog.enters 133=true:=by kernel_rfl
@[go_sem] theorem Tryz.xio134:Tryz.prog.ioF 134=false:=by kernel_rfl
theorem Tryz.X134:Tryz.prog.enters 134=true:=by kernel_rfl
@[go_sem] theorem Tryz.xio135:Tryz.prog.ioF 135=false:=by kernel_rfl
theorem Tryz.X135:Tryz.prog.enters 135=true:=by kernel_rfl
@[go_sem] theorem Tryz.xio136:Tryz.prog.ioF 136=false:=by kernel_rfl
theorem Tryz.X136:Tryz.prog.enters 136=true:=by kernel_rfl
@[go_sem] theorem Tryz.xio137:Tryz.prog.ioF 137=false:=by kernel_rfl
theorem Tryz.X137:Tryz.prog.enters 137=true:=by kernel_rfl
@[go_sem] theorem Tryz.xio138:Tryz.prog.ioF 138=false:=by kernel_rfl
theorem Tryz.X138:Tryz.prog.enters 138=true:=by kernel_rfl
@[go_sem] theorem Tryz.xio139:Tryz.prog.ioF 139=false:=by kernel_rfl
theorem Tryz.X139:Tryz.prog.enters 139=true:=by kernel_rfl
@[go_sem] theorem Tryz.xio140:Tryz.prog.ioF 140=false:=by kernel_rfl
theorem Tryz.X140:Tryz.prog.enters 140=true:=by kernel_rfl
@[go_sem] theorem Tryz.xio141:Tryz.prog.ioF 141=false:=by kernel_rfl
theorem Tryz.X141:Tryz.prog.enters 141=true:=by kernel_rfl
@[go_sem] theorem Tryz.xio142:Tryz.prog.ioF 142=false:=by kernel_rfl
theorem Tryz.X142:Tryz.prog.enters 142=true:=by kernel_rfl
@[go_sem] theorem Tryz.xio143:Tryz.prog.ioF 143=false:=by kernel_rfl
theorem Tryz.X143:Tryz.prog.enters 143=true:=by kernel_rfl
@[go_sem] theorem Tryz.xio144:Tryz.prog.ioF 144=true:=by kernel_rfl
theorem Tryz.X144:Tryz.prog.enters 144=true:=by kernel_rfl
@[go_sem] theorem Tryz.tq14:Tryz.prog.ioF 145=false/\Tryz.prog.ioF 146=false/\Tryz.prog.ioF 147=false/\Tryz.prog.ioF 148=false:=by and_intros<;>kernel_rfl
theorem Tryz.X148:Tryz.prog.enters 148=true:=by kernel_rfl
@[go_sem] theorem Tryz.tq15:Tryz.prog.ioF 149=true/\Tryz.prog.ioF 150=true/\Tryz.prog.ioF 151=false:=by and_intros<;>kernel_rfl
theorem Tryz.X151:Tryz.prog.enters 151=true:=by kernel_rfl
@[go_sem] theorem Tryz.xio152:Tryz.prog.ioF 152=true:=by kernel_rfl
theorem Tryz.X152:Tryz.prog.enters 152=true:=by kernel_rfl
@[go_sem] theorem Tryz.xio153:Tryz.prog.ioF 153=false:=by kernel_rfl
theorem Tryz.X153:Tryz.prog.enters 153=true:=by kernel_rfl
@[go_sem] theorem Tryz.xio154:Tryz.prog.ioF 154=false:=by kernel_rfl
theorem Tryz.X154:Tryz.prog.enters 154=true:=by kernel_rfl
@[go_sem] theorem Tryz.xio155:Tryz.prog.ioF 155=false:=by kernel_rfl
theorem Tryz.X155:Tryz.prog.enters 155=true:=by kernel_rfl
@[go_sem] theorem Tryz.xio156:Tryz.prog.ioF 156=false:=by kernel_rfl
theorem Tryz.X156:Tryz.prog.enters 156=true:=by kernel_rfl
@[go_sem] theorem Tryz.xio157:Tryz.prog.ioF 157=false:=by kernel_rfl
theorem Tryz.X157:Tryz.prog.enters 157=true:=by kernel_rfl
@[go_sem] theorem Tryz.xio158:Tryz.prog.ioF 158=false:=by kernel_rfl
theorem Tryz.X158:Tryz.prog.enters 158=true:=by kernel_rfl
@[go_sem] theorem Tryz.xio159:Tryz.prog.ioF 159=false:=by kernel_rfl
theorem Tryz.X159:Tryz.prog.enters 159=true:=by kernel_rfl
@[go_sem] theorem Tryz.tq16:Tryz.prog.ioF 160=false/\Tryz.prog.ioF 161=false/\Tryz.prog.ioF 162=false/\Tryz.prog.ioF 163=false:=by and_intros<;>kernel_rfl
theorem Tryz.X163:Tryz.prog.enters 163=true:=by kernel_rfl
@[go_sem] theorem Tryz.xio164:Tryz.prog.ioF 164=false:=by kernel_rfl
theorem Tryz.X164:Tryz.prog.enters 164=true:=by kernel_rfl
@[go_sem] theorem Tryz.xio165:Tryz.prog.ioF 165=false:=by kernel_rfl
theorem Tryz.X165:Tryz.prog.enters 165=true:=by kernel_rfl
@[go_sem] theorem Tryz.tq17:Tryz.prog.ioF 166=false/\Tryz.prog.ioF 167=false/\Tryz.prog.ioF 168=false/\Tryz.prog.ioF 169=false/\Tryz.prog.ioF 170=false/\Tryz.prog.ioF 171=false/\Tryz.prog.ioF 172=false/\Tryz.prog.ioF 173=false/\Tryz.prog.ioF 174=false/\Tryz.prog.ioF 175=false/\Tryz.prog.ioF 176=false:=by and_intros<;>kernel_rfl
theorem Tryz.X176:Tryz.prog.enters 176=true:=by kernel_rfl
@[go_sem] theorem Tryz.tq18:Tryz.prog.ioF 177=false/\Tryz.prog.ioF 178=false/\Tryz.prog.ioF 179=true/\Tryz.prog.ioF 180=true/\Tryz.prog.ioF 181=true/\Tryz.prog.ioF 182=false/\Tryz.prog.ioF 183=true/\Tryz.prog.ioF 192=true/\Tryz.prog.ioF 193=true/\Tryz.prog.ioF 194=true/\Tryz.prog.ioF 195=true/\Tryz.prog.ioF 196=true/\Tryz.prog.ioF 201=true:=by and_intros<;>kernel_rfl
