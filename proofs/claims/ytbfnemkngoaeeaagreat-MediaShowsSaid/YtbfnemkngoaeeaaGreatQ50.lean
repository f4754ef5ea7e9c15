/- Proved here: The project with one thing changed, as data; conditions stand in each theorem. -/
import Derived.Test.YtbfnemkngoaeeaaGreatQ29
import Derived.Test.YtbfnemkngoaeeaaGreatQ36
import Derived.Test.YtbfnemkngoaeeaaGreatQ28
import Derived.Test.YtbfnemkngoaeeaaGreatQ31
import Derived.Test.YtbfnemkngoaeeaaGreatQ18
import Derived.Test.YtbfnemkngoaeeaaGreatQ22
import Derived.Test.YtbfnemkngoaeeaaGreatQ49
import Derived.Test.YtbfnemkngoaeeaaGreatQ46
import Derived.Test.YtbfnemkngoaeeaaGreatQ48
import Derived.Test.YtbfnemkngoaeeaaGreatQ19
import Derived.Test.YtbfnemkngoaeeaaGreatQ24
import Derived.Test.YtbfnemkngoaeeaaGreatQ06
import Derived.Test.YtbfnemkngoaeeaaGreatQ11
import Derived.Test.YtbfnemkngoaeeaaGreatQ08
import Derived.Test.YtbfnemkngoaeeaaGreatQ10
import Derived.Test.YtbfnemkngoaeeaaGreatQ25
import Derived.Test.YtbfnemkngoaeeaaGreatQ20
set_option linter.unusedSimpArgs false
set_option linter.unusedVariables false
set_option linter.unusedSectionVars false
set_option linter.unnecessarySimpa false
namespace Go.Proofs.YtbfnemkngoaeeaaGreat
open Go.RowKit
set_option maxRecDepth 4000
def aSv (nm:ByteArray):ClipR:=⟨3,1,⟨2,nm,⟨0,1⟩,⟨1,1⟩,false⟩,zSource,0,0,0,⟨#[]⟩,0,[]⟩
def seq11 (i:Int):SequenceR:=⟨cX ⟨#[115]⟩ i,⟨25,1⟩,16,16,[[aSv (cX ⟨#[115]⟩ (i - 1))]],[],[],0⟩
def odd11 (L:List Int):Nat→Nat→List SequenceR→List SequenceR
 | 0,_,s=>s
 | f+1,q,s=>if (s.length:Int)<4+aA L q 4 then odd11 L f (q+1) (s ++ [seq11 s.length]) else s
def aK0 (p:ProjR) (a:Nat):MediumR:=p.media.getD a default
def pL (p:ProjR) (b:Nat):SequenceR:=p.seqs.getD b default
def oddK (p:ProjR) (L:List Int) (a b:Nat) (k:Int):ProjR :=
 if k=0∧1<p.media.length then ⟨p.media.set a { aK0 p a with name:=(aK0 p ((a+1) % p.media.length)).name },p.seqs⟩
 else if k=1 then ⟨p.media.take a++p.media.drop (a+1),p.seqs⟩
 else if k=2 then ⟨p.media,p.seqs.set b { pL p b with name:=⟨#[66,105,103]⟩ }⟩
 else if k=3 then ⟨p.media,p.seqs.set b { pL p b with w:=20 }⟩
 else if k=4 then ⟨p.media,p.seqs.set b { pL p b with rate:=⟨2,2⟩ }⟩
 else if k=5 then ⟨p.media.set a { aK0 p a with frames := -1 },p.seqs⟩
 else if k=6∧1<p.seqs.length then ⟨p.media,p.seqs.set b { pL p b with name:=(pL p ((b+1) % p.seqs.length)).name }⟩
 else if k=7 then ⟨p.media,p.seqs.set b { pL p b with video:=(pL p b).video ++ [[aSv (cX ⟨#[115]⟩ (aA L 3 4))]] }⟩
 else if k=8 then ⟨p.media,p.seqs.set b { pL p b with sound:=(pL p b).sound ++ [[(cE L 3 2 1).1]] }⟩
 else if k=9 then ⟨p.media,p.seqs.set b { pL p b with video:=(pL p b).video++List.replicate (9 - (pL p b).video.length) [] }⟩
 else if k=10 then ⟨p.media,p.seqs.set b { pL p b with cues:=(pL p b).cues ++ [⟨5,5,[⟨#[120]⟩]⟩] }⟩
 else if k=11 then ⟨p.media,odd11 L 8 3 p.seqs⟩
 else p
def oddP (p:ProjR) (L:List Int):ProjR:=oddK p L (aA L 1 p.media.length).toNat (aA L 2 p.seqs.length).toNat (aA L 0 16)
open Go.RowKit
set_option maxRecDepth 4000
def d9:Nat→List T
 | 0=>dA []
 | _+1=>[.lit (.slice none 0 0)]
def c9 (s:SequenceR) (x:Nat):List T:=[gJ s.name,ti s.rate.num,ti s.rate.den,ti s.w,ti s.h, .list 1 (d9 x) (List.map dA s.video++List.replicate x [.lit (.slice none 0 0)]),gF s.sound,vQ s.cues,ti s.channels]
abbrev zCl:List T:=[ti 0,ti 0,ti 0,gJ ⟨#[]⟩,ti 0,ti 0,ti 0,ti 0, .lit (.bool false),ti 0,gJ ⟨#[]⟩,ti 0,ti 0,ti 0,ti 0, .lit (.bool false),ti 0,ti 0,ti 0,gJ ⟨#[]⟩,ti 0, .lit (.slice none 0 0)]
def n11 (i:Int):List T:=[gJ (cX ⟨#[115]⟩ i),ti 25,ti 1,ti 16,ti 16, .list 1 [.lit (.slice none 0 0)] [[.list 22 zCl [[ti 3,ti 1,ti 2,gJ (cX ⟨#[115]⟩ (i - 1)),ti 0,ti 1,ti 1,ti 1, .lit (.bool false),ti 0,gJ ⟨#[]⟩,ti 0,ti 0,ti 0,ti 0, .lit (.bool false),ti 0,ti 0,ti 0,gJ ⟨#[]⟩,ti 0, .lit (.slice none 0 0)]]]], .lit (.slice none 0 0), .lit (.slice none 0 0),ti 0]
def x11 (l:List SequenceR) (m:Nat):List (List T):=List.map SequenceR.c l++(List.range m).map fun j=>n11 ((l.length+j:Nat):Int)
def s11 (l:List SequenceR) (m:Nat):List SequenceR:=l++(List.range m).map fun j=>seq11 ((l.length+j:Nat):Int)


def deadL (is:List Nat) (n:Nat) (σ : St):St :=
 match σ.h.look n with
 | some (.loop st pd fr ps a b) => { σ with h := σ.h.set n (.loop st pd (bN is { σ with fr:=fr }).fr ps a b) }
 | _ => σ
attribute [go_sem] deadL
open Go.RowKit
set_option maxRecDepth 4000
def addP (p:ProjR) (s:SequenceR):ProjR:=⟨p.media,p.seqs ++ [s]⟩
def trkE (p:ProjR) (ts:List (List ClipR)) (i:Int):ExprR:=zA dM (kH p (fJ dM p 4)) (sP i ts.reverse)
open Go.RowKit
set_option maxRecDepth 4000
open Go.RowKit
set_option maxRecDepth 4000
def sS (L:List Int) (i k:Nat):MediumR:=⟨cX ⟨#[109]⟩ i,0,⟨0,0,⟨25,1⟩,false,0,0,fun _=>0⟩,5+aA L k 40,0,0,[]⟩
def Lu (L:List Int) (i k:Nat):List (List ClipR)×Nat:=([(fH L k 3 i 4).1,(fH L (fH L k 3 i 4).2 3 i 2).1],(fH L (fH L k 3 i 4).2 3 i 2).2)
def madeP (L:List Int):ProjR:=⟨[sS L 0 0,sS L 1 1,sS L 2 2],[tSeq (cX ⟨#[115]⟩ 0) (Lu L 0 3).1,tSeq (cX ⟨#[115]⟩ 1) (Lu L 1 (Lu L 0 3).2).1]⟩
def madeK (L:List Int):Nat:=(Lu L 1 (Lu L 0 3).2).2
def madeT (L:List Int):List ClipR:=jU (fH L (madeK L) 3 2 5).1
def madeAt (L:List Int):Nat:=(fH L (madeK L) 3 2 5).2
abbrev rawM (L:List Int):T := .list 141 (Tryz.z82.map T.lit) [Aa (sS L 0 0) ++ [.lit (.slice none 0 0)],Aa (sS L 1 1) ++ [.lit (.slice none 0 0)],Aa (sS L 2 2) ++ [.lit (.slice none 0 0)]]
def rawQ (n:ByteArray) (a b:List ClipR):List T:=[gJ n,ti 25,ti 1,ti 16,ti 16, .list 1 [.lit (.slice none 0 0)] [[eD a],[eD b]], .lit (.slice none 0 0), .lit (.slice none 0 0),ti 0]
abbrev rawS (L:List Int):T := .list 9 [gJ ⟨#[]⟩,ti 0,ti 0,ti 0,ti 0, .lit (.slice none 0 0), .lit (.slice none 0 0), .lit (.slice none 0 0),ti 0] [rawQ (cX ⟨#[115]⟩ 0) (fH L 3 3 0 4).1 (fH L (fH L 3 3 0 4).2 3 0 2).1,rawQ (cX ⟨#[115]⟩ 1) (fH L (Lu L 0 3).2 3 1 4).1 (fH L (fH L (Lu L 0 3).2 3 1 4).2 3 1 2).1]
def giveI (P:Program) (σ : St) (d:Option Tmp) (f:FuncId) (xs:List V) (K:St→Prop) (h:Option Heap):Prop :=
 match h with
 | some h=>ICall P { σ with h:=h } d f (V.ress h xs) K
 | none=>False
attribute [go_sem] giveI
open Go.RowKit
set_option maxRecDepth 4000
open Go.Lib
def zClipV:Value := .agg #[.int .i64 0, .int .i64 0, .int .i64 0, .string ⟨#[]⟩, .int .i64 0, .int .i64 0, .int .i64 0, .int .i64 0, .bool false, .int .i64 0, .string ⟨#[]⟩, .int .i64 0, .int .i64 0, .int .i64 0, .int .i64 0, .bool false, .int .i64 0, .int .i64 0, .int .i64 0, .string ⟨#[]⟩, .int .i64 0, .slice none 0 0]
open Go.RowKit
set_option maxRecDepth 4000
structure Trk (t:List ClipR):Prop where
 len:t.length≤200
 ok:∀ i,i<t.length→bB (t.getD i default)=true
 tot:bU t≤2147483647
open Go.RowKit
set_option maxRecDepth 4000
def joinT (a b:List ClipR):List ClipR×Int :=
 if (!bC a || !bC b)=true then ([],1)
 else if decide (bU a+bU b > 2147483647)=true then ([],2)
 else if decide ((Qt (a++b)).length > 64)=true then ([],5) else (Qt (a++b),0)
abbrev vte (r:List ClipR×Int):V := .tup [.t (eD r.1),aC r.2]
structure SrcP (p:ProjR) (x:SourceR):Prop where
 m1:x.kind=1 → ∃ i,i<p.media.length∧(p.media.getD i default).name=x.name
 s2:x.kind=2 → ∃ i,i<p.seqs.length∧(p.seqs.getD i default).name=x.name
structure TrkP (p:ProjR) (t:List ClipR):Prop where
 ok:bC t=true
 cl:∀ c∈t,c.fit∧pJ c=true∧SrcP p c.a∧SrcP p c.b
structure SeqIn (p:ProjR) (n:ByteArray) (ts:List (List ClipR)):Prop where
 name:aT n=true
 fresh:∀ q∈p.seqs,q.name≠n
 len:ts.length≤8
 trk:∀ t∈ts,TrkP p t
def mM (L:List Int):ProjR:=⟨[sS L 0 0,sS L 1 1,sS L 2 2],[]⟩
def mS0 (L:List Int):ProjR:=addP (mM L) (tSeq (cX ⟨#[115]⟩ 0) (Lu L 0 3).1)
def FromC (t:List ClipR) (c:ClipR):Prop := ∃ d∈t,c.a=d.a∧c.b=d.b∧c.gain=d.gain∧c.chan=d.chan
open Go.RowKit
set_option maxRecDepth 4000
abbrev rawT (n:ByteArray) (ts:List (List ClipR)):List T:=[gJ n,ti 25,ti 1,ti 16,ti 16, .list 1 (dA []) (ts.map dA), .lit (.slice none 0 0), .lit (.slice none 0 0),ti 0]
abbrev zSqT:List T:=[gJ ⟨#[]⟩,ti 0,ti 0,ti 0,ti 0, .lit (.slice none 0 0), .lit (.slice none 0 0), .lit (.slice none 0 0),ti 0]
def gapC (n:Int):ClipR:=⟨n,0,zSource,zSource,0,0,0,⟨#[]⟩,0,[]⟩
def cutR:List ClipR→Int→List ClipR×Int
 | [],n=>([],n)
 | c::l,n=>if n=0 then ([],0) else ({ c with len:=min c.len n }::(cutR l (n - min c.len n)).1,(cutR l (n - min c.len n)).2)
def aV9 (r:List ClipR×Int):List ClipR:=if 0<r.2 then r.1 ++ [gapC r.2] else r.1
def advD (D:List ClipR) (o:Int):List ClipR:=Ur (D.getD 0 default) o::D.drop 1
def cutT (t:List ClipR) (a n:Int):List ClipR :=
 if ((gY t 0 a).2.2&&decide (0<n))=true then aV9 (cutR (advD (t.drop (gY t 0 a).1.toNat) (gY t 0 a).2.1) n) else aV9 ([],n)
open Go.RowKit
set_option maxRecDepth 4000
def one (c:ClipR) (k:Int):ClipR := { Ur c k with len:=1 }
def frC (c:ClipR):List ClipR:=(List.range c.len.toNat).map fun k:Nat=>one c (k:Int)
def fr (l:List ClipR):List ClipR:=l.flatMap frC
theorem Yr (a b:List ClipR):fr (a++b)=fr a++fr b:=List.flatMap_append ..
theorem Nj (c:ClipR) (l:List ClipR):fr (c::l)=frC c++fr l:=rfl
theorem frC_len (c:ClipR):(frC c).length=c.len.toNat:=by unfold frC;simp
theorem aKe:∀ {l:List ClipR},(∀ c∈l,1≤c.len)→((fr l).length:Int)=bU l
 | [],_=>rfl
 | c::l,h=>by
  have ih:=aKe (l:=l) fun d hd=>h d (by simp [hd])
  have h1:=h c (by simp);rw [Nj,List.length_append,frC_len];simp only [bU];omega
theorem one_len (c:ClipR) (m k:Int):one { c with len:=m } k=one c k:=rfl
theorem one_adv {c:ClipR} (hv:bB c=true) (a k:Int):one (Ur c a) k=one c (a+k):=by
 unfold one;rw [aX7 hv]
theorem range_add (a b:Nat) (f:Nat→ClipR):(List.range (a+b)).map f=(List.range a).map f++(List.range b).map fun k=>f (a+k):=by
 rw [List.range_add,List.map_append,List.map_map];rfl
theorem aVa {c q:ClipR} (hc:bB c=true) (hq:bB q=true) (h:gZ c q=true):frC { c with len:=c.len+q.len }=frC c++frC q:=by
 have e:=(Zf hc hq).1 h;have l1:=bZ hc;have l2:=bZ hq;have e2:(c.len+q.len).toNat=c.len.toNat+q.len.toNat:=by omega
 unfold frC;simp only;rw [e2,range_add];congr 1;refine List.map_congr_left fun k _=>?_
 have e3:q = { Ur c c.len with len:=q.len }:=e;have e4:one q (k:Int)=one (Ur c c.len) (k:Int):=by
  rw [e3];rfl
 rw [one_len,e4,one_adv hc];congr 1;omega
theorem aKd:∀ (l:List ClipR) (c:ClipR),bB c=true→(∀ d∈l,bB d=true)→c.len+bU l≤2147483647→fr (pkA c l)=frC c++fr l
 | [],c,_,_,_=>by simp [pkA,fr]
 | q::l,c,hc,hl,ht=>by
  have hq:=hl q (by simp);have hl2:∀ d∈l,bB d=true:=fun d hd=>hl d (by simp [hd])
  have h0:=gU l fun d hd=>(bZ (hl2 d hd)).1
  have hc1:=bZ hc;have hq1:=bZ hq;simp only [bU] at ht;rw [pkA];split
  ·rename_i hcc;rw [aKd l _ (aMy hc hq hcc (by omega)) hl2 (by simp only;omega),aVa hc hq hcc,Nj,List.append_assoc]
  ·rw [Nj,aKd l q hq hl2 (by omega),Nj]
theorem fr_pk {l:List ClipR} (h:∀ d∈l,bB d=true) (ht:bU l≤2147483647):fr (pk l)=fr l:=by
 cases l with
 | nil=>rfl
 | cons c l=>exact aKd l c (h c (by simp)) (fun d hd=>h d (by simp [hd])) (by simpa [bU] using ht)
structure Gd (m:Int) (c:ClipR):Prop where
 ok:bB c=true
 fit:c.fit
 pl:∀ k,0≤k→k≤m→Ge (eG c.a k)=true∧Ge (eG c.b k)=true
open Go.RowKit
set_option maxRecDepth 4000
def cutF (l:List ClipR) (a n:Nat):List ClipR:=(l.drop a).take n++List.replicate (n - ((l.drop a).take n).length) (gapC 1)
structure CutOk (m:Int) (X:List ClipR) (F:List ClipR):Prop where
 gd:∀ d∈X,Gd m d
 tr:bC X=true
 fr:fr X=F
 tot:bU X=(F.length:Int)
end Go.Proofs.YtbfnemkngoaeeaaGreat
