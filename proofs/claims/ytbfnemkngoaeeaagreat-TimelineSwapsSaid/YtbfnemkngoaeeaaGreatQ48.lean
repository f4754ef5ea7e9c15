/- Proved here: The project with one thing changed, as data; conditions stand in each theorem. -/
import Derived.Test.YtbfnemkngoaeeaaGreatQ33
import Derived.Test.YtbfnemkngoaeeaaGreatQ41
import Derived.Test.YtbfnemkngoaeeaaGreatQ27
import Derived.Test.YtbfnemkngoaeeaaGreatQ35
set_option linter.unusedSimpArgs false
set_option linter.unusedVariables false
set_option linter.unusedSectionVars false
set_option linter.unnecessarySimpa false
namespace Go.Proofs.YtbfnemkngoaeeaaGreat
open Go.RowKit
set_option maxRecDepth 4000
def aB5 (nm:ByteArray):ClipR:=⟨3,1,⟨2,nm,⟨0,1⟩,⟨1,1⟩,false⟩,zSource,0,0,0,⟨#[]⟩,0,[]⟩
def Pk (i:Int):SequenceR:=⟨dZ ⟨#[115]⟩ i,⟨25,1⟩,16,16,[[aB5 (dZ ⟨#[115]⟩ (i - 1))]],[],[],0⟩
def vG (L:List Int):Nat→Nat→List SequenceR→List SequenceR
 | 0,_,s=>s
 | f+1,q,s=>if (s.length:Int)<4+aB L q 4 then vG L f (q+1) (s ++ [Pk s.length]) else s
def vN (p:ProjR) (a:Nat):MediumR:=p.media.getD a default
def bH (p:ProjR) (b:Nat):SequenceR:=p.seqs.getD b default
def aKy (p:ProjR) (L:List Int) (a b:Nat) (k:Int):ProjR :=
 if k=0∧1<p.media.length then ⟨p.media.set a { vN p a with name:=(vN p ((a+1) % p.media.length)).name },p.seqs⟩
 else if k=1 then ⟨p.media.take a++p.media.drop (a+1),p.seqs⟩
 else if k=2 then ⟨p.media,p.seqs.set b { bH p b with name:=⟨#[66,105,103]⟩ }⟩
 else if k=3 then ⟨p.media,p.seqs.set b { bH p b with w:=20 }⟩
 else if k=4 then ⟨p.media,p.seqs.set b { bH p b with rate:=⟨2,2⟩ }⟩
 else if k=5 then ⟨p.media.set a { vN p a with frames := -1 },p.seqs⟩
 else if k=6∧1<p.seqs.length then ⟨p.media,p.seqs.set b { bH p b with name:=(bH p ((b+1) % p.seqs.length)).name }⟩
 else if k=7 then ⟨p.media,p.seqs.set b { bH p b with video:=(bH p b).video ++ [[aB5 (dZ ⟨#[115]⟩ (aB L 3 4))]] }⟩
 else if k=8 then ⟨p.media,p.seqs.set b { bH p b with sound:=(bH p b).sound ++ [[(bU L 3 2 1).1]] }⟩
 else if k=9 then ⟨p.media,p.seqs.set b { bH p b with video:=(bH p b).video++List.replicate (9 - (bH p b).video.length) [] }⟩
 else if k=10 then ⟨p.media,p.seqs.set b { bH p b with cues:=(bH p b).cues ++ [⟨5,5,[⟨#[120]⟩]⟩] }⟩
 else if k=11 then ⟨p.media,vG L 8 3 p.seqs⟩
 else p
def Tp (p:ProjR) (L:List Int):ProjR:=aKy p L (aB L 1 p.media.length).toNat (aB L 2 p.seqs.length).toNat (aB L 0 16)
theorem mQ {α : Type} {P : α → Prop} {l:List α} {i:Nat} {x : α} (h:∀ y∈l,P y) (hx:P x):∀ y∈l.set i x,P y:=by
 intro y hy;rcases List.mem_or_eq_of_mem_set hy with h1 | h1
 ·exact h y h1
 ·rw [h1];exact hx
theorem Hq (nm:ByteArray):(aB5 nm).fit:=by
 have i0:I64 0:=⟨by decide,by decide⟩
 have i1:I64 1:=⟨by decide,by decide⟩
 have i2:I64 2:=⟨by decide,by decide⟩
 have i3:I64 3:=⟨by decide,by decide⟩
 exact ⟨i3,i1,⟨i2,⟨i0,i1⟩,⟨i1,i1⟩⟩,⟨i0,⟨i0,i0⟩,⟨i0,i0⟩⟩,i0,i0,i0,i0⟩
theorem aFv (i:Int):(Pk i).fit:=by
 have i0:I64 0:=⟨by decide,by decide⟩
 have i1:I64 1:=⟨by decide,by decide⟩
 have i16:I64 16:=⟨by decide,by decide⟩
 have i25:I64 25:=⟨by decide,by decide⟩
 refine ⟨⟨i25,i1⟩,i16,i16,fun t ht c hc=>?_,fun t ht=>(by cases ht),fun c hc=>(by cases hc),i0⟩;simp only [Pk,List.mem_cons,List.not_mem_nil,or_false] at ht;subst ht;simp only [List.mem_cons,List.not_mem_nil,or_false] at hc;subst hc;exact Hq _
theorem Qf (L:List Int):∀ (f q:Nat) (s:List SequenceR),(∀ y∈s,y.fit) → ∀ y∈vG L f q s,y.fit
 | 0,q,s,h=>h
 | f+1,q,s,h=>by
  unfold vG;split
  ·refine Qf L f (q+1) _ fun y hy=>?_
   rcases List.mem_append.1 hy with hy | hy
   ·exact h y hy
   ·simp only [List.mem_cons,List.not_mem_nil,or_false] at hy;rw [hy];exact aFv _
  ·exact h
theorem gZ {c:Prop} [Decidable c] {a b:ProjR} (h1:c→a.fit) (h2 : ¬ c→b.fit):(if c then a else b).fit:=by
 by_cases h:c
 ·rw [if_pos h];exact h1 h
 ·rw [if_neg h];exact h2 h
theorem aKx {p:ProjR} (h:p.fit) (L:List Int) {a b:Nat} (k:Int) (ha:a<p.media.length) (hb:b<p.seqs.length):(aKy p L a b k).fit:=by
 have fm:(vN p a).fit:=h.media _ (aQ ha);have fs:(bH p b).fit:=h.seqs _ (aQ hb);have im:I64 (-1):=⟨by decide,by decide⟩
 have i2:I64 2:=⟨by decide,by decide⟩
 have i5:I64 5:=⟨by decide,by decide⟩
 have i20:I64 20:=⟨by decide,by decide⟩
 have ho:=Qf L 8 3 _ h.seqs;unfold aKy;generalize vG L 8 3 p.seqs=O at *;refine gZ (fun _=>?_) (fun _=>?_)
 ·exact ⟨mQ h.media ⟨fm.seq,fm.frames,fm.channels,fm.samples,fm.cues⟩,h.seqs⟩
 ·refine gZ (fun _=>?_) (fun _=>?_)
  ·refine ⟨fun y hy=>?_,h.seqs⟩;rcases List.mem_append.1 hy with hy | hy
   ·exact h.media y (List.mem_of_mem_take hy)
   ·exact h.media y (List.mem_of_mem_drop hy)
  ·refine gZ (fun _=>?_) (fun _=>?_)
   ·exact ⟨h.media,mQ h.seqs ⟨fs.rate,fs.w,fs.h,fs.video,fs.sound,fs.cues,fs.channels⟩⟩
   ·refine gZ (fun _=>?_) (fun _=>?_)
    ·exact ⟨h.media,mQ h.seqs ⟨fs.rate,i20,fs.h,fs.video,fs.sound,fs.cues,fs.channels⟩⟩
    ·refine gZ (fun _=>?_) (fun _=>?_)
     ·exact ⟨h.media,mQ h.seqs ⟨⟨i2,i2⟩,fs.w,fs.h,fs.video,fs.sound,fs.cues,fs.channels⟩⟩
     ·refine gZ (fun _=>?_) (fun _=>?_)
      ·exact ⟨mQ h.media ⟨fm.seq,im,fm.channels,fm.samples,fm.cues⟩,h.seqs⟩
      ·refine gZ (fun _=>?_) (fun _=>?_)
       ·exact ⟨h.media,mQ h.seqs ⟨fs.rate,fs.w,fs.h,fs.video,fs.sound,fs.cues,fs.channels⟩⟩
       ·refine gZ (fun _=>?_) (fun _=>?_)
        ·refine ⟨h.media,mQ h.seqs ⟨fs.rate,fs.w,fs.h,fun t ht c hc=>?_,fs.sound,fs.cues,fs.channels⟩⟩;rcases List.mem_append.1 ht with ht | ht
         ·exact fs.video t ht c hc
         ·simp only [List.mem_cons,List.not_mem_nil,or_false] at ht;subst ht;simp only [List.mem_cons,List.not_mem_nil,or_false] at hc;subst hc;exact Hq _
        ·refine gZ (fun _=>?_) (fun _=>?_)
         ·refine ⟨h.media,mQ h.seqs ⟨fs.rate,fs.w,fs.h,fs.video,fun t ht c hc=>?_,fs.cues,fs.channels⟩⟩;rcases List.mem_append.1 ht with ht | ht
          ·exact fs.sound t ht c hc
          ·simp only [List.mem_cons,List.not_mem_nil,or_false] at ht;subst ht;simp only [List.mem_cons,List.not_mem_nil,or_false] at hc;subst hc;exact (Rf L 3 2 1 (by omega) (by omega)).2
         ·refine gZ (fun _=>?_) (fun _=>?_)
          ·refine ⟨h.media,mQ h.seqs ⟨fs.rate,fs.w,fs.h,fun t ht c hc=>?_,fs.sound,fs.cues,fs.channels⟩⟩;rcases List.mem_append.1 ht with ht | ht
           ·exact fs.video t ht c hc
           ·rw [List.eq_of_mem_replicate ht] at hc;cases hc
          ·refine gZ (fun _=>?_) (fun _=>?_)
           ·refine ⟨h.media,mQ h.seqs ⟨fs.rate,fs.w,fs.h,fs.video,fs.sound,fun c hc=>?_,fs.channels⟩⟩;rcases List.mem_append.1 hc with hc | hc
            ·exact fs.cues c hc
            ·simp only [List.mem_cons,List.not_mem_nil,or_false] at hc;subst hc;exact ⟨i5,i5⟩
           ·refine gZ (fun _=>?_) (fun _=>?_)
            ·exact ⟨h.media,ho⟩
            ·exact h
theorem aKw {p:ProjR} (h:p.fit) (L:List Int) (hm : 1≤p.media.length) (hs : 1≤p.seqs.length):(Tp p L).fit:=by
 have t1:=aE (L:=L) (k:=1) (n:=p.media.length) (by omega);have t2:=aE (L:=L) (k:=2) (n:=p.seqs.length) (by omega);exact aKx h L _ (by omega) (by omega)
open Go.RowKit
set_option maxRecDepth 4000
theorem rTake (n:Nat) (X:List (List T)):List.take n (aK X)=aK (X.take n):=by unfold aK;rw [List.map_take]
theorem rDrop (n:Nat) (X:List (List T)):List.drop n (aK X)=aK (X.drop n):=by unfold aK;rw [List.map_drop]
theorem rApp (X Y:List (List T)):aK X++aK Y=aK (X++Y):=by unfold aK;rw [List.map_append]
theorem Kh {f:V→Option T} (hf:∀ x,f (.t x)=some x) {cs:List V} {ts:List T} (hc:Go.Proofs.YtbfnemkngoaeeaaGreat.lendCs f cs=some ts):∀ (X:List (List T)) (b:Nat),Go.Proofs.YtbfnemkngoaeeaaGreat.lendRs f ((aK X).set b cs)=some (X.set b ts)
 | [],_=>by simp [aK,lendRs]
 | x::X,0=>by
  have:=sK f hf X;unfold aK at this ⊢;simp only [List.map_cons,List.set_cons_zero,lendRs,hc,this]
 | x::X,b+1=>by
  have:=Kh hf hc X b;unfold aK at this ⊢;simp only [List.map_cons,List.set_cons_succ,lendRs,this,sL f hf]
@[go_sem] theorem lendRs_setC (h:Heap) (n:Nat) (X:List (List T)) (b:Nat) (cs:List V) (hb:b<X.length):Go.Proofs.YtbfnemkngoaeeaaGreat.lendRs (aR h n) ((aK X).set b cs)=match Go.Proofs.YtbfnemkngoaeeaaGreat.lendCs (aR h n) cs with
  | some ts=>some (X.set b ts)
  | none=>none:=by
 cases e:Go.Proofs.YtbfnemkngoaeeaaGreat.lendCs (aR h n) cs with
 | some ts=>exact Kh (fF h n) e X b
 | none =>
  simp only
  induction X generalizing b with
  | nil=>cases hb
  | cons x X ih =>
   cases b with
   | zero=>simp only [aK,List.map_cons,List.set_cons_zero,lendRs,e]
   | succ b =>
    have:=ih b (by simpa using hb);unfold aK at this ⊢;simp only [List.map_cons,List.set_cons_succ,lendRs,this];cases lendCs (aR h n) (List.map V.t x)<;>rfl
@[go_sem] theorem reachRs_setC (h:Heap) (n:Nat) (X:List (List T)) (b:Nat) (cs:List V) (hb:b<X.length):Go.Proofs.YtbfnemkngoaeeaaGreat.reachRs (gQ h n) ((aK X).set b cs)=Go.Proofs.YtbfnemkngoaeeaaGreat.reachL (gQ h n) cs:=by
 induction X generalizing b with
 | nil=>cases hb
 | cons x X ih =>
  cases b with
  | zero =>
   have:=wV (gQ h n) (wU h n) X;unfold aK at this ⊢;simp only [List.map_cons,List.set_cons_zero,reachRs,this,List.append_nil]
  | succ b =>
   have:=ih b (by simpa using hb);unfold aK at this ⊢;simp only [List.map_cons,List.set_cons_succ,reachRs,this,vD _ (wU h n),List.nil_append]
theorem gM:∀ l:List T,aAg l l
 | []=>trivial
 | x::l=>⟨aJ,gM l⟩
theorem cJ:∀ l:List (List T),Bx l l
 | []=>trivial
 | x::l=>⟨gM x,cJ l⟩
theorem Ze {c c':List T} (h:aAg c' c):∀ (l:List (List T)) (b:Nat),Bx (l.set b c') (l.set b c)
 | [],_=>trivial
 | x::l,0=>⟨h,cJ l⟩
 | x::l,b+1=>⟨gM x,Ze h l b⟩
theorem sN {a a':List (List T)} (h:Bx a' a):∀ (l:List (List T)),Bx (l++a') (l++a)
 | []=>h
 | x::l=>⟨gM x,sN h l⟩
theorem Zf:∀ n:Nat,Bx (List.replicate n [T.lit (.slice none 0 0)]) (List.replicate n (bS []))
 | 0=>trivial
 | n+1=>⟨⟨xQ,trivial⟩,Zf n⟩
def d9:Nat→List T
 | 0=>bS []
 | _+1=>[.lit (.slice none 0 0)]
def c9 (s:SequenceR) (x:Nat):List T:=[eX s.name,ti s.rate.num,ti s.rate.den,ti s.w,ti s.h, .list 1 (d9 x) (List.map bS s.video++List.replicate x [.lit (.slice none 0 0)]),cH s.sound,fA s.cues,ti s.channels]
abbrev zCl:List T:=[ti 0,ti 0,ti 0,eX ⟨#[]⟩,ti 0,ti 0,ti 0,ti 0, .lit (.bool false),ti 0,eX ⟨#[]⟩,ti 0,ti 0,ti 0,ti 0, .lit (.bool false),ti 0,ti 0,ti 0,eX ⟨#[]⟩,ti 0, .lit (.slice none 0 0)]
def n11 (i:Int):List T:=[eX (dZ ⟨#[115]⟩ i),ti 25,ti 1,ti 16,ti 16, .list 1 [.lit (.slice none 0 0)] [[.list 22 zCl [[ti 3,ti 1,ti 2,eX (dZ ⟨#[115]⟩ (i - 1)),ti 0,ti 1,ti 1,ti 1, .lit (.bool false),ti 0,eX ⟨#[]⟩,ti 0,ti 0,ti 0,ti 0, .lit (.bool false),ti 0,ti 0,ti 0,eX ⟨#[]⟩,ti 0, .lit (.slice none 0 0)]]]], .lit (.slice none 0 0), .lit (.slice none 0 0),ti 0]
theorem n11_imp (i:Int):aAg (n11 i) (SequenceR.c (Pk i)) :=
 ⟨aJ,aJ,aJ,aJ,aJ,gE ⟨⟨gE ⟨⟨aJ,aJ,aJ,aJ,aJ,aJ,aJ,aJ,aJ,aJ,aJ,aJ,aJ,aJ,aJ,aJ,aJ,aJ,aJ,aJ,aJ,xQ,trivial⟩,trivial⟩,trivial⟩,trivial⟩,xQ,xQ,aJ,trivial⟩
def x11 (l:List SequenceR) (m:Nat):List (List T):=List.map SequenceR.c l++(List.range m).map fun j=>n11 ((l.length+j:Nat):Int)
def s11 (l:List SequenceR) (m:Nat):List SequenceR:=l++(List.range m).map fun j=>Pk ((l.length+j:Nat):Int)
theorem x11_imp (l:List SequenceR) (m:Nat):Bx (x11 l m) (List.map SequenceR.c (s11 l m)):=by
 unfold x11 s11;rw [List.map_append,List.map_map];apply sN;generalize List.range m=r
 induction r with
 | nil=>trivial
 | cons a r ih=>exact ⟨n11_imp _,ih⟩
theorem aHs (l:List SequenceR) (m:Nat):x11 l m ++ [n11 ((l.length+m:Nat):Int)]=x11 l (m+1):=by
 unfold x11;rw [List.range_succ,List.map_append,List.append_assoc];rfl
theorem x11_len (l:List SequenceR) (m:Nat):(x11 l m).length=l.length+m:=by unfold x11;simp
theorem aJy (l:List SequenceR) (m:Nat):s11 l m ++ [Pk ((l.length+m:Nat):Int)]=s11 l (m+1):=by
 unfold s11;rw [List.range_succ,List.map_append,List.append_assoc];rfl
theorem aD8 (l:List SequenceR) (m:Nat):(s11 l m).length=l.length+m:=by unfold s11;simp
theorem gJ {q:ProjR} {x:V} {h:Heap} {dm ds:List T} {M S:List (List T)} (e:x.lend h = .agg [.t (.list 141 dm M), .t (.list 9 ds S)]) (h1:Bx M (List.map MediumR.c q.media)) (h2:Bx S (List.map SequenceR.c q.seqs)):Jk (eD q) x h :=
 Xk e rfl (Rv (by exact ⟨aCq (gE h1),aCq (gE h2),trivial⟩))
theorem nJ (b:Nat) (x:SequenceR) {c:List T} (hc:aAg c (SequenceR.c x)) {l:List SequenceR}:Bx ((List.map SequenceR.c l).set b c) (List.map SequenceR.c (l.set b x)):=by
 rw [List.map_set];exact Ze hc _ b
theorem Ra (b:Nat) (x:MediumR) {l:List MediumR}:Bx ((List.map MediumR.c l).set b (MediumR.c x)) (List.map MediumR.c (l.set b x)):=by
 rw [List.map_set];exact cJ _
set_option maxHeartbeats 16000000 in
theorem cOdd (p:ProjR) (L:List Int) (hm : 1≤p.media.length) (hm2:p.media.length≤16) (hs : 1≤p.seqs.length) (hs2:p.seqs.length≤16) (hv:∀ s∈p.seqs,s.video.length≤64∧s.sound.length≤64∧s.cues.length≤64) :
  aN Tryz.prog 19 [eD p, .t (bN L)] (eD (Tp p L)):=by
 refine fQ Tryz.X19 Tryz.func19 rfl Tryz.ntmps19 (by rw [Tryz.results19]) (aD _ ?_);simp only [go_sem,Nat.reduceGT,↓reduceIte,Nat.reduceAdd,Nat.reduceSub,reduceCtorEq];refine aV 10 .done rfl (by kernel_rfl) (by kernel_rfl) (by decide) ?_;simp only [go_sem,Nat.reducePow,Nat.reduceLT,↓reduceIte,Nat.reduceAdd,Nat.reduceMul,Nat.reduceLeDiff,Nat.reduceEqDiff,reduceCtorEq];refine ⟨⟨by unfold maxLen;omega,by omega⟩,⟨by unfold maxLen;omega,by omega⟩,by kernel_rfl,?_⟩;refine aL (bG L 0 16 (by omega) (by omega) (by omega)) rfl rfl rfl ?_;have n0:=aE (L:=L) (k:=0) (n:=16) (by omega);simp only [go_sem,↓reduceIte,Nat.reduceEqDiff];refine aL (bG L 1 p.media.length (by omega) (by omega) (by omega)) rfl rfl rfl ?_;have n1:=aE (L:=L) (k:=1) (n:=p.media.length) (by omega);simp only [go_sem,↓reduceIte,Nat.reduceAdd,Nat.reduceEqDiff];refine aL (bG L 2 p.seqs.length (by omega) (by omega) (by omega)) rfl rfl rfl ?_;have n2:=aE (L:=L) (k:=2) (n:=p.seqs.length) (by omega);simp only [go_sem,↓reduceIte,Nat.reduceAdd,Nat.reduceEqDiff];obtain ⟨a,ha⟩:∃ a:Nat,aB L 1 p.media.length=a:=⟨(aB L 1 p.media.length).toNat,by omega⟩
 obtain ⟨b,hb⟩:∃ b:Nat,aB L 2 p.seqs.length=b:=⟨(aB L 2 p.seqs.length).toNat,by omega⟩
 unfold Tp;rw [ha] at n1 ⊢;rw [hb] at n2 ⊢;rw [Int.toNat_natCast,Int.toNat_natCast];generalize aB L 0 16=k at *;have hal:a<p.media.length:=by omega
 have hbl:b<p.seqs.length:=by omega
 have nm:∀ d,nth d (p.media.map MediumR.c) a=MediumR.c (vN p a):=fun d=>by
  unfold nth vN;rw [List.getElem?_map,List.getElem?_eq_getElem hal,aU hal];rfl
 have ns:∀ d,nth d (p.seqs.map SequenceR.c) b=SequenceR.c (bH p b):=fun d=>by
  unfold nth bH;rw [List.getElem?_map,List.getElem?_eq_getElem hbl,aU hbl];rfl
 have hmod:(((a:Int)+1).tmod (p.media.length:Int))=(((a+1) % p.media.length:Nat):Int):=by
  rw [show ((a:Int)+1)=((a+1:Nat):Int) by omega,jL]
 have hmods:(((b:Int)+1).tmod (p.seqs.length:Int))=(((b+1) % p.seqs.length:Nat):Int):=by
  rw [show ((b:Int)+1)=((b+1:Nat):Int) by omega,jL]
 have nm2:∀ d,nth d (p.media.map MediumR.c) ((a+1) % p.media.length)=MediumR.c (vN p ((a+1) % p.media.length)):=fun d=>by
  have hal:=Nat.mod_lt (a+1) (show 0<p.media.length by omega);unfold nth vN;rw [List.getElem?_map,List.getElem?_eq_getElem hal,aU hal];rfl
 have ns2:∀ d,nth d (p.seqs.map SequenceR.c) ((b+1) % p.seqs.length)=SequenceR.c (bH p ((b+1) % p.seqs.length)):=fun d=>by
  have hal:=Nat.mod_lt (b+1) (show 0<p.seqs.length by omega);unfold nth bH;rw [List.getElem?_map,List.getElem?_eq_getElem hal,aU hal];rfl
 have hvb:=hv _ (show bH p b∈p.seqs from aQ hbl);have hmm:=Nat.mod_lt (a+1) (show 0<p.media.length by omega);have hms:=Nat.mod_lt (b+1) (show 0<p.seqs.length by omega);unfold aKy;refine brW (b:=decide (k=0∧1<p.media.length)) ?_ ⟨fun h0=>?_,fun h0=>?_⟩
 ·rw [Bool.eq_iff_iff,Bool.and_eq_true,beq_iff_eq,decide_eq_true_eq,decide_eq_true_eq];omega
 ·rw [if_pos (of_decide_eq_true h0)];have k0:=of_decide_eq_true h0;unfold awS;simp only [go_sem,Nat.reduceGT,↓reduceIte,Nat.reduceAdd,Nat.reduceLeDiff,Nat.reduceEqDiff,reduceCtorEq,wrap64 (x:=(a:Int)+1) (by omega) (by omega),hmod,nm,nm2];refine ⟨by omega,⟨by omega,by omega⟩,by omega,⟨by omega,by omega⟩,by omega,gJ (by simp only [go_sem,↓reduceIte,Nat.reduceEqDiff];exact rfl) (Ra a _) (cJ _)⟩
 ·rw [if_neg (of_decide_eq_false h0)];unfold awS;simp only [go_sem,↓reduceIte,Nat.reduceEqDiff];refine brW (b:=decide (k=1)) ?_ ⟨fun h1=>?_,fun h1=>?_⟩
  ·rw [Bool.eq_iff_iff,Bool.and_eq_true,beq_iff_eq,decide_eq_true_eq,decide_eq_true_eq];omega
  ·rw [if_pos (of_decide_eq_true h1)];have k1:=of_decide_eq_true h1;unfold awS;refine aV 9 .done rfl (by kernel_rfl) (by kernel_rfl) (by decide) ?_;simp only [go_sem,Nat.reduceGT,Nat.reduceLT,↓reduceIte,Nat.reduceAdd,Nat.reduceLeDiff,Nat.reduceEqDiff,reduceCtorEq,wrap64 (x:=(a:Int)+1) (by omega) (by omega),rTake,rDrop,rApp];have ea:((a:Int)+1).toNat=a+1:=by omega
   refine ⟨⟨by omega,by omega,by omega⟩,⟨by omega,by omega,by omega⟩,⟨rfl,by simp only [List.length_drop,List.length_take,List.length_map];unfold maxLen;omega,by simp only [List.length_drop,List.length_take,List.length_map];omega⟩,by kernel_rfl,gJ (by simp only [go_sem,↓reduceIte,Nat.reduceEqDiff];exact rfl) ?_ (cJ _)⟩;rw [ea,List.take_of_length_le (i:=p.media.length) (by simp), ← List.map_take, ← List.map_drop, ← List.map_append];exact cJ _
  ·rw [if_neg (of_decide_eq_false h1)];unfold awS;simp only [go_sem,↓reduceIte];refine brW (b:=decide (k=2)) ?_ ⟨fun h2=>?_,fun h2=>?_⟩
   ·rw [Bool.eq_iff_iff,Bool.and_eq_true,beq_iff_eq,decide_eq_true_eq,decide_eq_true_eq];omega
   ·rw [if_pos (of_decide_eq_true h2)];have k2:=of_decide_eq_true h2;unfold awS;simp only [go_sem,Nat.reduceGT,↓reduceIte,Nat.reduceAdd,Nat.reduceLeDiff,Nat.reduceEqDiff,reduceCtorEq,ns];refine ⟨⟨by omega,by omega⟩,by omega,gJ (by simp only [go_sem,↓reduceIte,Nat.reduceEqDiff];exact rfl) (cJ _) (nJ b _ (gM _))⟩
   ·rw [if_neg (of_decide_eq_false h2)];unfold awS;simp only [go_sem,↓reduceIte];refine brW (b:=decide (k=3)) ?_ ⟨fun h3=>?_,fun h3=>?_⟩
    ·rw [Bool.eq_iff_iff,Bool.and_eq_true,beq_iff_eq,decide_eq_true_eq,decide_eq_true_eq];omega
    ·rw [if_pos (of_decide_eq_true h3)];have k3:=of_decide_eq_true h3;unfold awS;simp only [go_sem,Nat.reduceGT,↓reduceIte,Nat.reduceAdd,Nat.reduceLeDiff,Nat.reduceEqDiff,reduceCtorEq,ns];refine ⟨⟨by omega,by omega⟩,by omega,gJ (by simp only [go_sem,↓reduceIte,Nat.reduceEqDiff];exact rfl) (cJ _) (nJ b _ (gM _))⟩
    ·rw [if_neg (of_decide_eq_false h3)];unfold awS;simp only [go_sem,↓reduceIte];refine brW (b:=decide (k=4)) ?_ ⟨fun h4=>?_,fun h4=>?_⟩
     ·rw [Bool.eq_iff_iff,Bool.and_eq_true,beq_iff_eq,decide_eq_true_eq,decide_eq_true_eq];omega
     ·rw [if_pos (of_decide_eq_true h4)];have k4:=of_decide_eq_true h4;unfold awS;simp only [go_sem,Nat.reduceGT,↓reduceIte,Nat.reduceAdd,Nat.reduceLeDiff,Nat.reduceEqDiff,reduceCtorEq,ns];refine ⟨⟨by omega,by omega⟩,by omega,gJ (by simp only [go_sem,↓reduceIte,Nat.reduceEqDiff];exact rfl) (cJ _) (nJ b _ (gM _))⟩
     ·rw [if_neg (of_decide_eq_false h4)];unfold awS;simp only [go_sem,↓reduceIte,Nat.reduceEqDiff];refine brW (b:=decide (k=5)) ?_ ⟨fun h5=>?_,fun h5=>?_⟩
      ·rw [Bool.eq_iff_iff,Bool.and_eq_true,beq_iff_eq,decide_eq_true_eq,decide_eq_true_eq];omega
      ·rw [if_pos (of_decide_eq_true h5)];have k5:=of_decide_eq_true h5;unfold awS;simp only [go_sem,Nat.reduceGT,↓reduceIte,Nat.reduceAdd,Nat.reduceLeDiff,Nat.reduceEqDiff,reduceCtorEq,nm];refine ⟨⟨by omega,by omega⟩,by omega,gJ (by simp only [go_sem,↓reduceIte,Nat.reduceEqDiff];exact rfl) (Ra a _) (cJ _)⟩
      ·rw [if_neg (of_decide_eq_false h5)];unfold awS;simp only [go_sem,↓reduceIte];refine brW (b:=decide (k=6∧1<p.seqs.length)) ?_ ⟨fun h6=>?_,fun h6=>?_⟩
       ·rw [Bool.eq_iff_iff,Bool.and_eq_true,beq_iff_eq,decide_eq_true_eq,decide_eq_true_eq];omega
       ·rw [if_pos (of_decide_eq_true h6)];have k6:=of_decide_eq_true h6;unfold awS;simp only [go_sem,Nat.reduceGT,↓reduceIte,Nat.reduceAdd,Nat.reduceLeDiff,Nat.reduceEqDiff,reduceCtorEq,wrap64 (x:=(b:Int)+1) (by omega) (by omega),hmods,ns,ns2];refine ⟨by omega,⟨by omega,by omega⟩,by omega,⟨by omega,by omega⟩,by omega,gJ (by simp only [go_sem,↓reduceIte,Nat.reduceEqDiff];exact rfl) (cJ _) (nJ b _ (gM _))⟩
       ·rw [if_neg (of_decide_eq_false h6)];unfold awS;simp only [go_sem,↓reduceIte];refine brW (b:=decide (k=7)) ?_ ⟨fun h7=>?_,fun h7=>?_⟩
        ·rw [Bool.eq_iff_iff,Bool.and_eq_true,beq_iff_eq,decide_eq_true_eq,decide_eq_true_eq];omega
        ·rw [if_pos (of_decide_eq_true h7)];have k7:=of_decide_eq_true h7;unfold awS;simp only [go_sem,Nat.reducePow,Nat.reduceLT,↓reduceIte,Nat.reduceAdd,Nat.reduceMul,Nat.reduceLeDiff,Nat.reduceEqDiff,reduceCtorEq,ns];refine ⟨⟨by omega,by omega⟩,by omega,⟨by unfold maxLen;omega,by omega⟩,?_⟩;refine aL (bG L 3 4 (by omega) (by omega) (by omega)) rfl rfl rfl ?_;have n3:=aE (L:=L) (k:=3) (n:=4) (by omega);simp only [go_sem,↓reduceIte,Nat.reduceAdd,Nat.reduceEqDiff];refine ⟨_,Mf ⟨#[115]⟩ (aB L 3 4) (by omega) (by omega) (by decide),?_⟩;simp only [go_sem,Nat.reduceGT,Nat.reducePow,Nat.reduceLT,↓reduceIte,Nat.reduceAdd,Nat.reduceMul,Nat.reduceLeDiff,Nat.reduceEqDiff,reduceCtorEq,ns];refine ⟨⟨by unfold maxLen;omega,by omega⟩,⟨by omega,by omega⟩,by omega,gJ (by simp only [go_sem,↓reduceIte,Nat.reduceEqDiff,hbl];exact rfl) (cJ _) (nJ b _ ?_)⟩;exact ⟨aJ,aJ,aJ,aJ,aJ,gE (by rw [List.map_append];apply sN;exact ⟨⟨gE ⟨⟨aJ,aJ,aJ,aJ,aJ,aJ,aJ,aJ,aJ,aJ,aJ,aJ,aJ,aJ,aJ,aJ,aJ,aJ,aJ,aJ,aJ,xQ,trivial⟩,trivial⟩,trivial⟩,trivial⟩),aJ,aJ,aJ,trivial⟩
        ·rw [if_neg (of_decide_eq_false h7)];unfold awS;simp only [go_sem,↓reduceIte];refine brW (b:=decide (k=8)) ?_ ⟨fun h8=>?_,fun h8=>?_⟩
         ·rw [Bool.eq_iff_iff,Bool.and_eq_true,beq_iff_eq,decide_eq_true_eq,decide_eq_true_eq];omega
         ·rw [if_pos (of_decide_eq_true h8)];have k8:=of_decide_eq_true h8;unfold awS;simp only [go_sem,Nat.reducePow,Nat.reduceLT,↓reduceIte,Nat.reduceAdd,Nat.reduceMul,Nat.reduceLeDiff,Nat.reduceEqDiff,reduceCtorEq,ns];refine ⟨⟨by omega,by omega⟩,by omega,⟨by unfold maxLen;omega,by omega⟩,?_⟩;refine aL (cClip L 3 2 1 (by omega) (by omega) (by omega)) rfl rfl rfl ?_;simp only [go_sem,Nat.reduceGT,Nat.reducePow,Nat.reduceLT,↓reduceIte,Nat.reduceAdd,Nat.reduceMul,Nat.reduceLeDiff,Nat.reduceEqDiff,reduceCtorEq,ns];refine ⟨⟨by unfold maxLen;omega,by omega⟩,⟨by omega,by omega⟩,by omega,gJ (by simp only [go_sem,↓reduceIte,Nat.reduceEqDiff,hbl];exact rfl) (cJ _) (nJ b _ ?_)⟩;exact ⟨aJ,aJ,aJ,aJ,aJ,aJ,gE (by rw [List.map_append];apply sN;exact ⟨⟨gE ⟨gM _,trivial⟩,trivial⟩,trivial⟩),aJ,aJ,trivial⟩
         ·rw [if_neg (of_decide_eq_false h8)];unfold awS;simp only [go_sem,↓reduceIte];refine brW (b:=decide (k=9)) ?_ ⟨fun h9=>?_,fun h9=>?_⟩
          ·rw [Bool.eq_iff_iff,Bool.and_eq_true,beq_iff_eq,decide_eq_true_eq,decide_eq_true_eq];omega
          ·rw [if_pos (of_decide_eq_true h9)];have k9:=of_decide_eq_true h9;unfold awS;simp only [go_sem];obtain ⟨V9,hV9⟩:∃ f:Nat→List (List T),f=fun x=>(List.map SequenceR.c p.seqs).set b (c9 (bH p b) x):=⟨_,rfl⟩
           have vn:∀ x d,nth d (V9 x) b = [eX (bH p b).name,ti (bH p b).rate.num,ti (bH p b).rate.den,ti (bH p b).w,ti (bH p b).h, .list 1 (d9 x) (List.map bS (bH p b).video++List.replicate x [.lit (.slice none 0 0)]),cH (bH p b).sound,fA (bH p b).cues,ti (bH p b).channels]:=fun x d=>by
            rw [hV9];unfold nth;rw [List.getElem?_set_self (by simpa using hbl)];rfl
           have v0:List.map SequenceR.c p.seqs=V9 0:=by
            rw [hV9];refine (rZ (by simpa using hbl) ?_).symm;rw [List.getElem_map];unfold c9 bH;rw [aU hbl];simp [d9];rfl
           have vl:∀ x,(V9 x).length=p.seqs.length:=fun x=>by rw [hV9];simp
           have vs:∀ x c,(V9 x).set b c=(List.map SequenceR.c p.seqs).set b c:=fun x c=>by rw [hV9];simp
           have vstep:∀ x,(V9 x).set b [eX (bH p b).name,ti (bH p b).rate.num,ti (bH p b).rate.den,ti (bH p b).w,ti (bH p b).h, .list 1 [.lit (.slice none 0 0)] (List.map bS (bH p b).video++List.replicate x [.lit (.slice none 0 0)] ++ [[.lit (.slice none 0 0)]]),cH (bH p b).sound,fA (bH p b).cues,ti (bH p b).channels]=V9 (x+1):=fun x=>by
            rw [vs,hV9,List.append_assoc, ← List.replicate_succ'];rfl
           refine aF (fun (x:Nat) σ => { (bF σ) with h := σ.h.set 10 (.row 114 9 (SequenceR.c default) (aK (V9 x))) }) (fun x=>(bH p b).video.length+x≤max 9 (bH p b).video.length) (fun x=>max 9 (bH p b).video.length - ((bH p b).video.length+x)) 0 (aA ?_) (by omega) ?_
           ·simp only [go_sem,Nat.reduceLT,↓reduceIte,Nat.reduceLeDiff,Nat.reduceEqDiff,reduceCtorEq];rw [v0];simp
           ·intro x hx;refine aD _ ?_;simp only [go_sem,↓reduceIte,Nat.reduceEqDiff,reduceCtorEq,vn,vl,List.length_append,List.length_map,List.length_replicate];refine ⟨⟨by omega,by omega⟩,by omega,fun hlt=>?_,fun hge=>?_⟩
            ·simp only [decide_eq_true_eq] at hlt;unfold awS;simp only [go_sem,Nat.reducePow,Nat.reduceLT,↓reduceIte,Nat.reduceAdd,Nat.reduceMul,Nat.reduceLeDiff,Nat.reduceEqDiff,reduceCtorEq,vn,vl,List.length_append,List.length_map,List.length_replicate];refine ⟨⟨by omega,by omega⟩,by omega,⟨by unfold maxLen;omega,by omega⟩,⟨by unfold maxLen;omega,by omega⟩,⟨by omega,by omega⟩,by omega,x+1,aA ?_,by omega,by omega⟩;simp only [go_sem,Nat.reduceLT,↓reduceIte,Nat.reduceLeDiff,Nat.reduceEqDiff,reduceCtorEq,vl,hbl,vstep]<;>simp
            ·simp only [decide_eq_false_iff_not] at hge;unfold awS;simp only [go_sem,Nat.reduceGT,↓reduceIte,Nat.reduceAdd,Nat.reduceLeDiff,Nat.reduceEqDiff,reduceCtorEq];refine gJ (by simp only [go_sem,↓reduceIte,Nat.reduceEqDiff];exact rfl) (cJ _) ?_;have hxx:x=9 - (bH p b).video.length:=by omega
             rw [hV9];subst hxx;refine nJ b _ ?_;have hI:Imp (.list 1 (d9 (9 - (bH p b).video.length)) (List.map bS (bH p b).video++List.replicate (9 - (bH p b).video.length) [.lit (.slice none 0 0)])) (.list 1 (bS []) (List.map bS ((bH p b).video++List.replicate (9 - (bH p b).video.length) []))):=gE (by
              rw [List.map_append,List.map_replicate];apply sN;exact Zf _)
             exact ⟨aJ,aJ,aJ,aJ,aJ,hI,aJ,aJ,aJ,trivial⟩
          ·rw [if_neg (of_decide_eq_false h9)];unfold awS;simp only [go_sem,↓reduceIte];refine brW (b:=decide (k=10)) ?_ ⟨fun h10=>?_,fun h10=>?_⟩
           ·rw [Bool.eq_iff_iff,Bool.and_eq_true,beq_iff_eq,decide_eq_true_eq,decide_eq_true_eq];omega
           ·rw [if_pos (of_decide_eq_true h10)];have k10:=of_decide_eq_true h10;unfold awS;simp only [go_sem,Nat.reduceGT,Nat.reducePow,Nat.reduceLT,↓reduceIte,Nat.reduceAdd,Nat.reduceMul,Nat.reduceLeDiff,Nat.reduceEqDiff,reduceCtorEq,ns];refine ⟨⟨by omega,by omega⟩,by omega,⟨by unfold maxLen;omega,by omega⟩,⟨by unfold maxLen;omega,by omega⟩,⟨by omega,by omega⟩,by omega,gJ (by simp only [go_sem,↓reduceIte,Nat.reduceEqDiff,hbl];exact rfl) (cJ _) (nJ b _ ?_)⟩;exact ⟨aJ,aJ,aJ,aJ,aJ,aJ,aJ,gE (by rw [List.map_append];apply sN;exact ⟨⟨aJ,aJ,gE (cJ _),trivial⟩,trivial⟩),aJ,trivial⟩
           ·rw [if_neg (of_decide_eq_false h10)];unfold awS;simp only [go_sem,↓reduceIte];refine brW (b:=decide (k=11)) ?_ ⟨fun h11=>?_,fun h11=>?_⟩
            ·rw [Bool.eq_iff_iff,beq_iff_eq,decide_eq_true_eq]
            ·rw [if_pos (of_decide_eq_true h11)];have k11:=of_decide_eq_true h11;unfold awS;simp only [go_sem,↓reduceIte];refine aF (fun (m:Nat) σ => bL 11 (aC ((p.seqs.length+m:Nat):Int)) { (aX [24,32,76,88,100,125,146,175,199,227,249] (bF σ)) with h:=[(10, .row 114 9 (SequenceR.c default) (aK (x11 p.seqs m))),(6, .row 82 141 (MediumR.c default) (aK (List.map MediumR.c p.media))),(2, .box [.t (bN L),aC ((3+m:Nat):Int)]),(1, .box [.t (.lit (.slice none 0 0)), .t (.lit (.slice none 0 0))]),(0, .box [.t (fC p.media), .t (gV p.seqs)])] })
              (fun m=>m≤7∧vG L (8 - m) (3+m) (s11 p.seqs m)=vG L 8 3 p.seqs) (fun m=>8 - m) 0 (aA ?_) ⟨by omega,by simp [s11]⟩ ?_
             ·simp only [go_sem,Nat.reduceLT,↓reduceIte,Nat.reduceAdd,Nat.reduceLeDiff,Nat.reduceEqDiff,reduceCtorEq]<;>simp [x11]
             ·rintro m ⟨hm7,hod⟩;refine aD _ ?_;simp only [go_sem,↓reduceIte,Nat.reduceEqDiff,reduceCtorEq];refine aL (bG L (3+m) 4 (by omega) (by omega) (by omega)) rfl rfl rfl ?_;have n4:=aE (L:=L) (k:=3+m) (n:=4) (by omega);simp only [go_sem,↓reduceIte,Nat.reduceEqDiff,wrap64 (x:=4+aB L (3+m) 4) (by omega) (by omega)];refine ⟨fun hlt=>?_,fun hge=>?_⟩
              ·simp only [decide_eq_true_eq] at hlt;have hm6:m≤6:=by omega
               have w1:IntKind.i64.wrap (((p.seqs.length+m:Nat):Int) - 1)=((p.seqs.length+m:Nat):Int) - 1:=wrap64 (by omega) (by omega);unfold awS;simp only [go_sem,↓reduceIte,w1];refine ⟨_,Mf ⟨#[115]⟩ (((p.seqs.length+m:Nat):Int) - 1) (by omega) (by omega) (by decide),?_⟩;simp only [go_sem,Nat.reduceGT,↓reduceIte,Nat.reduceAdd,Nat.reduceLeDiff,reduceCtorEq];refine aV 11 .done rfl (by kernel_rfl) (by kernel_rfl) (by decide) ?_;simp only [go_sem,↓reduceIte,Nat.reduceAdd];refine ⟨_,Mf ⟨#[115]⟩ ((p.seqs.length+m:Nat):Int) (by omega) (by omega) (by decide),?_⟩;simp only [go_sem,Nat.reduceGT,Nat.reducePow,Nat.reduceLT,↓reduceIte,Nat.reduceAdd,Nat.reduceMul,Nat.reduceLeDiff,Nat.reduceEqDiff,reduceCtorEq];have hl:=x11_len p.seqs m;have w2:IntKind.i64.wrap (((p.seqs.length+m:Nat):Int)+1)=((p.seqs.length+(m+1):Nat):Int):=by rw [wrap64 (by omega) (by omega)];omega
               refine ⟨⟨by unfold maxLen;omega,by omega⟩,by kernel_rfl,m+1,aW [(10,some 23),(6,some 6),(2,some 2),(1,some 1),(0,some 0)] ?_,⟨by omega,?_⟩,by omega⟩
               ·simp only [go_sem,Nat.reduceLT,↓reduceIte,Nat.reduceLeDiff,Nat.reduceEqDiff,reduceCtorEq,w2];have e:=aHs p.seqs m;unfold n11 at e;rw [e];simp;omega
               ·have e8 : 8 - m=(8 - (m+1))+1:=by omega
                rw [← hod,e8]
                conv=>rhs;unfold vG
                rw [aD8,if_pos hlt,aJy];rfl
              ·simp only [decide_eq_false_iff_not] at hge;unfold awS;simp only [go_sem,Nat.reduceGT,↓reduceIte,Nat.reduceAdd,Nat.reduceLeDiff,Nat.reduceEqDiff,reduceCtorEq];refine gJ (by simp only [go_sem,↓reduceIte,Nat.reduceEqDiff];exact rfl) (cJ _) ?_;have e8 : 8 - m=(7 - m)+1:=by omega
               have hfin:vG L 8 3 p.seqs=s11 p.seqs m:=by
                rw [← hod,e8];unfold vG;rw [aD8,if_neg (by omega)]
               show Bx (x11 p.seqs m) (List.map SequenceR.c (vG L 8 3 p.seqs))
               rw [hfin];exact x11_imp _ _
            ·rw [if_neg (of_decide_eq_false h11)];unfold awS;simp only [go_sem,Nat.reduceGT,↓reduceIte,Nat.reduceAdd,Nat.reduceLeDiff,Nat.reduceEqDiff,reduceCtorEq];exact gJ (by simp only [go_sem,↓reduceIte,Nat.reduceEqDiff];exact rfl) (cJ _) (cJ _)
end Go.Proofs.YtbfnemkngoaeeaaGreat
