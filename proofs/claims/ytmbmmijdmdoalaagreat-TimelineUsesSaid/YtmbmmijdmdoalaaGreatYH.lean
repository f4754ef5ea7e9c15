/- Proved here: The project with one thing changed, as data, for use in the proofs of the given statements; conditions stand in each theorem. -/
import Derived.Test.YtmbmmijdmdoalaaGreatYG
import Derived.Test.YtmbmmijdmdoalaaGreatZSW1
import Derived.Test.YtmbmmijdmdoalaaGreatY6
set_option linter.unusedSimpArgs false
set_option linter.unusedVariables false
set_option linter.unusedSectionVars false
set_option linter.unnecessarySimpa false
namespace Go.Proofs.YtmbmmijdmdoalaaGreat
open Go.RowKit
set_option maxRecDepth 4000
def shownC (nm:ByteArray):ClipR:=⟨3,1,⟨2,nm,⟨0,1⟩,⟨1,1⟩,false⟩,zSource,0,0,0,⟨#[]⟩,0,[]⟩
def seq11 (i:Int):SequenceR:=⟨nameB ⟨#[115]⟩ i,⟨25,1⟩,16,16,[[shownC (nameB ⟨#[115]⟩ (i - 1))]],[],[],0⟩
def odd11 (L:List Int):Nat→Nat→List SequenceR→List SequenceR
 | 0,_,s=>s
 | f+1,q,s=>if (s.length:Int)<4+tapeN L q 4 then odd11 L f (q+1) (s ++ [seq11 s.length]) else s
def medAtI (p:ProjR) (a:Nat):MediumR:=p.media.getD a default
def seqAtI (p:ProjR) (b:Nat):SequenceR:=p.seqs.getD b default
def oddK (p:ProjR) (L:List Int) (a b:Nat) (k:Int):ProjR :=
 if k=0∧1<p.media.length then ⟨p.media.set a { medAtI p a with name:=(medAtI p ((a+1) % p.media.length)).name },p.seqs⟩
 else if k=1 then ⟨p.media.take a++p.media.drop (a+1),p.seqs⟩
 else if k=2 then ⟨p.media,p.seqs.set b { seqAtI p b with name:=⟨#[66,105,103]⟩ }⟩
 else if k=3 then ⟨p.media,p.seqs.set b { seqAtI p b with w:=20 }⟩
 else if k=4 then ⟨p.media,p.seqs.set b { seqAtI p b with rate:=⟨2,2⟩ }⟩
 else if k=5 then ⟨p.media.set a { medAtI p a with frames := -1 },p.seqs⟩
 else if k=6∧1<p.seqs.length then ⟨p.media,p.seqs.set b { seqAtI p b with name:=(seqAtI p ((b+1) % p.seqs.length)).name }⟩
 else if k=7 then ⟨p.media,p.seqs.set b { seqAtI p b with video:=(seqAtI p b).video ++ [[shownC (nameB ⟨#[115]⟩ (tapeN L 3 4))]] }⟩
 else if k=8 then ⟨p.media,p.seqs.set b { seqAtI p b with sound:=(seqAtI p b).sound ++ [[(clipAt L 3 2 1).1]] }⟩
 else if k=9 then ⟨p.media,p.seqs.set b { seqAtI p b with video:=(seqAtI p b).video++List.replicate (9 - (seqAtI p b).video.length) [] }⟩
 else if k=10 then ⟨p.media,p.seqs.set b { seqAtI p b with cues:=(seqAtI p b).cues ++ [⟨5,5,[⟨#[120]⟩]⟩] }⟩
 else if k=11 then ⟨p.media,odd11 L 8 3 p.seqs⟩
 else p
def oddP (p:ProjR) (L:List Int):ProjR:=oddK p L (tapeN L 1 p.media.length).toNat (tapeN L 2 p.seqs.length).toNat (tapeN L 0 16)
theorem fit_set {α : Type} {P : α → Prop} {l:List α} {i:Nat} {x : α} (h:∀ y∈l,P y) (hx:P x):∀ y∈l.set i x,P y:=by
 intro y hy
 rcases List.mem_or_eq_of_mem_set hy with h1 | h1
 ·exact h y h1
 ·rw [h1];exact hx
theorem shownC_fit (nm:ByteArray):(shownC nm).fit:=by
 have i0:I64 0:=⟨by decide,by decide⟩
 have i1:I64 1:=⟨by decide,by decide⟩
 have i2:I64 2:=⟨by decide,by decide⟩
 have i3:I64 3:=⟨by decide,by decide⟩
 exact ⟨i3,i1,⟨i2,⟨i0,i1⟩,⟨i1,i1⟩⟩,⟨i0,⟨i0,i0⟩,⟨i0,i0⟩⟩,i0,i0,i0,i0⟩
theorem seq11_fit (i:Int):(seq11 i).fit:=by
 have i0:I64 0:=⟨by decide,by decide⟩
 have i1:I64 1:=⟨by decide,by decide⟩
 have i16:I64 16:=⟨by decide,by decide⟩
 have i25:I64 25:=⟨by decide,by decide⟩
 refine ⟨⟨i25,i1⟩,i16,i16,fun t ht c hc=>?_,fun t ht=>(by cases ht),fun c hc=>(by cases hc),i0⟩
 simp only [seq11,List.mem_cons,List.not_mem_nil,or_false] at ht
 subst ht
 simp only [List.mem_cons,List.not_mem_nil,or_false] at hc
 subst hc
 exact shownC_fit _
theorem odd11_fit (L:List Int):∀ (f q:Nat) (s:List SequenceR),(∀ y∈s,y.fit) → ∀ y∈odd11 L f q s,y.fit
 | 0,q,s,h=>h
 | f+1,q,s,h=>by
  unfold odd11
  split
  ·refine odd11_fit L f (q+1) _ fun y hy=>?_
   rcases List.mem_append.1 hy with hy | hy
   ·exact h y hy
   ·simp only [List.mem_cons,List.not_mem_nil,or_false] at hy
    rw [hy];exact seq11_fit _
  ·exact h
theorem ite_fit {c:Prop} [Decidable c] {a b:ProjR} (h1:c→a.fit) (h2 : ¬ c→b.fit):(if c then a else b).fit:=by
 by_cases h:c
 ·rw [if_pos h];exact h1 h
 ·rw [if_neg h];exact h2 h
theorem oddK_fit {p:ProjR} (h:p.fit) (L:List Int) {a b:Nat} (k:Int) (ha:a<p.media.length) (hb:b<p.seqs.length):(oddK p L a b k).fit:=by
 have fm:(medAtI p a).fit:=h.media _ (mem_getD ha)
 have fs:(seqAtI p b).fit:=h.seqs _ (mem_getD hb)
 have im:I64 (-1):=⟨by decide,by decide⟩
 have i2:I64 2:=⟨by decide,by decide⟩
 have i5:I64 5:=⟨by decide,by decide⟩
 have i20:I64 20:=⟨by decide,by decide⟩
 have ho:=odd11_fit L 8 3 _ h.seqs
 unfold oddK
 generalize odd11 L 8 3 p.seqs=O at *
 refine ite_fit (fun _=>?_) (fun _=>?_)
 ·exact ⟨fit_set h.media ⟨fm.seq,fm.frames,fm.channels,fm.samples,fm.cues⟩,h.seqs⟩
 ·refine ite_fit (fun _=>?_) (fun _=>?_)
  ·refine ⟨fun y hy=>?_,h.seqs⟩
   rcases List.mem_append.1 hy with hy | hy
   ·exact h.media y (List.mem_of_mem_take hy)
   ·exact h.media y (List.mem_of_mem_drop hy)
  ·refine ite_fit (fun _=>?_) (fun _=>?_)
   ·exact ⟨h.media,fit_set h.seqs ⟨fs.rate,fs.w,fs.h,fs.video,fs.sound,fs.cues,fs.channels⟩⟩
   ·refine ite_fit (fun _=>?_) (fun _=>?_)
    ·exact ⟨h.media,fit_set h.seqs ⟨fs.rate,i20,fs.h,fs.video,fs.sound,fs.cues,fs.channels⟩⟩
    ·refine ite_fit (fun _=>?_) (fun _=>?_)
     ·exact ⟨h.media,fit_set h.seqs ⟨⟨i2,i2⟩,fs.w,fs.h,fs.video,fs.sound,fs.cues,fs.channels⟩⟩
     ·refine ite_fit (fun _=>?_) (fun _=>?_)
      ·exact ⟨fit_set h.media ⟨fm.seq,im,fm.channels,fm.samples,fm.cues⟩,h.seqs⟩
      ·refine ite_fit (fun _=>?_) (fun _=>?_)
       ·exact ⟨h.media,fit_set h.seqs ⟨fs.rate,fs.w,fs.h,fs.video,fs.sound,fs.cues,fs.channels⟩⟩
       ·refine ite_fit (fun _=>?_) (fun _=>?_)
        ·refine ⟨h.media,fit_set h.seqs ⟨fs.rate,fs.w,fs.h,fun t ht c hc=>?_,fs.sound,fs.cues,fs.channels⟩⟩
         rcases List.mem_append.1 ht with ht | ht
         ·exact fs.video t ht c hc
         ·simp only [List.mem_cons,List.not_mem_nil,or_false] at ht
          subst ht
          simp only [List.mem_cons,List.not_mem_nil,or_false] at hc
          subst hc;exact shownC_fit _
        ·refine ite_fit (fun _=>?_) (fun _=>?_)
         ·refine ⟨h.media,fit_set h.seqs ⟨fs.rate,fs.w,fs.h,fs.video,fun t ht c hc=>?_,fs.cues,fs.channels⟩⟩
          rcases List.mem_append.1 ht with ht | ht
          ·exact fs.sound t ht c hc
          ·simp only [List.mem_cons,List.not_mem_nil,or_false] at ht
           subst ht
           simp only [List.mem_cons,List.not_mem_nil,or_false] at hc
           subst hc;exact (clipAt_ok L 3 2 1 (by omega) (by omega)).2
         ·refine ite_fit (fun _=>?_) (fun _=>?_)
          ·refine ⟨h.media,fit_set h.seqs ⟨fs.rate,fs.w,fs.h,fun t ht c hc=>?_,fs.sound,fs.cues,fs.channels⟩⟩
           rcases List.mem_append.1 ht with ht | ht
           ·exact fs.video t ht c hc
           ·rw [List.eq_of_mem_replicate ht] at hc
            cases hc
          ·refine ite_fit (fun _=>?_) (fun _=>?_)
           ·refine ⟨h.media,fit_set h.seqs ⟨fs.rate,fs.w,fs.h,fs.video,fs.sound,fun c hc=>?_,fs.channels⟩⟩
            rcases List.mem_append.1 hc with hc | hc
            ·exact fs.cues c hc
            ·simp only [List.mem_cons,List.not_mem_nil,or_false] at hc
             subst hc
             exact ⟨i5,i5⟩
           ·refine ite_fit (fun _=>?_) (fun _=>?_)
            ·exact ⟨h.media,ho⟩
            ·exact h
theorem oddP_fit {p:ProjR} (h:p.fit) (L:List Int) (hm : 1≤p.media.length) (hs : 1≤p.seqs.length):(oddP p L).fit:=by
 have t1:=tapeN_lt (L:=L) (k:=1) (n:=p.media.length) (by omega)
 have t2:=tapeN_lt (L:=L) (k:=2) (n:=p.seqs.length) (by omega)
 exact oddK_fit h L _ (by omega) (by omega)
open Go.RowKit
set_option maxRecDepth 4000
theorem tCells_map:∀ l:List T,Go.Proofs.YtmbmmijdmdoalaaGreat.tCells (l.map V.t)=some l
 | []=>rfl
 | x::l=>by simp only [List.map_cons,tCells,tCells_map l];rfl
@[go_sem] theorem vmed_tCells (m:MediumR):Go.Proofs.YtmbmmijdmdoalaaGreat.tCells (vmed m)=some (MediumR.c m):=by
 exact tCells_map _
@[go_sem] theorem vmed_get0 (m:MediumR):(vmed m)[0]? = some (vstr m.name):=rfl
@[go_sem] theorem vmed_put0 (m:MediumR) (n:ByteArray):List.take 0 (vmed m) ++ [V.t (.lit (.string n))]++List.drop 1 (vmed m)=vmed { m with name:=n }:=rfl
@[go_sem] theorem vmed_put0' (m:MediumR) (n:ByteArray):V.t (.lit (.string n))::List.drop 1 (vmed m)=vmed { m with name:=n }:=rfl
@[go_sem] theorem vmed_put137 (m:MediumR) (x:Int):List.take 137 (vmed m) ++ [V.t (.lit (.int .i64 x))]++List.drop 138 (vmed m)=vmed { m with frames:=x }:=rfl
theorem rTake (n:Nat) (X:List (List T)):List.take n (tRows X)=tRows (X.take n):=by unfold tRows;rw [List.map_take]
theorem rDrop (n:Nat) (X:List (List T)):List.drop n (tRows X)=tRows (X.drop n):=by unfold tRows;rw [List.map_drop]
theorem rApp (X Y:List (List T)):tRows X++tRows Y=tRows (X++Y):=by unfold tRows;rw [List.map_append]
theorem lendRs_set {f:V→Option T} (hf:∀ x,f (.t x)=some x) {cs:List V} {ts:List T} (hc:Go.Proofs.YtmbmmijdmdoalaaGreat.lendCs f cs=some ts):∀ (X:List (List T)) (b:Nat),Go.Proofs.YtmbmmijdmdoalaaGreat.lendRs f ((tRows X).set b cs)=some (X.set b ts)
 | [],_=>by simp [tRows,lendRs]
 | x::X,0=>by
  have:=lendRs_t f hf X
  unfold tRows at this ⊢
  simp only [List.map_cons,List.set_cons_zero,lendRs,hc,this]
 | x::X,b+1=>by
  have:=lendRs_set hf hc X b
  unfold tRows at this ⊢
  simp only [List.map_cons,List.set_cons_succ,lendRs,this,lendCs_t f hf]
@[go_sem] theorem lendRs_setC (h:Heap) (n:Nat) (X:List (List T)) (b:Nat) (cs:List V) (hb:b<X.length):Go.Proofs.YtmbmmijdmdoalaaGreat.lendRs (lendC h n) ((tRows X).set b cs)=match Go.Proofs.YtmbmmijdmdoalaaGreat.lendCs (lendC h n) cs with
  | some ts=>some (X.set b ts)
  | none=>none:=by
 cases e:Go.Proofs.YtmbmmijdmdoalaaGreat.lendCs (lendC h n) cs with
 | some ts=>exact lendRs_set (lendC_t h n) e X b
 | none =>
  simp only
  induction X generalizing b with
  | nil=>cases hb
  | cons x X ih =>
   cases b with
   | zero=>simp only [tRows,List.map_cons,List.set_cons_zero,lendRs,e]
   | succ b =>
    have:=ih b (by simpa using hb)
    unfold tRows at this ⊢
    simp only [List.map_cons,List.set_cons_succ,lendRs,this]
    cases lendCs (lendC h n) (List.map V.t x)<;>rfl
@[go_sem] theorem reachRs_setC (h:Heap) (n:Nat) (X:List (List T)) (b:Nat) (cs:List V) (hb:b<X.length):Go.Proofs.YtmbmmijdmdoalaaGreat.reachRs (reach h n) ((tRows X).set b cs)=Go.Proofs.YtmbmmijdmdoalaaGreat.reachL (reach h n) cs:=by
 induction X generalizing b with
 | nil=>cases hb
 | cons x X ih =>
  cases b with
  | zero =>
   have:=reachRs_t (reach h n) (reach_t h n) X
   unfold tRows at this ⊢
   simp only [List.map_cons,List.set_cons_zero,reachRs,this,List.append_nil]
  | succ b =>
   have:=ih b (by simpa using hb)
   unfold tRows at this ⊢
   simp only [List.map_cons,List.set_cons_succ,reachRs,this,reachL_t _ (reach_t h n),List.nil_append]
theorem impL_refl:∀ l:List T,ImpL l l
 | []=>trivial
 | x::l=>⟨imp_refl,impL_refl l⟩
theorem impR_refl:∀ l:List (List T),ImpR l l
 | []=>trivial
 | x::l=>⟨impL_refl x,impR_refl l⟩
theorem impR_set {c c':List T} (h:ImpL c' c):∀ (l:List (List T)) (b:Nat),ImpR (l.set b c') (l.set b c)
 | [],_=>trivial
 | x::l,0=>⟨h,impR_refl l⟩
 | x::l,b+1=>⟨impL_refl x,impR_set h l b⟩
theorem impR_app {a a':List (List T)} (h:ImpR a' a):∀ (l:List (List T)),ImpR (l++a') (l++a)
 | []=>h
 | x::l=>⟨impL_refl x,impR_app h l⟩
theorem impR_rep:∀ n:Nat,ImpR (List.replicate n [T.lit (.slice none 0 0)]) (List.replicate n (trackC []))
 | 0=>trivial
 | n+1=>⟨⟨imp_nil,trivial⟩,impR_rep n⟩
def d9:Nat→List T
 | 0=>trackC []
 | _+1=>[.lit (.slice none 0 0)]
def c9 (s:SequenceR) (x:Nat):List T:=[tstr s.name,ti s.rate.num,ti s.rate.den,ti s.w,ti s.h, .list 1 (d9 x) (List.map trackC s.video++List.replicate x [.lit (.slice none 0 0)]),ttracks s.sound,tcues s.cues,ti s.channels]
abbrev zCl:List T:=[ti 0,ti 0,ti 0,tstr ⟨#[]⟩,ti 0,ti 0,ti 0,ti 0, .lit (.bool false),ti 0,tstr ⟨#[]⟩,ti 0,ti 0,ti 0,ti 0, .lit (.bool false),ti 0,ti 0,ti 0,tstr ⟨#[]⟩,ti 0, .lit (.slice none 0 0)]
def n11 (i:Int):List T:=[tstr (nameB ⟨#[115]⟩ i),ti 25,ti 1,ti 16,ti 16, .list 1 [.lit (.slice none 0 0)] [[.list 22 zCl [[ti 3,ti 1,ti 2,tstr (nameB ⟨#[115]⟩ (i - 1)),ti 0,ti 1,ti 1,ti 1, .lit (.bool false),ti 0,tstr ⟨#[]⟩,ti 0,ti 0,ti 0,ti 0, .lit (.bool false),ti 0,ti 0,ti 0,tstr ⟨#[]⟩,ti 0, .lit (.slice none 0 0)]]]], .lit (.slice none 0 0), .lit (.slice none 0 0),ti 0]
theorem n11_imp (i:Int):ImpL (n11 i) (SequenceR.c (seq11 i)) :=
 ⟨imp_refl,imp_refl,imp_refl,imp_refl,imp_refl,imp_list ⟨⟨imp_list ⟨⟨imp_refl,imp_refl,imp_refl,imp_refl,imp_refl,imp_refl,imp_refl,imp_refl,imp_refl,imp_refl,imp_refl,imp_refl,imp_refl,imp_refl,imp_refl,imp_refl,imp_refl,imp_refl,imp_refl,imp_refl,imp_refl,imp_nil,trivial⟩,trivial⟩,trivial⟩,trivial⟩,imp_nil,imp_nil,imp_refl,trivial⟩
def x11 (l:List SequenceR) (m:Nat):List (List T):=List.map SequenceR.c l++(List.range m).map fun j=>n11 ((l.length+j:Nat):Int)
def s11 (l:List SequenceR) (m:Nat):List SequenceR:=l++(List.range m).map fun j=>seq11 ((l.length+j:Nat):Int)
theorem x11_imp (l:List SequenceR) (m:Nat):ImpR (x11 l m) (List.map SequenceR.c (s11 l m)):=by
 unfold x11 s11
 rw [List.map_append,List.map_map]
 apply impR_app
 generalize List.range m=r
 induction r with
 | nil=>trivial
 | cons a r ih=>exact ⟨n11_imp _,ih⟩
theorem x11_succ (l:List SequenceR) (m:Nat):x11 l m ++ [n11 ((l.length+m:Nat):Int)]=x11 l (m+1):=by
 unfold x11
 rw [List.range_succ,List.map_append,List.append_assoc]
 rfl
theorem x11_len (l:List SequenceR) (m:Nat):(x11 l m).length=l.length+m:=by unfold x11;simp
theorem s11_succ (l:List SequenceR) (m:Nat):s11 l m ++ [seq11 ((l.length+m:Nat):Int)]=s11 l (m+1):=by
 unfold s11
 rw [List.range_succ,List.map_append,List.append_assoc]
 rfl
theorem s11_len (l:List SequenceR) (m:Nat):(s11 l m).length=l.length+m:=by unfold s11;simp
theorem pw_proj {q:ProjR} {x:V} {h:Heap} {dm ds:List T} {M S:List (List T)} (e:x.lend h = .agg [.t (.list 141 dm M), .t (.list 9 ds S)]) (h1:ImpR M (List.map MediumR.c q.media)) (h2:ImpR S (List.map SequenceR.c q.seqs)):pureW (vproj q) x h :=
 pureW_as e rfl (as_impAgg (by exact ⟨as_imp (imp_list h1),as_imp (imp_list h2),trivial⟩))
theorem fin_seqs (b:Nat) (x:SequenceR) {c:List T} (hc:ImpL c (SequenceR.c x)) {l:List SequenceR}:ImpR ((List.map SequenceR.c l).set b c) (List.map SequenceR.c (l.set b x)):=by
 rw [List.map_set]
 exact impR_set hc _ b
theorem fin_media (b:Nat) (x:MediumR) {l:List MediumR}:ImpR ((List.map MediumR.c l).set b (MediumR.c x)) (List.map MediumR.c (l.set b x)):=by
 rw [List.map_set]
 exact impR_refl _
set_option maxHeartbeats 16000000 in
theorem cOdd (p:ProjR) (L:List Int) (hm : 1≤p.media.length) (hm2:p.media.length≤16) (hs : 1≤p.seqs.length) (hs2:p.seqs.length≤16) (hv:∀ s∈p.seqs,s.video.length≤64∧s.sound.length≤64∧s.cues.length≤64) :
  CPure Tryz.prog 13 [vproj p, .t (tints L)] (vproj (oddP p L)):=by
 refine cpure_ofW Tryz.xen13 Tryz.func13 rfl Tryz.ntmps13 (by rw [Tryz.results13]) (aw_ok _ ?_)
 simp only [go_sem,Nat.reduceGT,↓reduceIte,Nat.reduceAdd,Nat.reduceSub,reduceCtorEq]
 refine drawC_of 10 .done rfl (by kernel_rfl) (by kernel_rfl) (by decide) ?_
 simp only [go_sem,Nat.reducePow,Nat.reduceLT,↓reduceIte,Nat.reduceAdd,Nat.reduceMul,Nat.reduceLeDiff,Nat.reduceEqDiff,reduceCtorEq]
 refine ⟨⟨by unfold maxLen;omega,by omega⟩,⟨by unfold maxLen;omega,by omega⟩,by kernel_rfl,?_⟩
 refine icall_box (cNext L 0 16 (by omega) (by omega) (by omega)) rfl rfl rfl ?_
 have n0:=tapeN_lt (L:=L) (k:=0) (n:=16) (by omega)
 simp only [go_sem,↓reduceIte,Nat.reduceEqDiff]
 refine icall_box (cNext L 1 p.media.length (by omega) (by omega) (by omega)) rfl rfl rfl ?_
 have n1:=tapeN_lt (L:=L) (k:=1) (n:=p.media.length) (by omega)
 simp only [go_sem,↓reduceIte,Nat.reduceAdd,Nat.reduceEqDiff]
 refine icall_box (cNext L 2 p.seqs.length (by omega) (by omega) (by omega)) rfl rfl rfl ?_
 have n2:=tapeN_lt (L:=L) (k:=2) (n:=p.seqs.length) (by omega)
 simp only [go_sem,↓reduceIte,Nat.reduceAdd,Nat.reduceEqDiff]
 obtain ⟨a,ha⟩:∃ a:Nat,tapeN L 1 p.media.length=a:=⟨(tapeN L 1 p.media.length).toNat,by omega⟩
 obtain ⟨b,hb⟩:∃ b:Nat,tapeN L 2 p.seqs.length=b:=⟨(tapeN L 2 p.seqs.length).toNat,by omega⟩
 unfold oddP
 rw [ha] at n1 ⊢
 rw [hb] at n2 ⊢
 rw [Int.toNat_natCast,Int.toNat_natCast]
 generalize tapeN L 0 16=k at *
 have hal:a<p.media.length:=by omega
 have hbl:b<p.seqs.length:=by omega
 have nm:∀ d,nth d (p.media.map MediumR.c) a=MediumR.c (medAtI p a):=fun d=>by
  unfold nth medAtI
  rw [List.getElem?_map,List.getElem?_eq_getElem hal,getD_of_lt hal]
  rfl
 have ns:∀ d,nth d (p.seqs.map SequenceR.c) b=SequenceR.c (seqAtI p b):=fun d=>by
  unfold nth seqAtI
  rw [List.getElem?_map,List.getElem?_eq_getElem hbl,getD_of_lt hbl]
  rfl
 have hmod:(((a:Int)+1).tmod (p.media.length:Int))=(((a+1) % p.media.length:Nat):Int):=by
  rw [show ((a:Int)+1)=((a+1:Nat):Int) by omega,tmod_nat]
 have hmods:(((b:Int)+1).tmod (p.seqs.length:Int))=(((b+1) % p.seqs.length:Nat):Int):=by
  rw [show ((b:Int)+1)=((b+1:Nat):Int) by omega,tmod_nat]
 have nm2:∀ d,nth d (p.media.map MediumR.c) ((a+1) % p.media.length)=MediumR.c (medAtI p ((a+1) % p.media.length)):=fun d=>by
  have hal:=Nat.mod_lt (a+1) (show 0<p.media.length by omega)
  unfold nth medAtI
  rw [List.getElem?_map,List.getElem?_eq_getElem hal,getD_of_lt hal]
  rfl
 have ns2:∀ d,nth d (p.seqs.map SequenceR.c) ((b+1) % p.seqs.length)=SequenceR.c (seqAtI p ((b+1) % p.seqs.length)):=fun d=>by
  have hal:=Nat.mod_lt (b+1) (show 0<p.seqs.length by omega)
  unfold nth seqAtI
  rw [List.getElem?_map,List.getElem?_eq_getElem hal,getD_of_lt hal]
  rfl
 have hvb:=hv _ (show seqAtI p b∈p.seqs from mem_getD hbl)
 have hmm:=Nat.mod_lt (a+1) (show 0<p.media.length by omega)
 have hms:=Nat.mod_lt (b+1) (show 0<p.seqs.length by omega)
 unfold oddK
 refine brW (b:=decide (k=0∧1<p.media.length)) ?_ ⟨fun h0=>?_,fun h0=>?_⟩
 ·rw [Bool.eq_iff_iff,Bool.and_eq_true,beq_iff_eq,decide_eq_true_eq,decide_eq_true_eq];omega
 ·rw [if_pos (of_decide_eq_true h0)]
  have k0:=of_decide_eq_true h0
  unfold awS
  simp only [go_sem,Nat.reduceGT,↓reduceIte,Nat.reduceAdd,Nat.reduceLeDiff,Nat.reduceEqDiff,reduceCtorEq,wrap64 (x:=(a:Int)+1) (by omega) (by omega),hmod,nm,nm2]
  refine ⟨by omega,⟨by omega,by omega⟩,by omega,⟨by omega,by omega⟩,by omega,pw_proj (by simp only [go_sem,↓reduceIte,Nat.reduceEqDiff];exact rfl) (fin_media a _) (impR_refl _)⟩
 ·rw [if_neg (of_decide_eq_false h0)]
  unfold awS
  simp only [go_sem,↓reduceIte,Nat.reduceEqDiff]
  refine brW (b:=decide (k=1)) ?_ ⟨fun h1=>?_,fun h1=>?_⟩
  ·rw [Bool.eq_iff_iff,Bool.and_eq_true,beq_iff_eq,decide_eq_true_eq,decide_eq_true_eq];omega
  ·rw [if_pos (of_decide_eq_true h1)]
   have k1:=of_decide_eq_true h1
   unfold awS
   refine drawC_of 9 .done rfl (by kernel_rfl) (by kernel_rfl) (by decide) ?_
   simp only [go_sem,Nat.reduceGT,Nat.reduceLT,↓reduceIte,Nat.reduceAdd,Nat.reduceLeDiff,Nat.reduceEqDiff,reduceCtorEq,wrap64 (x:=(a:Int)+1) (by omega) (by omega),rTake,rDrop,rApp]
   have ea:((a:Int)+1).toNat=a+1:=by omega
   refine ⟨⟨by omega,by omega,by omega⟩,⟨by omega,by omega,by omega⟩,⟨rfl,by simp only [List.length_drop,List.length_take,List.length_map];unfold maxLen;omega,by simp only [List.length_drop,List.length_take,List.length_map];omega⟩,by kernel_rfl,pw_proj (by simp only [go_sem,↓reduceIte,Nat.reduceEqDiff];exact rfl) ?_ (impR_refl _)⟩
   rw [ea,List.take_of_length_le (i:=p.media.length) (by simp), ← List.map_take, ← List.map_drop, ← List.map_append]
   exact impR_refl _
  ·rw [if_neg (of_decide_eq_false h1)]
   unfold awS
   simp only [go_sem,↓reduceIte]
   refine brW (b:=decide (k=2)) ?_ ⟨fun h2=>?_,fun h2=>?_⟩
   ·rw [Bool.eq_iff_iff,Bool.and_eq_true,beq_iff_eq,decide_eq_true_eq,decide_eq_true_eq];omega
   ·rw [if_pos (of_decide_eq_true h2)]
    have k2:=of_decide_eq_true h2
    unfold awS
    simp only [go_sem,Nat.reduceGT,↓reduceIte,Nat.reduceAdd,Nat.reduceLeDiff,Nat.reduceEqDiff,reduceCtorEq,ns]
    refine ⟨⟨by omega,by omega⟩,by omega,pw_proj (by simp only [go_sem,↓reduceIte,Nat.reduceEqDiff];exact rfl) (impR_refl _) (fin_seqs b _ (impL_refl _))⟩
   ·rw [if_neg (of_decide_eq_false h2)]
    unfold awS
    simp only [go_sem,↓reduceIte]
    refine brW (b:=decide (k=3)) ?_ ⟨fun h3=>?_,fun h3=>?_⟩
    ·rw [Bool.eq_iff_iff,Bool.and_eq_true,beq_iff_eq,decide_eq_true_eq,decide_eq_true_eq];omega
    ·rw [if_pos (of_decide_eq_true h3)]
     have k3:=of_decide_eq_true h3
     unfold awS
     simp only [go_sem,Nat.reduceGT,↓reduceIte,Nat.reduceAdd,Nat.reduceLeDiff,Nat.reduceEqDiff,reduceCtorEq,ns]
     refine ⟨⟨by omega,by omega⟩,by omega,pw_proj (by simp only [go_sem,↓reduceIte,Nat.reduceEqDiff];exact rfl) (impR_refl _) (fin_seqs b _ (impL_refl _))⟩
    ·rw [if_neg (of_decide_eq_false h3)]
     unfold awS
     simp only [go_sem,↓reduceIte]
     refine brW (b:=decide (k=4)) ?_ ⟨fun h4=>?_,fun h4=>?_⟩
     ·rw [Bool.eq_iff_iff,Bool.and_eq_true,beq_iff_eq,decide_eq_true_eq,decide_eq_true_eq];omega
     ·rw [if_pos (of_decide_eq_true h4)]
      have k4:=of_decide_eq_true h4
      unfold awS
      simp only [go_sem,Nat.reduceGT,↓reduceIte,Nat.reduceAdd,Nat.reduceLeDiff,Nat.reduceEqDiff,reduceCtorEq,ns]
      refine ⟨⟨by omega,by omega⟩,by omega,pw_proj (by simp only [go_sem,↓reduceIte,Nat.reduceEqDiff];exact rfl) (impR_refl _) (fin_seqs b _ (impL_refl _))⟩
     ·rw [if_neg (of_decide_eq_false h4)]
      unfold awS
      simp only [go_sem,↓reduceIte,Nat.reduceEqDiff]
      refine brW (b:=decide (k=5)) ?_ ⟨fun h5=>?_,fun h5=>?_⟩
      ·rw [Bool.eq_iff_iff,Bool.and_eq_true,beq_iff_eq,decide_eq_true_eq,decide_eq_true_eq];omega
      ·rw [if_pos (of_decide_eq_true h5)]
       have k5:=of_decide_eq_true h5
       unfold awS
       simp only [go_sem,Nat.reduceGT,↓reduceIte,Nat.reduceAdd,Nat.reduceLeDiff,Nat.reduceEqDiff,reduceCtorEq,nm]
       refine ⟨⟨by omega,by omega⟩,by omega,pw_proj (by simp only [go_sem,↓reduceIte,Nat.reduceEqDiff];exact rfl) (fin_media a _) (impR_refl _)⟩
      ·rw [if_neg (of_decide_eq_false h5)]
       unfold awS
       simp only [go_sem,↓reduceIte]
       refine brW (b:=decide (k=6∧1<p.seqs.length)) ?_ ⟨fun h6=>?_,fun h6=>?_⟩
       ·rw [Bool.eq_iff_iff,Bool.and_eq_true,beq_iff_eq,decide_eq_true_eq,decide_eq_true_eq];omega
       ·rw [if_pos (of_decide_eq_true h6)]
        have k6:=of_decide_eq_true h6
        unfold awS
        simp only [go_sem,Nat.reduceGT,↓reduceIte,Nat.reduceAdd,Nat.reduceLeDiff,Nat.reduceEqDiff,reduceCtorEq,wrap64 (x:=(b:Int)+1) (by omega) (by omega),hmods,ns,ns2]
        refine ⟨by omega,⟨by omega,by omega⟩,by omega,⟨by omega,by omega⟩,by omega,pw_proj (by simp only [go_sem,↓reduceIte,Nat.reduceEqDiff];exact rfl) (impR_refl _) (fin_seqs b _ (impL_refl _))⟩
       ·rw [if_neg (of_decide_eq_false h6)]
        unfold awS
        simp only [go_sem,↓reduceIte]
        refine brW (b:=decide (k=7)) ?_ ⟨fun h7=>?_,fun h7=>?_⟩
        ·rw [Bool.eq_iff_iff,Bool.and_eq_true,beq_iff_eq,decide_eq_true_eq,decide_eq_true_eq];omega
        ·rw [if_pos (of_decide_eq_true h7)]
         have k7:=of_decide_eq_true h7
         unfold awS
         simp only [go_sem,Nat.reducePow,Nat.reduceLT,↓reduceIte,Nat.reduceAdd,Nat.reduceMul,Nat.reduceLeDiff,Nat.reduceEqDiff,reduceCtorEq,ns]
         refine ⟨⟨by omega,by omega⟩,by omega,⟨by unfold maxLen;omega,by omega⟩,?_⟩
         refine icall_box (cNext L 3 4 (by omega) (by omega) (by omega)) rfl rfl rfl ?_
         have n3:=tapeN_lt (L:=L) (k:=3) (n:=4) (by omega)
         simp only [go_sem,↓reduceIte,Nat.reduceAdd,Nat.reduceEqDiff]
         refine ⟨_,cName ⟨#[115]⟩ (tapeN L 3 4) (by omega) (by omega) (by decide),?_⟩
         simp only [go_sem,Nat.reduceGT,Nat.reducePow,Nat.reduceLT,↓reduceIte,Nat.reduceAdd,Nat.reduceMul,Nat.reduceLeDiff,Nat.reduceEqDiff,reduceCtorEq,ns]
         refine ⟨⟨by unfold maxLen;omega,by omega⟩,⟨by omega,by omega⟩,by omega,pw_proj (by simp only [go_sem,↓reduceIte,Nat.reduceEqDiff,hbl];exact rfl) (impR_refl _) (fin_seqs b _ ?_)⟩
         exact ⟨imp_refl,imp_refl,imp_refl,imp_refl,imp_refl,imp_list (by rw [List.map_append];apply impR_app;exact ⟨⟨imp_list ⟨⟨imp_refl,imp_refl,imp_refl,imp_refl,imp_refl,imp_refl,imp_refl,imp_refl,imp_refl,imp_refl,imp_refl,imp_refl,imp_refl,imp_refl,imp_refl,imp_refl,imp_refl,imp_refl,imp_refl,imp_refl,imp_refl,imp_nil,trivial⟩,trivial⟩,trivial⟩,trivial⟩),imp_refl,imp_refl,imp_refl,trivial⟩
        ·rw [if_neg (of_decide_eq_false h7)]
         unfold awS
         simp only [go_sem,↓reduceIte]
         refine brW (b:=decide (k=8)) ?_ ⟨fun h8=>?_,fun h8=>?_⟩
         ·rw [Bool.eq_iff_iff,Bool.and_eq_true,beq_iff_eq,decide_eq_true_eq,decide_eq_true_eq];omega
         ·rw [if_pos (of_decide_eq_true h8)]
          have k8:=of_decide_eq_true h8
          unfold awS
          simp only [go_sem,Nat.reducePow,Nat.reduceLT,↓reduceIte,Nat.reduceAdd,Nat.reduceMul,Nat.reduceLeDiff,Nat.reduceEqDiff,reduceCtorEq,ns]
          refine ⟨⟨by omega,by omega⟩,by omega,⟨by unfold maxLen;omega,by omega⟩,?_⟩
          refine icall_box (cClip L 3 2 1 (by omega) (by omega) (by omega)) rfl rfl rfl ?_
          simp only [go_sem,Nat.reduceGT,Nat.reducePow,Nat.reduceLT,↓reduceIte,Nat.reduceAdd,Nat.reduceMul,Nat.reduceLeDiff,Nat.reduceEqDiff,reduceCtorEq,ns]
          refine ⟨⟨by unfold maxLen;omega,by omega⟩,⟨by omega,by omega⟩,by omega,pw_proj (by simp only [go_sem,↓reduceIte,Nat.reduceEqDiff,hbl];exact rfl) (impR_refl _) (fin_seqs b _ ?_)⟩
          exact ⟨imp_refl,imp_refl,imp_refl,imp_refl,imp_refl,imp_refl,imp_list (by rw [List.map_append];apply impR_app;exact ⟨⟨imp_list ⟨impL_refl _,trivial⟩,trivial⟩,trivial⟩),imp_refl,imp_refl,trivial⟩
         ·rw [if_neg (of_decide_eq_false h8)]
          unfold awS
          simp only [go_sem,↓reduceIte]
          refine brW (b:=decide (k=9)) ?_ ⟨fun h9=>?_,fun h9=>?_⟩
          ·rw [Bool.eq_iff_iff,Bool.and_eq_true,beq_iff_eq,decide_eq_true_eq,decide_eq_true_eq];omega
          ·rw [if_pos (of_decide_eq_true h9)]
           have k9:=of_decide_eq_true h9
           unfold awS
           simp only [go_sem]
           obtain ⟨V9,hV9⟩:∃ f:Nat→List (List T),f=fun x=>(List.map SequenceR.c p.seqs).set b (c9 (seqAtI p b) x):=⟨_,rfl⟩
           have vn:∀ x d,nth d (V9 x) b = [tstr (seqAtI p b).name,ti (seqAtI p b).rate.num,ti (seqAtI p b).rate.den,ti (seqAtI p b).w,ti (seqAtI p b).h, .list 1 (d9 x) (List.map trackC (seqAtI p b).video++List.replicate x [.lit (.slice none 0 0)]),ttracks (seqAtI p b).sound,tcues (seqAtI p b).cues,ti (seqAtI p b).channels]:=fun x d=>by
            rw [hV9]
            unfold nth
            rw [List.getElem?_set_self (by simpa using hbl)]
            rfl
           have v0:List.map SequenceR.c p.seqs=V9 0:=by
            rw [hV9]
            refine (set_same (by simpa using hbl) ?_).symm
            rw [List.getElem_map]
            unfold c9 seqAtI
            rw [getD_of_lt hbl]
            simp [d9]
            rfl
           have vl:∀ x,(V9 x).length=p.seqs.length:=fun x=>by rw [hV9];simp
           have vs:∀ x c,(V9 x).set b c=(List.map SequenceR.c p.seqs).set b c:=fun x c=>by rw [hV9];simp
           have vstep:∀ x,(V9 x).set b [tstr (seqAtI p b).name,ti (seqAtI p b).rate.num,ti (seqAtI p b).rate.den,ti (seqAtI p b).w,ti (seqAtI p b).h, .list 1 [.lit (.slice none 0 0)] (List.map trackC (seqAtI p b).video++List.replicate x [.lit (.slice none 0 0)] ++ [[.lit (.slice none 0 0)]]),ttracks (seqAtI p b).sound,tcues (seqAtI p b).cues,ti (seqAtI p b).channels]=V9 (x+1):=fun x=>by
            rw [vs,hV9,List.append_assoc, ← List.replicate_succ']
            rfl
           refine awp_loop_f (fun (x:Nat) σ => { (cleanS σ) with h := σ.h.set 10 (.row 95 9 (SequenceR.c default) (tRows (V9 x))) }) (fun x=>(seqAtI p b).video.length+x≤max 9 (seqAtI p b).video.length) (fun x=>max 9 (seqAtI p b).video.length - ((seqAtI p b).video.length+x)) 0 (weak_self ?_) (by omega) ?_
           ·simp only [go_sem,Nat.reduceLT,↓reduceIte,Nat.reduceLeDiff,Nat.reduceEqDiff,reduceCtorEq]
            rw [v0]
            simp
           ·intro x hx
            refine aw_ok _ ?_
            simp only [go_sem,↓reduceIte,Nat.reduceEqDiff,reduceCtorEq,vn,vl,List.length_append,List.length_map,List.length_replicate]
            refine ⟨⟨by omega,by omega⟩,by omega,fun hlt=>?_,fun hge=>?_⟩
            ·simp only [decide_eq_true_eq] at hlt
             unfold awS
             simp only [go_sem,Nat.reducePow,Nat.reduceLT,↓reduceIte,Nat.reduceAdd,Nat.reduceMul,Nat.reduceLeDiff,Nat.reduceEqDiff,reduceCtorEq,vn,vl,List.length_append,List.length_map,List.length_replicate]
             refine ⟨⟨by omega,by omega⟩,by omega,⟨by unfold maxLen;omega,by omega⟩,⟨by unfold maxLen;omega,by omega⟩,⟨by omega,by omega⟩,by omega,x+1,weak_self ?_,by omega,by omega⟩
             simp only [go_sem,Nat.reduceLT,↓reduceIte,Nat.reduceLeDiff,Nat.reduceEqDiff,reduceCtorEq,vl,hbl,vstep]<;>simp
            ·simp only [decide_eq_false_iff_not] at hge
             unfold awS
             simp only [go_sem,Nat.reduceGT,↓reduceIte,Nat.reduceAdd,Nat.reduceLeDiff,Nat.reduceEqDiff,reduceCtorEq]
             refine pw_proj (by simp only [go_sem,↓reduceIte,Nat.reduceEqDiff];exact rfl) (impR_refl _) ?_
             have hxx:x=9 - (seqAtI p b).video.length:=by omega
             rw [hV9]
             subst hxx
             refine fin_seqs b _ ?_
             have hI:Imp (.list 1 (d9 (9 - (seqAtI p b).video.length)) (List.map trackC (seqAtI p b).video++List.replicate (9 - (seqAtI p b).video.length) [.lit (.slice none 0 0)])) (.list 1 (trackC []) (List.map trackC ((seqAtI p b).video++List.replicate (9 - (seqAtI p b).video.length) []))):=imp_list (by
              rw [List.map_append,List.map_replicate]
              apply impR_app
              exact impR_rep _)
             exact ⟨imp_refl,imp_refl,imp_refl,imp_refl,imp_refl,hI,imp_refl,imp_refl,imp_refl,trivial⟩
          ·rw [if_neg (of_decide_eq_false h9)]
           unfold awS
           simp only [go_sem,↓reduceIte]
           refine brW (b:=decide (k=10)) ?_ ⟨fun h10=>?_,fun h10=>?_⟩
           ·rw [Bool.eq_iff_iff,Bool.and_eq_true,beq_iff_eq,decide_eq_true_eq,decide_eq_true_eq];omega
           ·rw [if_pos (of_decide_eq_true h10)]
            have k10:=of_decide_eq_true h10
            unfold awS
            simp only [go_sem,Nat.reduceGT,Nat.reducePow,Nat.reduceLT,↓reduceIte,Nat.reduceAdd,Nat.reduceMul,Nat.reduceLeDiff,Nat.reduceEqDiff,reduceCtorEq,ns]
            refine ⟨⟨by omega,by omega⟩,by omega,⟨by unfold maxLen;omega,by omega⟩,⟨by unfold maxLen;omega,by omega⟩,⟨by omega,by omega⟩,by omega,pw_proj (by simp only [go_sem,↓reduceIte,Nat.reduceEqDiff,hbl];exact rfl) (impR_refl _) (fin_seqs b _ ?_)⟩
            exact ⟨imp_refl,imp_refl,imp_refl,imp_refl,imp_refl,imp_refl,imp_refl,imp_list (by rw [List.map_append];apply impR_app;exact ⟨⟨imp_refl,imp_refl,imp_list (impR_refl _),trivial⟩,trivial⟩),imp_refl,trivial⟩
           ·rw [if_neg (of_decide_eq_false h10)]
            unfold awS
            simp only [go_sem,↓reduceIte]
            refine brW (b:=decide (k=11)) ?_ ⟨fun h11=>?_,fun h11=>?_⟩
            ·rw [Bool.eq_iff_iff,beq_iff_eq,decide_eq_true_eq]
            ·rw [if_pos (of_decide_eq_true h11)]
             have k11:=of_decide_eq_true h11
             unfold awS
             simp only [go_sem,↓reduceIte]
             refine awp_loop_f (fun (m:Nat) σ => setS 11 (vint ((p.seqs.length+m:Nat):Int)) { (deadS [24,32,76,88,100,125,146,175,199,227,249] (cleanS σ)) with h:=[(10, .row 95 9 (SequenceR.c default) (tRows (x11 p.seqs m))),(6, .row 76 141 (MediumR.c default) (tRows (List.map MediumR.c p.media))),(2, .box [.t (tints L),vint ((3+m:Nat):Int)]),(1, .box [.t (.lit (.slice none 0 0)), .t (.lit (.slice none 0 0))]),(0, .box [.t (tmedia p.media), .t (tseqs p.seqs)])] })
              (fun m=>m≤7∧odd11 L (8 - m) (3+m) (s11 p.seqs m)=odd11 L 8 3 p.seqs) (fun m=>8 - m) 0 (weak_self ?_) ⟨by omega,by simp [s11]⟩ ?_
             ·simp only [go_sem,Nat.reduceLT,↓reduceIte,Nat.reduceAdd,Nat.reduceLeDiff,Nat.reduceEqDiff,reduceCtorEq]<;>simp [x11]
             ·rintro m ⟨hm7,hod⟩
              refine aw_ok _ ?_
              simp only [go_sem,↓reduceIte,Nat.reduceEqDiff,reduceCtorEq]
              refine icall_box (cNext L (3+m) 4 (by omega) (by omega) (by omega)) rfl rfl rfl ?_
              have n4:=tapeN_lt (L:=L) (k:=3+m) (n:=4) (by omega)
              simp only [go_sem,↓reduceIte,Nat.reduceEqDiff,wrap64 (x:=4+tapeN L (3+m) 4) (by omega) (by omega)]
              refine ⟨fun hlt=>?_,fun hge=>?_⟩
              ·simp only [decide_eq_true_eq] at hlt
               have hm6:m≤6:=by omega
               have w1:IntKind.i64.wrap (((p.seqs.length+m:Nat):Int) - 1)=((p.seqs.length+m:Nat):Int) - 1:=wrap64 (by omega) (by omega)
               unfold awS
               simp only [go_sem,↓reduceIte,w1]
               refine ⟨_,cName ⟨#[115]⟩ (((p.seqs.length+m:Nat):Int) - 1) (by omega) (by omega) (by decide),?_⟩
               simp only [go_sem,Nat.reduceGT,↓reduceIte,Nat.reduceAdd,Nat.reduceLeDiff,reduceCtorEq]
               refine drawC_of 11 .done rfl (by kernel_rfl) (by kernel_rfl) (by decide) ?_
               simp only [go_sem,↓reduceIte,Nat.reduceAdd]
               refine ⟨_,cName ⟨#[115]⟩ ((p.seqs.length+m:Nat):Int) (by omega) (by omega) (by decide),?_⟩
               simp only [go_sem,Nat.reduceGT,Nat.reducePow,Nat.reduceLT,↓reduceIte,Nat.reduceAdd,Nat.reduceMul,Nat.reduceLeDiff,Nat.reduceEqDiff,reduceCtorEq]
               have hl:=x11_len p.seqs m
               have w2:IntKind.i64.wrap (((p.seqs.length+m:Nat):Int)+1)=((p.seqs.length+(m+1):Nat):Int):=by rw [wrap64 (by omega) (by omega)];omega
               refine ⟨⟨by unfold maxLen;omega,by omega⟩,by kernel_rfl,m+1,weak_of [(10,some 23),(6,some 6),(2,some 2),(1,some 1),(0,some 0)] ?_,⟨by omega,?_⟩,by omega⟩
               ·simp only [go_sem,Nat.reduceLT,↓reduceIte,Nat.reduceLeDiff,Nat.reduceEqDiff,reduceCtorEq,w2]
                have e:=x11_succ p.seqs m
                unfold n11 at e
                rw [e]
                simp
                omega
               ·have e8 : 8 - m=(8 - (m+1))+1:=by omega
                rw [← hod,e8]
                conv=>rhs;unfold odd11
                rw [s11_len,if_pos hlt,s11_succ]
                rfl
              ·simp only [decide_eq_false_iff_not] at hge
               unfold awS
               simp only [go_sem,Nat.reduceGT,↓reduceIte,Nat.reduceAdd,Nat.reduceLeDiff,Nat.reduceEqDiff,reduceCtorEq]
               refine pw_proj (by simp only [go_sem,↓reduceIte,Nat.reduceEqDiff];exact rfl) (impR_refl _) ?_
               have e8 : 8 - m=(7 - m)+1:=by omega
               have hfin:odd11 L 8 3 p.seqs=s11 p.seqs m:=by
                rw [← hod,e8]
                unfold odd11
                rw [s11_len,if_neg (by omega)]
               show ImpR (x11 p.seqs m) (List.map SequenceR.c (odd11 L 8 3 p.seqs))
               rw [hfin]
               exact x11_imp _ _
            ·rw [if_neg (of_decide_eq_false h11)]
             unfold awS
             simp only [go_sem,Nat.reduceGT,↓reduceIte,Nat.reduceAdd,Nat.reduceLeDiff,Nat.reduceEqDiff,reduceCtorEq]
             exact pw_proj (by simp only [go_sem,↓reduceIte,Nat.reduceEqDiff];exact rfl) (impR_refl _) (impR_refl _)
end Go.Proofs.YtmbmmijdmdoalaaGreat
