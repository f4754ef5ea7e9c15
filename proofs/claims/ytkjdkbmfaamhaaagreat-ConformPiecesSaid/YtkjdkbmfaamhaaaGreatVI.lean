/- Proved here: The contract of Sound for the made project, for use in the proofs of the given statements; conditions stand in each theorem. -/
import Derived.Test.YtkjdkbmfaamhaaaGreatVH
import Derived.Test.YtkjdkbmfaamhaaaGreatVG
set_option linter.unusedSimpArgs false
set_option linter.unusedVariables false
set_option linter.unusedSectionVars false
set_option linter.unnecessarySimpa false
namespace Go.Proofs.YtkjdkbmfaamhaaaGreat
open Go.RowKit
set_option maxRecDepth 4000
theorem semS_part {P:Program} {ops:List Oper} {Q:Exit→St→Prop} {l:List Oper} {σ : St} (n:Nat) (h:steps P ops (l.take n) (semS P ops Q (l.drop n)) σ):semS P ops Q l σ := by
 have:=semS_app (l2:=l.drop n) (l.take n) σ h
 rwa [List.take_append_drop] at this
theorem impR_refl:∀ (xs:List (List T)),ImpR xs xs
 | []=>trivial
 | x::xs=>by
  have h1:∀ l:List T,ImpL l l:=fun l=>by
   induction l with
   | nil=>exact trivial
   | cons a l ih=>exact ⟨imp_refl,ih⟩
  exact ⟨h1 x,impR_refl xs⟩
theorem cProj1 (r:RatR) (c:ClipR) {d1 d2:List T}:CPure Tryz.prog 31 [vrat r, .t (.list 1 d1 [[.list 22 d2 [ClipR.c c]]])] (vproj (prjG r r r 1 [[c]])) :=
 cpure_as (.cons as_refl (.cons (as_imp (imp_list (by exact ⟨⟨imp_list (impR_refl _),trivial⟩,trivial⟩))) .nil)) (cProject27 r [[c]])
structure AudS (A:List AudioR):Prop where
 ha:A.length≤100
 hn:(A.map AudioR.name).Nodup
 hp:∀ a∈A,a.chs.length≤4 ∧ ∀ p∈a.chs,p.length=(a.chs.getD 0 []).length∧p.length≤1048576
theorem two_aud {A:List AudioR} {p q u v:List Int} (h:TwoA A p q u v):AudS A:=by
 have h1:=h.n
 have h2:=h.nq
 have h3:=h.nu
 have h4:=h.nv
 rw [h.eq]
 refine ⟨by simp,two_names,fun a ha=>?_⟩
 simp only [List.mem_cons,List.not_mem_nil,or_false] at ha
 rcases ha with rfl | rfl
 ·refine ⟨by simp,fun x hx=>?_⟩
  simp only [List.mem_cons,List.not_mem_nil,or_false] at hx
  rcases hx with rfl | rfl
  ·exact ⟨rfl,h1⟩
  ·exact ⟨h2,by omega⟩
 ·refine ⟨by simp,fun x hx=>?_⟩
  simp only [List.mem_cons,List.not_mem_nil,or_false] at hx
  rcases hx with rfl | rfl
  ·exact ⟨rfl,by omega⟩
  ·refine ⟨?_,by omega⟩
   show _=u.length
   omega
theorem soundOk_prj {ra rb r:RatR} {m:Nat} {ts:List (List ClipR)} {A:List AudioR} {from0:Int} {n:Nat} (hra:RateS ra) (hrb:RateS rb) (hr:RateS r) (hm:m≤4) (h8:ts.length≤8) (ht:∀ t∈ts,TrkQ m t) (hA:AudS A) (n1:n≤1000) (f0 : -68719476736≤from0) (f1:from0+n≤68719476736)
  (hc:∀ t∈ts, ∀ x∈t,x.kind≠0→ClipT (prjR ra rb) (auM A) (sqM nmS) (prjE ra rb A) m x):SoundOk [prjM nmA ra,prjM nmB rb] (prjQ r m ts) A (prjE ra rb A) m from0 n :=
 ⟨prj_fit hra.fit hrb.fit hr.fit hm ht,layered_valid (prj_lay (rateOk_s hra) (rateOk_s hrb) (rateOk_s hr) hm h8 ht),by simp,h8,fun t h=>(ht t h).ok,hA.ha,hA.hn,hA.hp,rfl,hr,n1,f0,f1,fun i _=>cmpOk_of hr h8 (fun t h=>(ht t h).ok) hc _⟩
def sndV (E:SndE) (ts:List (List ClipR)) (r:RatR) (from0:Int) (n:Nat) (c:Nat):List Int:=sndL (fun i=>smpV E ts r (from0+i) c) n
theorem cSnd1 {ra rb r:RatR} {ts:List (List ClipR)} {A:List AudioR} {from0:Int} {n:Nat} (hra:RateS ra) (hrb:RateS rb) (hr:RateS r) (h8:ts.length≤8) (ht:∀ t∈ts,TrkQ 1 t) (hA:AudS A) (n1:n≤1000) (f0 : -68719476736≤from0) (f1:from0+n≤68719476736)
  (hc:∀ t∈ts, ∀ x∈t,x.kind≠0→ClipT (prjR ra rb) (auM A) (sqM nmS) (prjE ra rb A) 1 x) :
  CPure Tryz.prog 10 [vproj (prjG ra rb r 1 ts),vstr nmS,vint from0,vint n, .t (taudios A)] (.tup [.t (tchs [sndV (prjE ra rb A) ts r from0 n 0]),vint 0]):=by
 have h:=cSound1 (soundOk_prj hra hrb hr (m:=1) (by decide) h8 ht hA n1 f0 f1 hc)
 have e:(fun i:Nat=>outV (prjE ra rb A) 1 (prjQ r (1:Nat) ts).sound (prjQ r (1:Nat) ts).rate (from0+i) 0)=fun i:Nat=>smpV (prjE ra rb A) ts r (from0+i) 0:=by
  funext i
  unfold outV
  rw [if_pos (by decide)]
  rfl
 rw [e] at h
 exact h
theorem cutC_trk {nm:ByteArray} {at0 sp:RatR} {len gain ch:Int} (hn:nm=nmA∨nm=nmB) (hv:vClip (cutC nm at0 sp len gain ch)=true) (hf:(cutC nm at0 sp len gain ch).fit):TrkQ 1 [cutC nm at0 sp len gain ch]:=by
 have hl:=vClip_len hv
 refine ⟨?_,fun c hc=>?_⟩
 ·unfold vTrack
  have l1:(cutC nm at0 sp len gain ch).len=len:=rfl
  rw [l1] at hl
  have ht:totL [cutC nm at0 sp len gain ch]=len:=by simp only [totL,l1];omega
  rw [ht,decide_eq_true (show [cutC nm at0 sp len gain ch].length≤64 by simp),decide_eq_true (show len≤2147483647 by omega)]
  simp [hv]
 ·simp only [List.mem_cons,List.not_mem_nil,or_false] at hc
  subst hc
  refine ⟨hf,rfl,fun x hx=>?_⟩
  rcases hx with rfl | rfl
  ·exact ⟨(by decide:(1:Int)≠2),fun _=>hn⟩
  ·exact ⟨(by decide:(0:Int)≠2),fun h=>absurd h (by decide : ¬ (0:Int)=1)⟩
theorem sndL_i16 {f:Nat→Int} {n:Nat} (h:∀ i, -32768≤f i∧f i≤32767):I16s (sndL f n):=fun z hz=>by
 unfold sndL at hz
 obtain ⟨k,_,rfl⟩:=List.mem_map.1 hz
 exact h k
theorem snd_mod (x:Int) : -32768≤x.tmod 20000∧x.tmod 20000≤32767:=by
 have:=tmod_abs x (n:=20000) (by decide)
 omega
open Go.RowKit
set_option maxRecDepth 4000
structure OneA (A:List AudioR) (p:List Int):Prop where
 eq:A = [⟨nmA,[p]⟩]
 ip:I16s p
 n:p.length≤1048576
theorem one_a {A:List AudioR} {p:List Int} (h:OneA A p):lookT (.string nmA) (auM A)=some (.agg [vstr nmA, .t (tchs [p])]) ∧ ∀ ra rb,(prjE ra rb A).chs nmA = [p]:=by
 rw [h.eq]
 exact ⟨by rw [look_au];rfl,fun _ _=>rfl⟩
theorem one_aud {A:List AudioR} {p:List Int} (h:OneA A p):AudS A:=by
 have h1:=h.n
 rw [h.eq]
 refine ⟨by simp,by simp,fun a ha=>?_⟩
 simp only [List.mem_cons,List.not_mem_nil,or_false] at ha
 subst ha
 refine ⟨by simp,fun x hx=>?_⟩
 simp only [List.mem_cons,List.not_mem_nil,or_false] at hx
 subst hx
 exact ⟨rfl,h1⟩
theorem srcF_1 {A:List AudioR} {p:List Int} (h:OneA A p) {ra rb:RatR} (hr:RateS ra) {s:SourceR} (hk:s.kind=1) (hn:s.name=nmA) (vp:vRat s.pos=true) (vs:vRat s.speed=true) (pb:QB (toQ s.pos) 256 1024) (sb:QB (toQ s.speed) 4096 2048):SrcF (prjR ra rb) (auM A) s ra [p]:=by
 refine ⟨hk,kinds_rt _,by rw [hn];exact look_a ra rb,kinds_au _,by rw [hn];exact (one_a h).1, .inl rfl,fun x hx=>?_,fun x hx=>?_,fun x hx=>?_,hr,vp,vs,pb,sb⟩
 all_goals
  simp only [List.mem_cons,List.not_mem_nil,or_false] at hx
  subst hx
 ·exact h.ip
 ·exact h.n
 ·rfl
theorem cutT_1 {A:List AudioR} {p:List Int} (h:OneA A p) {ra rb:RatR} (hr:RateS ra) {Q:MapT} {at0 sp:RatR} {len gain ch:Int} (hl:len≤63) (hg : 0≤gain∧gain≤65536) (vp:vRat at0=true) (vs:vRat sp=true) (pb:QB (toQ at0) 256 1024) (sb:QB (toQ sp) 4096 2048):ClipT (prjR ra rb) (auM A) Q (prjE ra rb A) 1 (cutC nmA at0 sp len gain ch) :=
 clipT_cut1 rfl rfl hl (srcF_1 h hr rfl rfl vp vs pb sb) ((one_a h).2 ra rb) (rate_a ra rb A) hg
def pA:List Int:=((List.replicate 4000 0).set 3840 77).set 1 6
def audA:List AudioR:=[⟨nmA,[pA]⟩]
theorem pA_len:pA.length=4000:=by unfold pA;rw [List.length_set,List.length_set,List.length_replicate]
theorem pA_at (i:Nat) (h:i<4000):pA.getD i 0=if i=1 then 6 else if i=3840 then 77 else 0:=by
 unfold pA
 rw [List.getD_eq_getElem?_getD,List.getElem?_eq_getElem (by rw [List.length_set,List.length_set,List.length_replicate];omega),Option.getD_some,List.getElem_set,List.getElem_set,List.getElem_replicate]
 by_cases h1:i=1
 ·rw [if_pos h1.symm,if_pos h1]
 ·rw [if_neg (fun e=>h1 e.symm),if_neg h1]
  by_cases h2:i=3840
  ·rw [if_pos h2.symm,if_pos h2]
  ·rw [if_neg (fun e=>h2 e.symm),if_neg h2]
theorem audA_one:OneA audA pA:=by
 refine ⟨rfl,fun z hz=>?_,by rw [pA_len];decide⟩
 obtain ⟨i,hi,rfl⟩:=List.getElem_of_mem hz
 rw [pA_len] at hi
 have:=pA_at i hi
 rw [List.getD_eq_getElem?_getD,List.getElem?_eq_getElem (by rw [pA_len];omega),Option.getD_some] at this
 rw [this]
 split
 ·decide
 ·split<;>decide
theorem snd_none (E:SndE) (r:RatR) (n:Nat):sndV E [] r 0 n 0=List.replicate n 0:=by
 unfold sndV sndL smpV
 refine List.ext_getElem (by simp) fun i h1 h2=>?_
 simp
 rfl
theorem rat25 (A:List AudioR):(prjE ⟨25,1⟩ ⟨25,1⟩ A).rate nmA=25:=by
 rw [rate_a]
 rfl
theorem own25 {s:Int} {b:Int} (h0 : 0≤s) (h1:(2*s+1)*25≤b*96000) : 0≤ownF ⟨25,1⟩ s∧ownF ⟨25,1⟩ s<b:=own_range (by decide) (by decide) h0 (by simpa using h1)
theorem aw2:sndV (prjE ⟨25,1⟩ ⟨25,1⟩ audA) [[cutC nmA ⟨2,1⟩ ⟨1,1⟩ 5 4096 0]] ⟨25,1⟩ 0 1 0 = [77]:=by
 have hv:vClip (cutC nmA ⟨2,1⟩ ⟨1,1⟩ 5 4096 0)=true:=by kernel_rfl
 have hp:((prjE ⟨25,1⟩ ⟨25,1⟩ audA).chs nmA)[0]? = some pA:=by rw [(one_a audA_one).2];rfl
 obtain ⟨o0,o1⟩:=own25 (s:=0) (b:=5) (by decide) (by decide)
 have h:=snd_cut (c:=0) hv hp audA_one.ip o0 o1
 unfold sndV sndL
 simp only [List.range_one,List.map_cons,List.map_nil]
 rw [show ((0:Int)+((0:Nat):Int))=0 from rfl]
 rw [show ((0:Nat):Int)=0 from rfl] at h
 rw [h,rat25]
 have e:(toQ ⟨2,1⟩+timeQ ⟨25,1⟩ 0*toQ ⟨1,1⟩)*(48000 / 25)=((3840:Int):Rat):=by
  rw [toQ_int,toQ_int]
  unfold timeQ
  have:((2:Int):Rat)=2:=rfl
  have:((25:Int):Rat)=25:=rfl
  have:((0:Int):Rat)=0:=rfl
  have:((1:Int):Rat)=1:=rfl
  have:((3840:Int):Rat)=3840:=rfl
  grind
 rw [e,lerp_int]
 unfold pcmAt
 rw [if_pos (by decide)]
 have:=pA_at 3840 (by decide)
 rw [if_neg (by decide),if_pos rfl] at this
 rw [show (3840:Int).toNat=3840 from rfl,this]
theorem aw3:sndV (prjE ⟨25,1⟩ ⟨25,1⟩ audA) [[cutC nmA ⟨0,1⟩ ⟨1,2⟩ 5 4096 0]] ⟨25,1⟩ 0 2 0 = [0,3]:=by
 have hv:vClip (cutC nmA ⟨0,1⟩ ⟨1,2⟩ 5 4096 0)=true:=by kernel_rfl
 have hp:((prjE ⟨25,1⟩ ⟨25,1⟩ audA).chs nmA)[0]? = some pA:=by rw [(one_a audA_one).2];rfl
 have key:∀ s:Int,0≤s→s≤1→smpV (prjE ⟨25,1⟩ ⟨25,1⟩ audA) [[cutC nmA ⟨0,1⟩ ⟨1,2⟩ 5 4096 0]] ⟨25,1⟩ s 0=lerpV pA ((s:Rat)*(1 / 2)):=fun s h0 h1=>by
  obtain ⟨o0,o1⟩:=own25 (s:=s) (b:=5) h0 (by omega)
  have h:=snd_cut (c:=0) hv hp audA_one.ip o0 o1
  rw [show ((0:Nat):Int)=0 from rfl] at h
  rw [h,rat25]
  congr 1
  have e:toQ ⟨1,2⟩=1 / 2:=by
   unfold toQ
   rw [Rat.mkRat_eq_div]
   rfl
  rw [toQ_int,e]
  unfold timeQ
  have:((25:Int):Rat)=25:=rfl
  have:((0:Int):Rat)=0:=rfl
  have:((1:Int):Rat)=1:=rfl
  grind
 have k0:smpV (prjE ⟨25,1⟩ ⟨25,1⟩ audA) [[cutC nmA ⟨0,1⟩ ⟨1,2⟩ 5 4096 0]] ⟨25,1⟩ 0 0=0:=by
  rw [key 0 (by decide) (by decide)]
  have e:((0:Int):Rat)*(1 / 2)=((0:Int):Rat):=by grind
  rw [e,lerp_int]
  unfold pcmAt
  rw [if_pos (by decide)]
  exact pA_at 0 (by decide)
 have k1:smpV (prjE ⟨25,1⟩ ⟨25,1⟩ audA) [[cutC nmA ⟨0,1⟩ ⟨1,2⟩ 5 4096 0]] ⟨25,1⟩ 1 0=3:=by
  rw [key 1 (by decide) (by decide)]
  have e:((1:Int):Rat)*(1 / 2)=(1 / 2:Rat):=by
   have:((1:Int):Rat)=1:=rfl
   grind
  rw [e]
  have f:(1 / 2:Rat).floor=0:=floor_of (by decide +kernel) (by decide +kernel)
  unfold lerpV
  rw [f]
  have p0:pcmAt pA 0=0:=by unfold pcmAt;rw [if_pos (by decide)];exact pA_at 0 (by decide)
  have p1:pcmAt pA (0+1)=6:=by unfold pcmAt;rw [if_pos (by decide)];exact pA_at 1 (by decide)
  rw [p0,p1]
  unfold near
  have g:(((6 - 0:Int):Rat)*((1 / 2:Rat) - ((0:Int):Rat))+1 / 2).floor=3:=floor_of (by decide +kernel) (by decide +kernel)
  rw [g]
  rfl
 unfold sndV sndL
 simp only [List.range_succ,List.range_zero,List.nil_append,List.map_append,List.map_cons,List.map_nil,List.cons_append]
 rw [show ((0:Int)+((0:Nat):Int))=0 from rfl,show ((0:Int)+((1:Nat):Int))=1 from rfl,k0,k1]
theorem aud_nil:AudS []:=⟨by simp,by simp,fun a ha=>by cases ha⟩
theorem cP0:CPure Tryz.prog 31 [vrat ⟨25,1⟩, .t (.lit (.slice none 0 0))] (vproj (prjG ⟨25,1⟩ ⟨25,1⟩ ⟨25,1⟩ 1 [])) :=
 cpure_as (.cons as_refl (.cons as_nilL .nil)) (cProject27 ⟨25,1⟩ [])
theorem cS0:CPure Tryz.prog 10 [vproj (prjG ⟨25,1⟩ ⟨25,1⟩ ⟨25,1⟩ 1 []),vstr nmS,vint 0,vint 3, .t (.lit (.slice none 0 0))] (.tup [.t (tchs [[0,0,0]]),vint 0]):=by
 have h:=cSnd1 (ra:=⟨25,1⟩) (rb:=⟨25,1⟩) (r:=⟨25,1⟩) (ts:=[]) (A:=[]) (from0:=0) (n:=3) rateS25 rateS25 rateS25 (by simp) (fun t ht=>by cases ht) aud_nil (by decide) (by decide) (by decide) (fun t ht=>by cases ht)
 rw [snd_none] at h
 exact cpure_as (.cons as_refl (.cons as_refl (.cons as_refl (.cons as_refl (.cons as_nilL .nil))))) h
theorem i64s {n:Int} (h : -1000000≤n∧n≤1000000):I64 n:=⟨by omega,by omega⟩
theorem cutC_fit {nm:ByteArray} {at0 sp:RatR} {len gain ch:Int} (fa:at0.fit) (fs:sp.fit) (hl : -1000000≤len∧len≤1000000) (hg : -1000000≤gain∧gain≤1000000) (hc : -1000000≤ch∧ch≤1000000):(cutC nm at0 sp len gain ch).fit:=by
 have i0:I64 0:=⟨by decide,by decide⟩
 have r0:(⟨0,0⟩:RatR).fit:=⟨i0,i0⟩
 have i1:I64 1:=⟨by decide,by decide⟩
 exact ⟨i64s hl,i1,⟨i1,fa,fs⟩,⟨i0,r0,r0⟩,i0,i0,i0,i64s hg⟩
theorem cS1 (at0 sp:RatR) (len:Int) (hv:vClip (cutC nmA at0 sp len 4096 0)=true) (hf:(cutC nmA at0 sp len 4096 0).fit) (hl:len≤63) (vp:vRat at0=true) (vs:vRat sp=true) (pb:QB (toQ at0) 256 1024) (sb:QB (toQ sp) 4096 2048) (n:Nat) (hn:n≤1000) {A:List AudioR} {p:List Int} (h:OneA A p) :
  CPure Tryz.prog 10 [vproj (prjG ⟨25,1⟩ ⟨25,1⟩ ⟨25,1⟩ 1 [[cutC nmA at0 sp len 4096 0]]),vstr nmS,vint 0,vint n, .t (taudios A)] (.tup [.t (tchs [sndV (prjE ⟨25,1⟩ ⟨25,1⟩ A) [[cutC nmA at0 sp len 4096 0]] ⟨25,1⟩ 0 n 0]),vint 0]):=by
 refine cSnd1 rateS25 rateS25 rateS25 (by simp) (fun t ht=>?_) (one_aud h) hn (by decide) (by omega) (fun t ht x hx _=>?_)
 ·simp only [List.mem_cons,List.not_mem_nil,or_false] at ht
  subst ht
  exact cutC_trk (.inl rfl) hv hf
 ·simp only [List.mem_cons,List.not_mem_nil,or_false] at ht
  subst ht
  simp only [List.mem_cons,List.not_mem_nil,or_false] at hx
  subst hx
  exact cutT_1 h rateS25 hl (by decide) vp vs pb sb
set_option maxHeartbeats 4000000 in
theorem cAwake27:CPure Tryz.prog 13 [] (vbool true):=by
 have nvA:∀ (d:List T) (x:List V) (l:List (List V)),nthV d (x::l) 0=x:=fun _ _ _=>rfl
 refine cpure_of Tryz.xen13 Tryz.func13 rfl Tryz.ntmps13 (by rw [Tryz.results13]) ?_
 refine awp_seq (aw_ok _ ?_)
 simp only [go_sem,simprocAttr,decide_true,decide_false]
 refine awp_seq (aw_ok _ ?_)
 simp only [go_sem,Nat.reduceGT,Nat.reducePow,Nat.reduceLT,↓reduceIte,Nat.reduceAdd,Nat.reduceMul,Nat.reduceSub,Nat.reduceMod,Nat.reduceLeDiff,Nat.reduceEqDiff,Nat.reduceBEq,reduceCtorEq]
 obtain ⟨R,hR⟩:∃ R,R=List.replicate (Int.toNat 4000) [T.lit (.int .i16 0)]:=⟨_,rfl⟩
 have hRl:R.length=4000:=by rw [hR,List.length_replicate];rfl
 rw [← hR]
 refine ⟨⟨by decide,by decide,by decide⟩,?_⟩
 have e1:nth [T.lit (.int .i16 0)] R 3840 = [T.lit (.int .i16 0)]:=by
  unfold nth
  rw [hR,List.getElem?_replicate,if_pos (by decide)]
  rfl
 have e2:nthV [T.lit (.int .i16 0)] (tRows (R.set 3840 [T.lit (.int .i16 77)])) 1 = [V.t (T.lit (.int .i16 0))]:=by
  unfold nthV tRows
  rw [List.getElem?_map,List.getElem?_set,if_neg (by decide),hR,List.getElem?_replicate,if_pos (by decide)]
  rfl
 have e3:(R.set 3840 [T.lit (.int .i16 77)]).set 1 [T.lit (.int .i16 6)]=pA.map c16:=by
  unfold pA
  rw [List.map_set,List.map_set,List.map_replicate,hR]
  rfl
 have f01:(⟨0,1⟩:RatR).fit:=⟨⟨by decide,by decide⟩,⟨by decide,by decide⟩⟩
 have f11:(⟨1,1⟩:RatR).fit:=⟨⟨by decide,by decide⟩,⟨by decide,by decide⟩⟩
 have f21:(⟨2,1⟩:RatR).fit:=⟨⟨by decide,by decide⟩,⟨by decide,by decide⟩⟩
 have f12:(⟨1,2⟩:RatR).fit:=⟨⟨by decide,by decide⟩,⟨by decide,by decide⟩⟩
 have s1:=cS1 ⟨2,1⟩ ⟨1,1⟩ 5 (by kernel_rfl) (cutC_fit f21 f11 (by decide) (by decide) (by decide)) (by decide) (by kernel_rfl) (by kernel_rfl) ⟨of_decide_eq_true (by kernel_rfl),of_decide_eq_true (by kernel_rfl)⟩ ⟨of_decide_eq_true (by kernel_rfl),of_decide_eq_true (by kernel_rfl)⟩ 1 (by decide) audA_one
 rw [aw2] at s1
 have s2:=cS1 ⟨0,1⟩ ⟨1,2⟩ 5 (by kernel_rfl) (cutC_fit f01 f12 (by decide) (by decide) (by decide)) (by decide) (by kernel_rfl) (by kernel_rfl) ⟨of_decide_eq_true (by kernel_rfl),of_decide_eq_true (by kernel_rfl)⟩ ⟨of_decide_eq_true (by kernel_rfl),of_decide_eq_true (by kernel_rfl)⟩ 2 (by decide) audA_one
 rw [aw3] at s2
 refine awp_seq (aw_ok _ ?_)
 simp only [go_sem,simprocAttr,decide_true,decide_false]
 refine drawC_of 16 .done rfl (by kernel_rfl) (by kernel_rfl) (by decide) ?_
 simp only [go_sem,simprocAttr,decide_true,decide_false,nvA,hRl,e1,tRows_set1,e2,e3,List.length_set,List.drop_nil]
 refine ⟨by kernel_rfl,?_⟩
 refine awp_seq (aw_ok _ ?_)
 simp only [go_sem,simprocAttr,decide_true,decide_false]
 refine ⟨_,cWhole 25,?_⟩
 simp only [go_sem,simprocAttr,decide_true,decide_false]
 refine ⟨_,cP0,?_⟩
 simp only [go_sem,simprocAttr,decide_true,decide_false]
 refine ⟨_,cS0,?_⟩
 simp only [go_sem,simprocAttr,decide_true,decide_false]
 refine awp_seq (aw_ok _ ?_)
 simp only [go_sem,simprocAttr,decide_true,decide_false]
 refine ⟨_,cWhole 25,?_⟩
 simp only [go_sem,simprocAttr,decide_true,decide_false]
 refine ⟨_,cWhole 2,?_⟩
 simp only [go_sem,simprocAttr,decide_true,decide_false]
 refine ⟨_,cWhole 1,?_⟩
 simp only [go_sem,simprocAttr,decide_true,decide_false]
 refine ⟨_,cCut27 ⟨2,1⟩ ⟨1,1⟩ 5,?_⟩
 simp only [go_sem,simprocAttr,decide_true,decide_false]
 refine lcall_give ?_
 simp only [go_sem,simprocAttr,decide_true,decide_false]
 refine ⟨_,cProj1 ⟨25,1⟩ (cutC nmA ⟨2,1⟩ ⟨1,1⟩ 5 4096 0),?_⟩
 simp only [go_sem,simprocAttr,decide_true,decide_false]
 refine lcall_give ?_
 simp only [go_sem,simprocAttr,decide_true,decide_false]
 refine ⟨_,s1,?_⟩
 simp only [go_sem,simprocAttr,decide_true,decide_false]
 refine awp_seq (aw_ok _ ?_)
 simp only [go_sem,simprocAttr,decide_true,decide_false]
 refine ⟨_,cWhole 25,?_⟩
 simp only [go_sem,simprocAttr,decide_true,decide_false]
 refine ⟨_,cWhole 0,?_⟩
 simp only [go_sem,simprocAttr,decide_true,decide_false]
 refine ⟨_,cCut27 ⟨0,1⟩ ⟨1,2⟩ 5,?_⟩
 simp only [go_sem,simprocAttr,decide_true,decide_false]
 refine lcall_give ?_
 simp only [go_sem,simprocAttr,decide_true,decide_false]
 refine ⟨_,cProj1 ⟨25,1⟩ (cutC nmA ⟨0,1⟩ ⟨1,2⟩ 5 4096 0),?_⟩
 simp only [go_sem,simprocAttr,decide_true,decide_false]
 refine lcall_give ?_
 simp only [go_sem,simprocAttr,decide_true,decide_false]
 refine ⟨_,s2,?_⟩
 simp only [go_sem,simprocAttr,decide_true,decide_false]
 refine awp_seq (aw_ok _ ?_)
 simp only [go_sem,simprocAttr,decide_true,decide_false]
 have z3:=cSame27 [[0,0,0]] (by simp) (by simp)
 have z1:=cSame27 [[77]] (by simp) (by simp)
 have z2:=cSame27 [[0,3]] (by simp) (by simp)
 refine awp_seq (awp_region_part 2 ?_)
 simp only [go_sem,simprocAttr,decide_true,decide_false,List.take_succ_cons,List.take_zero,List.drop_succ_cons,List.drop_zero,List.take,List.drop]
 refine semS_true rfl (by simp only [go_sem,simprocAttr,decide_true,decide_false]) ?_
 simp only [go_sem,simprocAttr,decide_true,decide_false]
 refine semS_true rfl (by simp only [go_sem,simprocAttr,decide_true,decide_false]) ?_
 simp only [go_sem,simprocAttr,decide_true,decide_false]
 refine semS_true rfl (by simp only [go_sem,simprocAttr,decide_true,decide_false]) ?_
 simp only [go_sem,simprocAttr,decide_true,decide_false]
 refine semS_true rfl (by simp only [go_sem,simprocAttr,decide_true,decide_false]) ?_
 simp only [go_sem,simprocAttr,decide_true,decide_false]
 refine lcall_lend ?_
 simp only [go_sem,simprocAttr,decide_true,decide_false]
 refine ⟨_,z3,rfl,?_⟩
 try simp only [go_sem,simprocAttr,decide_true,decide_false]
 refine semS_part 2 ?_
 simp only [go_sem,simprocAttr,decide_true,decide_false,List.take_succ_cons,List.take_zero,List.drop_succ_cons,List.drop_zero,List.take,List.drop]
 refine semS_true rfl (by simp only [go_sem,simprocAttr,decide_true,decide_false]) ?_
 try simp only [go_sem,simprocAttr,decide_true,decide_false]
 refine semS_true rfl (by simp only [go_sem,simprocAttr,decide_true,decide_false]) ?_
 try simp only [go_sem,simprocAttr,decide_true,decide_false]
 refine semS_true rfl (by simp only [go_sem,simprocAttr,decide_true,decide_false]) ?_
 try simp only [go_sem,simprocAttr,decide_true,decide_false]
 refine semS_true rfl (by simp only [go_sem,simprocAttr,decide_true,decide_false]) ?_
 try simp only [go_sem,simprocAttr,decide_true,decide_false]
 refine lcall_lend ?_
 try simp only [go_sem,simprocAttr,decide_true,decide_false]
 refine ⟨_,z1,rfl,?_⟩
 try simp only [go_sem,simprocAttr,decide_true,decide_false]
 refine semS_part 2 ?_
 simp only [go_sem,simprocAttr,decide_true,decide_false,List.take_succ_cons,List.take_zero,List.drop_succ_cons,List.drop_zero,List.take,List.drop]
 refine semS_true rfl (by simp only [go_sem,simprocAttr,decide_true,decide_false]) ?_
 try simp only [go_sem,simprocAttr,decide_true,decide_false]
 refine semS_true rfl (by simp only [go_sem,simprocAttr,decide_true,decide_false]) ?_
 try simp only [go_sem,simprocAttr,decide_true,decide_false]
 refine semS_true rfl (by simp only [go_sem,simprocAttr,decide_true,decide_false]) ?_
 try simp only [go_sem,simprocAttr,decide_true,decide_false]
 refine semS_true rfl (by simp only [go_sem,simprocAttr,decide_true,decide_false]) ?_
 try simp only [go_sem,simprocAttr,decide_true,decide_false]
 refine lcall_lend ?_
 try simp only [go_sem,simprocAttr,decide_true,decide_false]
 refine ⟨_,z2,rfl,?_⟩
 try simp only [go_sem,simprocAttr,decide_true,decide_false]
 refine semS_steps ?_
 try simp only [go_sem,simprocAttr,decide_true,decide_false]
 refine aw_ok _ ?_
 simp only [go_sem,simprocAttr,decide_true,decide_false]
end Go.Proofs.YtkjdkbmfaamhaaaGreat
