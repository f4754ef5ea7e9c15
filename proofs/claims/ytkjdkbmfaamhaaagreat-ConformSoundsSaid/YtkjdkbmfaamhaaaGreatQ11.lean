/- Proved here: The mixer of any project. -/
import Derived.Test.YtkjdkbmfaamhaaaGreatQ10
set_option linter.unusedSimpArgs false
set_option linter.unusedVariables false
set_option linter.unnecessarySimpa false
namespace Go.Proofs.YtkjdkbmfaamhaaaGreat
open Go.RowKit
set_option maxRecDepth 4000
theorem aAt{A:List AudioR}{k:Nat}(h:k<A.length)(n:ByteArray):rN (A.take (k+1)) n=(rN (A.take k) n).or (if(A.getD k default).name=n then some (A.getD k default)else none):=by
 unfold rN;rw[dN h,List.find?_append];congr 1
 by_cases e:(A.getD k default).name=n
 .rw[if_pos e,List.find?_cons_of_pos];exact(bq _ _).2 e
 .rw[if_neg e,List.find?_cons_of_neg]
  .rfl
  .intro e2;exact e ((bq _ _).1 e2)
set_option maxHeartbeats 4000000 in
theorem aE4{σ:St}{d:Option Tmp}{K:St->Prop}{p:ProjR}(hp:PrjV p){A:List AudioR}(hA:AudF A)
  (hK:∀N H n,MixH p A N n H->(∀j,j<σ.nx->OffN p N j/\H.look j=σ.h.look j)->σ.nx<=n->K (({ σ with h:=H,nx:=n }:St).put d (.own N.m))) :
  ICall Tryz.prog σ d 21 [jY p,.t (uJ A)] K:=by
 refine Fu Tryz.X21 Tryz.func21 rfl Tryz.ntmps21 (by rw[Tryz.results21]) ?_;have hK2:∀N H n,MixH p A N n H->(∀j,j<σ.nx->OffN p N j/\H.look j=σ.h.look j)->σ.nx<=n ->∀fr df,(λ(x:V) (σ':St)=>K (({ σ with h:= σ'.h,nx:= σ'.nx }:St).put d x)) (.own N.m) { fr:=fr,h:=H,nx:=n,df:=df }:=λN H n q1 q2 q3 fr df=>hK N H n q1 q2 q3
 revert hK2;generalize(λ(x:V) (σ':St)=>K (({ σ with h:= σ'.h,nx:= σ'.nx }:St).put d x))=K2;obtain⟨fr0,H0,n0,df0⟩:= σ;intro hK2;have hK3:∀N H n,MixH p A N n H->(∀j,j<n0->OffN p N j/\H.look j=H0.look j)->n0<=n ->∀fr df,K2 (.own N.m) { fr:=fr,h:=H,nx:=n,df:=df }:=hK2;clear hK2 hK;show AWP Tryz.prog n0 _ _ (uB Tryz.prog _ _ H0 n0)
 refine aH (aB _ ?_);simp only[go_sem,seval];refine aH (aB _ ?_);simp only[go_sem,seval,Nat.add_assoc];refine aH (aB _ ?_);simp only[go_sem,seval,Nat.left_eq_add];have kk:Heap.look ((n0+4,.box [.own (n0+1),.own (n0+2),.own (n0+3)])::(n0+3,.map [])::(n0+2,.map [])::(n0+1,.map [])::(n0,.box [.t (hZ p.media),.t (nP p.seqs)])::H0) n0=some (.box [.t (hZ p.media),.t (nP p.seqs)])/\Heap.look ((n0+4,.box [.own (n0+1),.own (n0+2),.own (n0+3)])::(n0+3,.map [])::(n0+2,.map [])::(n0+1,.map [])::(n0,.box [.t (hZ p.media),.t (nP p.seqs)])::H0) (n0+1)=some (.map [])/\Heap.look ((n0+4,.box [.own (n0+1),.own (n0+2),.own (n0+3)])::(n0+3,.map [])::(n0+2,.map [])::(n0+1,.map [])::(n0,.box [.t (hZ p.media),.t (nP p.seqs)])::H0) (n0+2)=some (.map [])/\Heap.look ((n0+4,.box [.own (n0+1),.own (n0+2),.own (n0+3)])::(n0+3,.map [])::(n0+2,.map [])::(n0+1,.map [])::(n0,.box [.t (hZ p.media),.t (nP p.seqs)])::H0) (n0+3)=some (.map [])/\Heap.look ((n0+4,.box [.own (n0+1),.own (n0+2),.own (n0+3)])::(n0+3,.map [])::(n0+2,.map [])::(n0+1,.map [])::(n0,.box [.t (hZ p.media),.t (nP p.seqs)])::H0) (n0+4)=some (.box [.own (n0+1),.own (n0+2),.own (n0+3)]) /\∀j,j<n0->Heap.look ((n0+4,.box [.own (n0+1),.own (n0+2),.own (n0+3)])::(n0+3,.map [])::(n0+2,.map [])::(n0+1,.map [])::(n0,.box [.t (hZ p.media),.t (nP p.seqs)])::H0) j=H0.look j:=by
  refine⟨?_,?_,?_,?_,?_,λj hj=>?_⟩
  .rw[Heap.look,if_neg (by omega),Heap.look,if_neg (by omega),Heap.look,if_neg (by omega),Heap.look,if_neg (by omega),Heap.look,if_pos rfl]
  .rw[Heap.look,if_neg (by omega),Heap.look,if_neg (by omega),Heap.look,if_neg (by omega),Heap.look,if_pos rfl]
  .rw[Heap.look,if_neg (by omega),Heap.look,if_neg (by omega),Heap.look,if_pos rfl]
  .rw[Heap.look,if_neg (by omega),Heap.look,if_pos rfl]
  .rw[Heap.look,if_pos rfl]
  .rw[Heap.look,if_neg (by omega),Heap.look,if_neg (by omega),Heap.look,if_neg (by omega),Heap.look,if_neg (by omega),Heap.look,if_neg (by omega)]
 generalize((n0+4,Blk.box [V.own (n0+1),V.own (n0+2),V.own (n0+3)])::(n0+3,Blk.map [])::(n0+2,Blk.map [])::(n0+1,Blk.map [])::(n0,Blk.box [V.t (hZ p.media),V.t (nP p.seqs)])::H0:Heap)=H1 at*;obtain⟨k0,k1,k2,k3,k4,kl⟩:=kk;refine aE (λ(x:Nat×Heap×Nat) σ=>(fun τ : St=>{ τ with h:=x.2.1,nx:=x.2.2 }) (bP 25 (aA x.1) (aY [7,22,26,27,28,29,30,31,32,33,34,35,36,37,38] σ)))
  (λx=>(x.1<=p.media.length/\n0+5<=x.2.2)/\(x.2.1.look n0=some (.box [.t (hZ p.media),.t (nP p.seqs)])/\x.2.1.look (n0+1)=some (.map (tEs (rtM (p.media.take x.1))))/\x.2.1.look (n0+2)=some (.map [])/\x.2.1.look (n0+3)=some (.map [])/\x.2.1.look (n0+4)=some (.box [.own (n0+1),.own (n0+2),.own (n0+3)])) /\∀j,j<n0->x.2.1.look j=H0.look j)
  (λx=>p.media.length-x.1) (0,H1,n0+5) ?_ ?_ ?_
 .refine dD ⟨rfl,Nat.le_refl _,rfl,?_⟩;simp only[go_sem,seval]
 .exact⟨⟨Nat.zero_le _,Nat.le_refl _⟩,⟨k0,k1,k2,k3,k4⟩,kl⟩
 rintro⟨k,H,nn⟩ ⟨⟨hk,hnn⟩,⟨g0,g1,g2,g3,g4⟩,hlo⟩;simp only at hk hnn g0 g1 g2 g3 g4 hlo;have e0:∀j,(n0=nn+j)=False:=λj=>eq_false (by omega)
 have e0':(n0=nn)=False:=eq_false (by omega);have e1:(n0+1=nn)=False:=eq_false (by omega);have e2:(n0+2=nn)=False:=eq_false (by omega);have e3:(n0+3=nn)=False:=eq_false (by omega);have e4:(n0+4=nn)=False:=eq_false (by omega);have hml:=hp.ml;refine Gq λhwf=>aB _ ?_
 simp only[go_sem,seval];refine⟨λhlt=>?_,λhge=>?_⟩
 .simp only[bxx]at hlt;have hkl:k<p.media.length:=by omega
  have hwk:IntKind.i64.wrap ((k:Int)+1)=((k+1:Nat):Int):=by rw[bJ (by omega)];omega
  unfold awS;simp only[go_sem,seval];refine⟨⟨by omega,by omega⟩,?_⟩;refine bL [0,1,2,3,4,5,6,7,8] (.step 9 .done) (h:=?_);simp only[go_sem,seval,g1,g4,e1,e4];have hL:∀B r,(H.set (n0+1) B).look r=if r=n0+1 then some B else H.look r:=λB r=>Heap.look_set _ _ _ g1 r
  refine⟨(k+1,_,nn+1),dD ⟨rfl,Nat.le_refl _,rfl,?_⟩,⟨⟨by show k+1<=_;omega,by show n0+5<=nn+1;omega⟩,⟨?_,?_,?_,?_,?_⟩,λj hj=>?_⟩,by show _-(k+1)<_-k;omega⟩
  .simp only[go_sem,seval,hwk]
  .show Heap.look _ n0=_
   rw[Heap.look,if_neg (by omega),hL,if_neg (by omega)];exact g0
  .show Heap.look _ (n0+1)=_
   rw[Heap.look,if_neg (by omega),hL,if_pos rfl];unfold rtM;rw[Dh _ _ hkl];exact congrArg (λx=>some (Blk.map x)) (put_rt _ _ _)
  .show Heap.look _ (n0+2)=_
   rw[Heap.look,if_neg (by omega),hL,if_neg (by omega)];exact g2
  .show Heap.look _ (n0+3)=_
   rw[Heap.look,if_neg (by omega),hL,if_neg (by omega)];exact g3
  .show Heap.look _ (n0+4)=_
   rw[Heap.look,if_neg (by omega),hL,if_neg (by omega)];exact g4
  .show Heap.look _ j=_
   rw[Heap.look,if_neg (by omega),hL,if_neg (by omega)];exact hlo j hj
 .simp only[bxx]at hge;have:k=p.media.length:=by omega
  subst this;rw[List.take_length]at g1;clear e0 e0' e1 e2 e3 e4 hwf;unfold awS;simp only[go_sem,seval];refine aH (aB _ ?_);simp only[go_sem,seval];refine aE (λ(x:Nat×aN7×Heap×Nat) σ=>(fun τ : St=>{ τ with h:=x.2.2.1,nx:=x.2.2.2 }) (bP 41 (aA x.1) (aY [9,10,11,42,43,44,45,46,47,48,49,50,51,52,53,54,55,56,57,58,59,60,61,62,63,64] σ)))
   (λx=>(x.1<=A.length/\n0+5<=x.2.2.2/\yT x.2.1 /\∀n,fV (.string n) x.2.1=(rN (A.take x.1) n).map λa=> .agg [cF a.name,.t (pY a.chs)])/\(x.2.2.1.look n0=some (.box [.t (hZ p.media),.t (nP p.seqs)])/\x.2.2.1.look (n0+1)=some (.map (tEs (rtM p.media)))/\x.2.2.1.look (n0+2)=some (.map (tEs x.2.1))/\x.2.2.1.look (n0+3)=some (.map [])/\x.2.2.1.look (n0+4)=some (.box [.own (n0+1),.own (n0+2),.own (n0+3)])) /\∀j,j<n0->x.2.2.1.look j=H0.look j)
   (λx=>A.length-x.1) (0,[],H,nn) ?_ ?_ ?_
  .refine dD ⟨rfl,Nat.le_refl _,rfl,?_⟩;simp only[go_sem,seval]
  .exact⟨⟨Nat.zero_le _,hnn,λe he=>absurd he (by simp),λn=>rfl⟩,⟨g0,g1,g2,g3,g4⟩,hlo⟩
  clear g0 g1 g2 g3 g4 hlo hnn;rintro⟨k,U,H,nn⟩ ⟨⟨hk,hnn,hU,hUl⟩,⟨g0,g1,g2,g3,g4⟩,hlo⟩;simp only at hk hnn hU hUl g0 g1 g2 g3 g4 hlo;have e4:(n0+4=nn)=False:=eq_false (by omega);have f4:∀j,(n0+4=nn+j)=False:=λj=>eq_false (by omega)
  have e2:(n0+2=nn)=False:=eq_false (by omega);have f2:∀j,(n0+2=nn+j)=False:=λj=>eq_false (by omega)
  have e0:(n0=nn)=False:=eq_false (by omega);have f0:∀j,(n0=nn+j)=False:=λj=>eq_false (by omega)
  have hAl:=hA.len;have hUk:=kS hU;refine Gq λhwf=>aB _ ?_
  simp only[go_sem,seval];refine⟨λhlt=>?_,λhge=>?_⟩
  .simp only[bxx]at hlt;have hkl:k<A.length:=by omega
   have hwk:IntKind.i64.wrap ((k:Int)+1)=((k+1:Nat):Int):=by rw[bJ (by omega)];omega
   have hUn:=hUl (A.getD k default).name;unfold awS;simp only[go_sem,seval,Gs hkl];refine⟨⟨by omega,by omega⟩,?_⟩;refine aQ 13 .done (h:=?_);cases hsn:rN (A.take k) (A.getD k default).name with
   |none=>
    rw[hsn]at hUn;simp only[go_sem,seval,hUn,g2,g4,e2,e4,Nat.add_assoc];refine⟨hUk,jL ?_,?_⟩
    .simp only[gB,jG,cC (show n0+2<nn+1 by omega),cC (show n0+4<nn+1 by omega),cC (show nn<nn+1 by omega),rR,Nat.reduceLeDiff,Nat.reduceSub,Nat.reduceAdd];show vJ _ _ _=true
     kernel_rfl
    refine bL [0,1,2,3,4,5,6] (.step 7 .done) (h:=?_);simp only[go_sem,seval,g2,g4,e2,e4,f2,f4,Nat.left_eq_add];have hL:∀B r,(H.set (n0+2) B).look r=if r=n0+2 then some B else H.look r:=λB r=>Heap.look_set _ _ _ g2 r
    refine⟨hUk,(k+1,jV (.string (A.getD k default).name) (auC (A.getD k default)) U,_,_),dD ⟨rfl,Nat.le_refl _,rfl,?_⟩,⟨⟨by show k+1<=_;omega,by show n0+5<=nn+14;omega,Hf hU,λn=>?_⟩,⟨?_,?_,?_,?_,?_⟩,λj hj=>?_⟩,by show _-(k+1)<_-k;omega⟩
    .simp only[go_sem,seval,hwk]
    .show fV (.string n) (jV _ _ U)=_
     rw[Hw hU,aAt hkl,hUl]
     by_cases e:n=(A.getD k default).name
     .subst e;rw[if_pos rfl,hsn,if_pos rfl];rfl
     .rw[if_neg e,if_neg (λh=>e h.symm),Option.or_none]
    .show Heap.look _ n0=_
     rw[Heap.look,if_neg (by omega),Heap.look,if_neg (by omega),hL,if_neg (by omega)];exact g0
    .show Heap.look _ (n0+1)=_
     rw[Heap.look,if_neg (by omega),Heap.look,if_neg (by omega),hL,if_neg (by omega)];exact g1
    .show Heap.look _ (n0+2)=_
     rw[Heap.look,if_neg (by omega),Heap.look,if_neg (by omega),hL,if_pos rfl];exact congrArg (λx=>some (Blk.map x)) (put_au _ _ _)
    .show Heap.look _ (n0+3)=_
     rw[Heap.look,if_neg (by omega),Heap.look,if_neg (by omega),hL,if_neg (by omega)];exact g3
    .show Heap.look _ (n0+4)=_
     rw[Heap.look,if_neg (by omega),Heap.look,if_neg (by omega),hL,if_neg (by omega)];exact g4
    .show Heap.look _ j=_
     rw[Heap.look,if_neg (by omega),Heap.look,if_neg (by omega),hL,if_neg (by omega)];exact hlo j hj
   |some a=>
    rw[hsn]at hUn;simp only[go_sem,seval,hUn,g2,g4,e2,e4,Nat.add_assoc];refine⟨hUk,jL ?_,?_⟩
    .simp only[gB,jG,cC (show n0+2<nn+1 by omega),cC (show n0+4<nn+1 by omega),cC (show nn<nn+1 by omega),rR,Nat.reduceLeDiff,Nat.reduceSub,Nat.reduceAdd];show vJ _ _ _=true
     kernel_rfl
    refine⟨(k+1,U,_,_),dD ⟨rfl,Nat.le_refl _,rfl,?_⟩,⟨⟨by show k+1<=_;omega,by show n0+5<=nn+14;omega,hU,λn=>?_⟩,⟨?_,?_,?_,?_,?_⟩,λj hj=>?_⟩,by show _-(k+1)<_-k;omega⟩
    .simp only[go_sem,seval,hwk]
    .show fV (.string n) U=_
     rw[aAt hkl,hUl]
     by_cases e:(A.getD k default).name=n
     .subst e;rw[hsn];rfl
     .rw[if_neg e,Option.or_none]
    .show Heap.look _ n0=_
     rw[Heap.look,if_neg (by omega),Heap.look,if_neg (by omega)];exact g0
    .show Heap.look _ (n0+1)=_
     rw[Heap.look,if_neg (by omega),Heap.look,if_neg (by omega)];exact g1
    .show Heap.look _ (n0+2)=_
     rw[Heap.look,if_neg (by omega),Heap.look,if_neg (by omega)];exact g2
    .show Heap.look _ (n0+3)=_
     rw[Heap.look,if_neg (by omega),Heap.look,if_neg (by omega)];exact g3
    .show Heap.look _ (n0+4)=_
     rw[Heap.look,if_neg (by omega),Heap.look,if_neg (by omega)];exact g4
    .show Heap.look _ j=_
     rw[Heap.look,if_neg (by omega),Heap.look,if_neg (by omega)];exact hlo j hj
  .simp only[bxx]at hge;have:k=A.length:=by omega
   subst this;rw[List.take_length]at hUl;clear e0 e2 e4 f0 f2 f4 hwf;unfold awS;simp only[go_sem,seval];refine aH (aB _ ?_);simp only[go_sem,seval,g0];refine aE (λ(x:Nat×(Nat->Nat)×(Nat->Nat)×(Nat->Nat)×Heap×Nat) σ=>(fun τ : St=>{ τ with h:=x.2.2.2.2.1,nx:=x.2.2.2.2.2 }) (bP 68 (aA x.1) (aY [13,14,16,69,70,71,72,73,74,75,76,77,78,79,80,81,82,83,84,85,86,87,88,89,90,91,92,93,94,95,96,97,98,99,100,101,102,103,104,105] σ)))
    (λx=>(x.1<=p.seqs.length/\n0+5<=x.2.2.2.2.2)/\(x.2.2.2.2.1.look n0=some (.box [.t (hZ p.media),.t (nP p.seqs)])/\x.2.2.2.2.1.look (n0+1)=some (.map (tEs (rtM p.media)))/\x.2.2.2.2.1.look (n0+2)=some (.map (tEs U))/\x.2.2.2.2.1.look (n0+3)=some (.map (Er p x.2.1 x.1))/\x.2.2.2.2.1.look (n0+4)=some (.box [.own (n0+1),.own (n0+2),.own (n0+3)])) /\
     (∀i,i<x.1->(n0+5<=x.2.2.2.1 i/\x.2.2.2.1 i<x.2.1 i/\x.2.1 i<x.2.2.1 i/\x.2.2.1 i<x.2.2.2.2.2)/\x.2.2.2.2.1.look (x.2.1 i)=some (.box [aA (p.seqs.getD i default).rate.num,aA (p.seqs.getD i default).rate.den,aA (p.seqs.getD i default).channels,.own (x.2.2.1 i),.own (x.2.2.2.1 i)])/\x.2.2.2.2.1.look (x.2.2.1 i)=some (.row 124 3 aNb (aS ((p.seqs.getD i default).sound.map Xs)))/\x.2.2.2.2.1.look (x.2.2.2.1 i)=some (.map [])) /\
     (∀i j,i<j->j<x.1->x.2.2.1 i<x.2.2.2.1 j) /\∀j,j<n0->x.2.2.2.2.1.look j=H0.look j)
    (λx=>p.seqs.length-x.1) (0,λ_=>0,λ_=>0,λ_=>0,H,nn) ?_ ?_ ?_
   .refine dD ⟨rfl,Nat.le_refl _,rfl,?_⟩;simp only[go_sem,seval]
   .exact⟨⟨Nat.zero_le _,hnn⟩,⟨g0,g1,g2,g3,g4⟩,λi hi=>absurd hi (by show ¬i<0;omega),λi j _ hj=>absurd hj (by show ¬j<0;omega),hlo⟩
   clear g0 g1 g2 g3 g4 hlo hnn;rintro⟨k,fb,ft,fc,H,nn⟩ ⟨⟨hk,hnn⟩,⟨g0,g1,g2,g3,g4⟩,hq,hord,hlo⟩;simp only at hk hnn g0 g1 g2 g3 g4 hq hord hlo;have hsl:=hp.sl;have e4:(n0+4=nn)=False:=eq_false (by omega);have f4:∀j,(n0+4=nn+j)=False:=λj=>eq_false (by omega)
   have e3:(n0+3=nn)=False:=eq_false (by omega);have f3:∀j,(n0+3=nn+j)=False:=λj=>eq_false (by omega)
   refine Gq λhwf=>aB _ ?_
   simp only[go_sem,seval];refine⟨λhlt=>?_,λhge=>?_⟩
   .simp only[bxx]at hlt;have hkl:k<p.seqs.length:=by omega
    have hwk:IntKind.i64.wrap ((k:Int)+1)=((k+1:Nat):Int):=by rw[bJ (by omega)];omega
    have hqn:=λd=>Ep hkl d
    have h8:=(hp.seq k hkl).len;have htv:=(hp.seq k hkl).trk;obtain⟨s,hs⟩:∃s,p.seqs.getD k default=s:=⟨_,rfl⟩
    rw[hs]at h8 htv;simp only[hs]at hqn;unfold awS;simp only[go_sem,seval,hqn,Nat.add_assoc,Nat.left_eq_add];refine⟨⟨by omega,by omega⟩,?_⟩;have bx:∀(B0 B1 B2:Blk),(Heap.look ((nn+2,B2)::(nn+1,B1)::(nn,B0)::H) (nn+2)=some B2/\Heap.look ((nn+2,B2)::(nn+1,B1)::(nn,B0)::H) (nn+1)=some B1/\Heap.look ((nn+2,B2)::(nn+1,B1)::(nn,B0)::H) nn=some B0) /\∀q,q<nn->Heap.look ((nn+2,B2)::(nn+1,B1)::(nn,B0)::H) q=H.look q:=λB0 B1 B2=>by
     refine⟨⟨?_,?_,?_⟩,λq hq=>?_⟩
     .rw[Heap.look,if_pos rfl]
     .rw[Heap.look,if_neg (by omega),Heap.look,if_pos rfl]
     .rw[Heap.look,if_neg (by omega),Heap.look,if_neg (by omega),Heap.look,if_pos rfl]
     .rw[Heap.look,if_neg (by omega),Heap.look,if_neg (by omega),Heap.look,if_neg (by omega)]
    generalize hB0:Blk.box [cF s.name,_,_,_,_,_,_,_,_]=B0;have bx2:=bx B0 (.map []) (.box [aA s.rate.num,aA s.rate.den,aA s.channels,.t (.lit (.slice none 0 0)),.own (nn+1)]);clear bx;generalize((nn+2,Blk.box [aA s.rate.num,aA s.rate.den,aA s.channels,V.t (.lit (.slice none 0 0)),V.own (nn+1)])::(nn+1,Blk.map [])::(nn,B0)::H:Heap)=H2 at*;obtain⟨⟨h2,h1,h0⟩,hlo2⟩:=bx2;refine aE (λ(x:Nat×Nat×Heap×Nat) σ=>(fun τ : St=>{ τ with h:=x.2.2.1,nx:=x.2.2.2 }) (bP 82 (aA x.1) (aY [16,83,84,85,86,87,88,89,90,91,92,93,94,95,96,97] σ)))
     (λx=>(x.1<=s.sound.length/\nn+3<=x.2.1/\x.2.1<x.2.2.2)/\(x.2.2.1.look nn=some B0/\x.2.2.1.look (nn+1)=some (.map [])/\x.2.2.1.look (nn+2)=some (.box [aA s.rate.num,aA s.rate.den,aA s.channels,.own x.2.1,.own (nn+1)])/\x.2.2.1.look x.2.1=some (.row 124 3 aNb (aS ((s.sound.take x.1).map Xs)))) /\∀q,q<nn->x.2.2.1.look q=H.look q)
     (λx=>s.sound.length-x.1) (0,nn+3,(nn+3,.row 124 3 aNb [])::Heap.set H2 (nn+2) (.box [aA s.rate.num,aA s.rate.den,aA s.channels,.own (nn+3),.own (nn+1)]),nn+4) ?_ ?_ ?_
    .refine aE6 (aKb (nn+2) 3 124 3 aNb [aA s.rate.num,aA s.rate.den,aA s.channels,.t (.lit (.slice none 0 0)),.own (nn+1)] (by show n0<=nn+3;omega) h2 rfl) (dD ⟨rfl,Nat.le_refl _,rfl,?_⟩);simp only[go_sem,seval]
    .have hL:∀B r,Heap.look (Heap.set H2 (nn+2) B) r=if r=nn+2 then some B else Heap.look H2 r:=λB r=>Heap.look_set _ _ _ h2 r
     refine⟨⟨Nat.zero_le _,Nat.le_refl _,Nat.lt_succ_self _⟩,⟨?_,?_,?_,?_⟩,λq hq=>?_⟩
     .show Heap.look _ nn=_
      rw[Heap.look,if_neg (by omega),hL,if_neg (by omega)];exact h0
     .show Heap.look _ (nn+1)=_
      rw[Heap.look,if_neg (by omega),hL,if_neg (by omega)];exact h1
     .show Heap.look _ (nn+2)=_
      rw[Heap.look,if_neg (by omega),hL,if_pos rfl]
     .show Heap.look _ (nn+3)=_
      rw[Heap.look,if_pos rfl];rfl
     .show Heap.look _ q=_
      rw[Heap.look,if_neg (by omega),hL,if_neg (by omega)];exact hlo2 q hq
    clear h2 h1 h0 hlo2;rintro⟨j,r,H3,n3⟩ ⟨⟨hj,hr1,hr2⟩,⟨h0,h1,h2,hr⟩,hlo3⟩;simp only at hj hr1 hr2 h0 h1 h2 hr hlo3;refine Gq λhwf3=>aB _ ?_
    simp only[go_sem,seval];refine⟨λhlt2=>?_,λhge2=>?_⟩
    .simp only[bxx]at hlt2;have hjl:j<s.sound.length:=by omega
     have hwj:IntKind.i64.wrap ((j:Int)+1)=((j+1:Nat):Int):=by rw[bJ (by omega)];omega
     have hnt:=aMu _ (htv _ (aW (d:=[]) hjl)).1;have htn:=λd=>aA6 hjl d
     unfold awS;simp only[go_sem,seval,htn];refine⟨⟨by omega,by omega⟩,?_⟩;refine aQ 12 .done (h:=?_);simp only[go_sem,seval,h2];refine⟨_,hnt,?_⟩;have hlen:(s.sound.take j).length=j:=by rw[List.length_take];omega
     have g5:∀k,(nn+2=n3+k)=False:=λk=>eq_false (by omega)
     have g6:∀k,(r=n3+k)=False:=λk=>eq_false (by omega)
     have g7:(nn+2=r)=False:=eq_false (by omega);have hdel:∀q,(H3.del r).look q=if q=r then none else H3.look q:=Heap.look_del H3 r
     have hd2:(H3.del r).look (nn+2)=H3.look (nn+2):=by rw[hdel,if_neg (by omega)]
     simp only[go_sem,seval,h2,hr,g5,g6,hd2];refine⟨⟨by unfold maxLen;omega,by omega⟩,?_⟩;refine⟨jL ?_,?_⟩
     .have o7:pK n3 (n3+7)=8:=by unfold pK;rw[if_neg (by omega)];omega
      simp only[gB,jG,o7,cC (show nn+2<n3 by omega),cC (show r<n3 by omega)];show vJ _ _ _=true
      kernel_rfl
     have hL:∀B q,((H3.del r).set (nn+2) B).look q=if q=nn+2 then some B else if q=r then none else H3.look q:=λB q=>by rw[Heap.look_set _ _ _ (by rw[hd2];exact h2) q,hdel]
     have hq1:s.sound.take (j+1)=s.sound.take j++[s.sound.getD j []]:=by
      rw[List.take_add_one,List.getElem?_eq_getElem hjl,List.getD_eq_getElem?_getD,List.getElem?_eq_getElem hjl];rfl
     refine⟨(j+1,n3+8,_,n3+12),dD ⟨rfl,Nat.le_refl _,rfl,?_⟩,⟨⟨by show j+1<=_;omega,by show nn+3<=n3+8;omega,by show n3+8<n3+12;omega⟩,⟨?_,?_,?_,?_⟩,λq hq=>?_⟩,by show _-(j+1)<_-j;omega⟩
     .simp only[go_sem,seval,hwj]
     .show Heap.look _ nn=_
      rw[Heap.look,if_neg (by omega),Heap.look,if_neg (by omega),hL,if_neg (by omega),if_neg (by omega)];exact h0
     .show Heap.look _ (nn+1)=_
      rw[Heap.look,if_neg (by omega),Heap.look,if_neg (by omega),hL,if_neg (by omega),if_neg (by omega)];exact h1
     .show Heap.look _ (nn+2)=_
      rw[Heap.look,if_neg (by omega),Heap.look,if_neg (by omega),hL,if_pos rfl]
     .show Heap.look _ (n3+8)=_
      rw[Heap.look,if_pos rfl,hq1,List.map_append];rfl
     .show Heap.look _ q=_
      rw[Heap.look,if_neg (by omega),Heap.look,if_neg (by omega),hL,if_neg (by omega),if_neg (by omega)];exact hlo3 q hq
    .simp only[bxx]at hge2;have:j=s.sound.length:=by omega
     subst this;rw[List.take_length]at hr;have k3:=(hlo3 (n0+3) (by omega)).trans g3;have k4:=(hlo3 (n0+4) (by omega)).trans g4;subst hB0;unfold awS;simp only[go_sem,seval];refine bL [0,1,2,3,4,5,6] (.step 7 .done) (h:=?_);simp only[go_sem,seval,h0,k3,k4];refine⟨Da p fb k,?_⟩;rw[show uE (.string s.name) (V.own (nn+2)) (Er p fb k)=Er p (λi=>if i=k then nn+2 else fb i) (k+1) by rw[<-hs];exact aPq hp.ns hkl];have hL:∀B q,(H3.set (n0+3) B).look q=if q=n0+3 then some B else H3.look q:=λB q=>Heap.look_set _ _ _ k3 q
     have old:∀B q x,q<nn->q≠n0+3->H.look q=some x->(H3.set (n0+3) B).look q=some x:=λB q x hq hne hx=>by rw[hL,if_neg hne,hlo3 q hq];exact hx
     refine⟨(k+1,(λi=>if i=k then nn+2 else fb i),(λi=>if i=k then r else ft i),(λi=>if i=k then nn+1 else fc i),_,n3),dD ⟨rfl,Nat.le_refl _,rfl,?_⟩,⟨⟨by show k+1<=_;omega,by show n0+5<=n3;omega⟩,⟨old _ _ _ (by omega) (by omega) g0,old _ _ _ (by omega) (by omega) g1,old _ _ _ (by omega) (by omega) g2,?_,old _ _ _ (by omega) (by omega) g4⟩,λi hi=>?_,λi j hij hj=>?_,λq hq=>?_⟩,by show _-(k+1)<_-k;omega⟩
     .simp only[go_sem,seval,hwk]
     .show(H3.set (n0+3) _).look (n0+3)=_
      rw[hL,if_pos rfl]
     .have hi:i<k+1:=hi;show(n0+5<=(if i=k then nn+1 else fc i)/\(if i=k then nn+1 else fc i)<(if i=k then nn+2 else fb i)/\(if i=k then nn+2 else fb i)<(if i=k then r else ft i)/\(if i=k then r else ft i)<n3)/\(H3.set (n0+3) _).look (if i=k then nn+2 else fb i)=some (.box [_,_,_,.own (if i=k then r else ft i),.own (if i=k then nn+1 else fc i)])/\(H3.set (n0+3) _).look (if i=k then r else ft i)=_/\(H3.set (n0+3) _).look (if i=k then nn+1 else fc i)=_
      by_cases e:i=k
      .subst e;simp only[if_true,hs];refine⟨⟨by omega,by omega,by omega,by omega⟩,?_,?_,?_⟩
       .rw[hL,if_neg (by omega)];exact h2
       .rw[hL,if_neg (by omega)];exact hr
       .rw[hL,if_neg (by omega)];exact h1
      .simp only[if_neg e];obtain⟨⟨q1,q2,q3,q4⟩,q5,q6,q7⟩:=hq i (by omega);exact⟨⟨q1,q2,q3,by omega⟩,old _ _ _ (by omega) (by omega) q5,old _ _ _ (by omega) (by omega) q6,old _ _ _ (by omega) (by omega) q7⟩
     .have hj:j<k+1:=hj;show(if i=k then r else ft i)<(if j=k then nn+1 else fc j)
      rw[if_neg (by omega)];have q4:=(hq i (by omega)).1.2.2.2
      by_cases e:j=k
      .rw[if_pos e];omega
      .rw[if_neg e];exact hord i j hij (by omega)
     .show(H3.set (n0+3) _).look q=_
      rw[hL,if_neg (by omega),hlo3 q (by omega)];exact hlo q hq
   .simp only[bxx]at hge;have:k=p.seqs.length:=by omega
    subst this;have hD:∀q i,(q<n0+5)->i<p.seqs.length->q≠fc i:=λq i h1 h2=>by
     have:=(hq i h2).1.1;omega
    have hord2:∀i j,i<p.seqs.length->j<p.seqs.length->i≠j->ft i<fc j\/ft j<fc i:=λi j hi hj hij=>by
     rcases Nat.lt_or_ge i j with h|h
     .exact .inl (hord i j h hj)
     .exact .inr (hord j i (by omega) hi)
    have hMix:MixH p A ⟨n0+4,n0+1,n0+2,n0+3,fb,ft,fc⟩ nn H:=by
     refine⟨g4,⟨_,g1,aCk _,λk hk=>?_⟩,⟨U,g2,hUk,hUl⟩,⟨_,g3,Da _ _ _,λi hi=>Uj hp.ns hi (Nat.le_refl _),λn hn=>Bb (aL4 hn)⟩,λi hi=>(hq i hi).2.1,λi hi=>(hq i hi).2.2.1,λi hi=>⟨[],(hq i hi).2.2.2,Hy p A i⟩,⟨?_,?_,?_,?_⟩,λi hi=>⟨λj hj=>?_,λj hj=>?_⟩,λi j hi hj he=>?_,⟨?_,?_,?_,?_⟩,λi hi=>?_,λq hq=>hwf q hq⟩
     .rw[look_rt,aCb hp.nm hk];rfl
     .exact λj hj=>hD (n0+4) j (by omega) hj
     .exact λj hj=>hD (n0+1) j (by omega) hj
     .exact λj hj=>hD (n0+2) j (by omega) hj
     .exact λj hj=>hD (n0+3) j (by omega) hj
     .show fb i≠fc j
      have q1:=(hq i hi).1;have q2:=(hq j hj).1
      by_cases e:i=j
      .subst e;omega
      .have:=hord2 i j hi hj e;omega
     .show ft i≠fc j
      have q1:=(hq i hi).1;have q2:=(hq j hj).1
      by_cases e:i=j
      .subst e;omega
      .have:=hord2 i j hi hj e;omega
     .by_cases e:i=j
      .exact e
      .exfalso;have he:fc i=fc j:=he;have q1:=(hq i hi).1;have q2:=(hq j hj).1;have:=hord2 i j hi hj e;omega
     .show n0+4<nn;omega
     .show n0+1<nn;omega
     .show n0+2<nn;omega
     .show n0+3<nn;omega
     .show fb i<nn/\ft i<nn/\fc i<nn
      have q1:=(hq i hi).1;omega
    unfold awS;simp only[go_sem,seval];refine aB _ ?_;simp only[go_sem,seval];exact hK3 _ H nn hMix (λj hj=>⟨⟨⟨by show j≠n0+4;omega,by show j≠n0+1;omega,by show j≠n0+2;omega,by show j≠n0+3;omega⟩,λi hi=>by
     have q1:=(hq i hi).1;exact⟨by show j≠fb i;omega,by show j≠ft i;omega,by show j≠fc i;omega⟩⟩,hlo j hj⟩) (by omega) _ _
theorem aT0{A:List AudioR}(hA:AudF A):aL Tryz.prog 22 [.t (uJ A)] (aR (A.all nK)):=by
 have hAl:=hA.len;refine aF Tryz.X22 Tryz.func22 rfl Tryz.ntmps22 (by rw[Tryz.results22]) (aB _ ?_);simp only[go_sem,seval];refine aE (λ(k:Nat) σ=>bP 9 (aA k) (aY [4,6,10,11,12,13,14,15,16,17,18,19,20,21,22,23,24,25,26,27,28,29,30,31,32,33,34,35,36,37,38] (bE σ))) (λk=>k<=A.length /\∀i,i<k->nK (A.getD i default)=true) (λk=>A.length-k) 0 (aC ?_) ⟨Nat.zero_le _,λi hi=>absurd hi (by omega)⟩ ?_
 .simp only[go_sem,seval]<;>simp
 .rintro k ⟨hk,hki⟩;refine aB _ ?_;simp only[go_sem,seval];refine⟨λhlt=>?_,λhge=>?_⟩
  .simp only[bxx]at hlt;have hkl:k<A.length:=by omega
   have hwk:IntKind.i64.wrap ((k:Int)+1)=((k+1:Nat):Int):=by rw[bJ (by omega)];omega
   have hLl:=hA.chs _ (aW (d:=default) hkl);have hprop:nK (A.getD k default)=((A.getD k default).chs.all (aG4 (A.getD k default).chs)&&decide ((A.getD k default).chs.length<=4)):=rfl;obtain⟨L,hL⟩:∃L,L=(A.getD k default).chs:=⟨_,rfl⟩
   rw[<-hL]at hLl hprop;unfold awS;simp only[go_sem,seval,Zv hkl,<-hL,pY,t16];refine⟨⟨by omega,by omega⟩,λh5=>?_,λh5=>?_⟩
   .have hp0:A.all nK=false:=cK hkl (by
     rw[hprop,decide_eq_false (by have:=of_decide_eq_true h5;omega),Bool.and_false])
    rw[hp0];unfold awS;simp only[go_sem,seval]
   have h4:L.length<=4:=by
    have:=of_decide_eq_false h5;omega
   rw[decide_eq_true h4,Bool.and_true]at hprop;unfold awS;simp only[go_sem,seval];refine aE (λ(j:Nat) σ=>bP 20 (aA j) (aY [6,21,22,23,24,25,26,27,28,29,30,31,32,33,34,35,36,37,38] (bE σ))) (λj=>j<=L.length /\∀i,i<j->aG4 L (L.getD i [])=true) (λj=>L.length-j) 0 (aC ?_) ⟨Nat.zero_le _,λi hi=>absurd hi (by omega)⟩ ?_
   .simp only[go_sem,seval]<;>simp
   .rintro j ⟨hj,hji⟩;refine aB _ ?_;simp only[go_sem,seval];refine⟨λhlt2=>?_,λhge2=>?_⟩
    .simp only[bxx]at hlt2;have hjl:j<L.length:=by omega
     have h0l:0<L.length:=by omega
     have hwj:IntKind.i64.wrap ((j:Int)+1)=((j+1:Nat):Int):=by rw[bJ (by omega)];omega
     have c0:=Aj h0l;have cj:=Aj hjl;unfold awS;simp only[go_sem,seval,cj,c0];refine⟨⟨by omega,by omega⟩,by omega,?_⟩;rw[aDk];refine⟨λh6=>?_,λh6=>?_⟩
     .have hp0:A.all nK=false:=cK hkl (by
       rw[hprop];exact cK hjl (by simpa using h6))
      rw[hp0];unfold awS;simp only[go_sem,seval]
     unfold awS;simp only[go_sem,seval];refine⟨j+1,aC ?_,⟨by omega,upto hji (by simpa using h6)⟩,by omega⟩;simp only[go_sem,seval,hwj];simp
    .simp only[bxx]at hge2;have hpk:nK (A.getD k default)=true:=by
      rw[hprop];exact Gt (d:=[]) (by rw[show L.length=j by omega];exact hji)
     unfold awS;simp only[go_sem,seval];refine⟨k+1,aC ?_,⟨by omega,upto hki hpk⟩,by omega⟩;simp only[go_sem,seval,hwk]
  .simp only[bxx]at hge;have hall:A.all nK=true:=Gt (d:=default) (by rw[show A.length=k by omega];exact hki);rw[hall];unfold awS;simp only[go_sem,seval]
theorem semS_q{P:Program}{ops:List Oper}{Q:Exit->St->Prop}{o:Oper}{r:List Oper}{σ:St}{f:FuncId}{args:Array Operand}{tys:Array TypeId}(hg:o.guard=none)(ho:o.op=.call { callee:=.value (.func f),args:=args,argTypes:=tys })
  (h:eE true (args.toList.map σ.ev) λxs=>PCall P (λ_=>False) (λpe σ'=>Q (.panic pe) { σ' with fr:= σ.fr }) σ o.dst f xs (sF P ops Q r)):sF P ops Q (o::r) σ:=by
 intro E a w hr E0 w0 hE;unfold wpListIn;have hw:Region.wanted o (yielded ops.toArray a.tmps)=true:=by simp[Region.wanted,hg]
 rw[if_pos hw];refine fE (.inr λc hc=>by rw[ho]at hc;cases hc) ?_;obtain⟨ys,h1,hys⟩:=mP h;have hvs:=hys w E _ rfl (kL hr args.toList);have h2:=h1.2 E w _ hr.rel hr.bound hvs;have e1:(args.toList.map a.eval).toArray=args.map a.eval:=by apply Array.ext';simp only[Array.toList_map]
 rw[e1]at h2;unfold Oper.wp;rw[mZ ho rfl h1.1];simp only[Oper.upon];refine Calls.mono h2 ?_;rintro e w' (⟨v,x,h',nx',E',rfl,q2,q3,q4,q5,q6,q7⟩|⟨pe,h',nx',E',rfl,q2,q3,q4,q5⟩)
 .have hr':RelF E' { σ with h:=h',nx:=nx' } a w':=⟨q2,q3,q4.rdVs _ hr.fr,q4.defs hr.defers⟩
  have:=q7 E' _ w' (hr'.put o.dst q5) E0 w0 (hE.trans q4);rwa[q4.ro]at this
 .exact⟨{ σ with h:=h',nx:=nx' },E',⟨q2,q3,q4.rdVs _ hr.fr,q4.defs hr.defers⟩,hE.trans q4,q5⟩
theorem aMh{P:Program}{f:FuncId}{fn:Func}{c:Code}{args:List V}{r:V}{n:Nat}{rs:List ResultVar}(he:P.enters f=true)(hf:P.funcs[f]?=some fn)(hb:fn.body=some c)(hn:fn.ntmps=n)(hrs:fn.results.toList=rs)
  (h:AWP P 0 c (Lm P rs (λx σ=>aQ6 r x σ.h)) (uB P n args [] 0)):aL P f args r:=by
 refine⟨he,λw S vs hS hargs=>?_⟩;refine Th hf hb hn hrs h (Ny hS) (λi hi=>hi.elim) (λi hi=>hi.elim) (RdVs.unbare (E:=⟨S,λ_=>none,λ_=>False,λb=>b<w.heap.size,λ_=>none,none⟩) args hargs) ?_;rintro v x σ' E' w' h1 hbd h2 hrv ⟨hK1,hK2⟩;refine⟨v,wE E' σ'.h,rfl,λb hb'=> .inl (h2.S b hb'),λb hb'=>?_,λb hb'=>?_,?_,⟨h2.os,h2.tape,h2.output,h2.size,λb hb'=>h2.keep b (.inr hb')⟩⟩
 .rcases hb' with hb'|⟨i,hv',_,hB,_,_,hbk⟩
  .rcases h2.S' b hb' with q|q
   .exact .inl q
   .exact .inr (Nat.le_of_not_lt q)
  .have q:=(h1.own i hv' b hB hbk).2.2;exact .inr (Nat.le_of_not_lt λhlt=>q ((h2.D b).2 hlt))
 .rcases hb' with hb'|⟨i,hv',_,hB,_,_,hbk⟩
  .exact h1.slt b hb'
  .exact(h1.own i hv' b hB hbk).1
 .have:=RdV.lend h1 x (by rw[hK1];exact hK2) hrv;rw[hK1]at this;exact this
theorem aPz{fr0 n:Int}{b:Bool}(h1:0<=n)(h2:n<=1048576):(!qK fr0 || !qK (IntKind.i64.wrap (fr0+n)) || !b)=true↔(fr0 < -1099511627776\/1099511627776-n<fr0\/b=false):=by
 by_cases h : -1099511627776<=fr0/\fr0<=1099511627776
 .rw[wrap64 (x:=fr0+n)];unfold qK;cases b
  .simp only[Bool.not_false,Bool.or_true,true_iff];exact .inr (.inr trivial)
  .simp only[Bool.or_eq_true,Bool.not_eq_true',Bool.and_eq_false_iff,decide_eq_false_iff_not,reduceCtorEq,or_false];omega
 .have:qK fr0=false:=by
   unfold qK;simp only[Bool.and_eq_false_iff,decide_eq_false_iff_not];omega
  rw[this];simp only[Bool.not_false,Bool.true_or,true_iff];omega
def Lu(L:List (List Int))(N c:Nat):List Int:=(L.map λl=>l.getD c 0)++List.replicate (N-L.length) 0
theorem aSb{L:List (List Int)}{N:Nat}(c:Nat)(h:L.length<=N):(Lu L N c).length=N:=by
 unfold Lu;rw[List.length_append,List.length_map,List.length_replicate];omega
theorem aSa{L:List (List Int)}{N:Nat}(c:Nat)(h:L.length<N)(l:List Int):(Lu L N c).set L.length (l.getD c 0)=Lu (L++[l]) N c:=by
 unfold Lu;obtain⟨k,hk⟩:∃k,N-L.length=k+1:=⟨N-L.length-1,by omega⟩
 have e:N-(L++[l]).length=k:=by rw[List.length_append];simp;omega
 rw[hk,e,List.replicate_succ,List.set_append_right _ _ (by rw[List.length_map];exact Nat.le_refl _),List.length_map,Nat.sub_self,List.map_append];simp
theorem aB6{m c:Nat}(hc:c<m)(d:List T)(f:Nat->List V):pL d ((List.range m).map f) c=f c:=by
 unfold pL;rw[List.getElem?_map,List.getElem?_range hc];rfl
theorem rng_set{m c:Nat}{f g:Nat->List V}(h:∀j,j<m->j≠c->f j=g j){y:List V}(hy:c<m->y=g c):setRow ((List.range m).map f) c y=(List.range m).map g:=by
 unfold setRow;refine List.ext_getElem (by simp) λi h1 h2=>?_
 simp only[List.length_map,List.length_range]at h2;simp only[List.getElem_set,List.getElem_map,List.getElem_range];split
 .rename_i e;subst e;exact hy h2
 .rename_i e;exact h i h2 (λe2=>e e2.symm)
set_option maxHeartbeats 4000000 in
theorem aJs{p:ProjR}(h:p.fit){A:List AudioR}(hA:AudF A)(name:ByteArray)(fr0 n:Int)(hf:I64 fr0)(hn:I64 n):
  aL Tryz.prog 10 [jY p,cF name,aA fr0,aA n,.t (uJ A)] (nN (pZ p A name fr0 n)):=by
 obtain⟨f1,f2⟩:=hf;obtain⟨n1,n2⟩:=hn;obtain⟨R,hR⟩:∃R,R=pZ p A name fr0 n:=⟨_,rfl⟩
 rw[<-hR];unfold pZ at hR;have cv:=cValid p h;refine aMh Tryz.X10 Tryz.func10 rfl Tryz.ntmps10 (by rw[Tryz.results10]) ?_;refine aH (aB _ ?_);simp only[go_sem,seval];refine aH (aU 1 ?_);simp only[go_sem,seval];refine aEv rfl rfl rfl rfl rfl (dC ?_);simp only[go_sem,seval];refine aH (aB _ ?_);simp only[go_sem,seval];refine⟨_,cv,?_⟩;simp only[go_sem,seval];refine⟨λhv=>?_,λhv=>?_⟩
 .rw[bne_iff_ne]at hv;rw[if_pos hv]at hR;rw[hR];unfold awS;simp only[go_sem,seval];unfold Lm nN;simp only[go_sem,seval];exact mS
 have hv:eN p=0:=by simpa using hv
 have hp:=Ym h hv;rw[if_neg (by rw[hv];simp)]at hR;unfold awS;simp only[go_sem,seval];refine aH (aU 2 ?_);simp only[go_sem,seval];refine semS_io rfl rfl ?_;simp only[go_sem,seval];refine aE4 hp hA λN H nn hM hlo hnn=>dC ?_
 have hnn:3<=nn:=hnn;obtain⟨o0,l0⟩:=hlo 0 (by show 0<3;omega);obtain⟨o1,l1⟩:=hlo 1 (by show 1<3;omega);obtain⟨o2,l2⟩:=hlo 2 (by show 2<3;omega);have l0:H.look 0=some (.box [.t (hZ p.media),.t (nP p.seqs)]):=l0;have l1:H.look 1=some (.box [.t (.lit (.slice none 0 0))]):=l1;have l2:H.look 2=some (.box [aA 0]):=l2;clear hlo;simp only[go_sem,seval];obtain⟨S,hS1,hS2,hS3,hS4⟩:=hM.sq;have hbx:=hM.box;refine aH (aB _ ?_);simp only[go_sem,seval,hbx,hS1];refine⟨hS2,?_⟩;have L1:∀B,(H.set 1 B).look 2=some (.box [aA 0]):=λB=>by rw[Heap.look_set _ _ _ l1,if_neg (by decide)];exact l2
 have L2:∀B C,((H.set 1 B).set 2 C).look 1=some B:=λB C=>by rw[Heap.look_set _ _ _ (L1 B),if_neg (by decide),Heap.look_set _ _ _ l1,if_pos rfl]
 have L3:∀B C,((H.set 1 B).set 2 C).look 2=some C:=λB C=>by rw[Heap.look_set _ _ _ (L1 B),if_pos rfl]
 by_cases hsi:gU p name<0
 .rw[if_pos hsi]at hR;rw[hR];rw[hS4 name hsi];simp only[go_sem,seval];refine aH (aH (aB _ ?_));simp only[go_sem,seval];refine eS (b:=true) rfl ?_;rw[if_pos rfl];refine aB _ ?_;simp only[go_sem,seval,l1,L1];unfold Lm nN;simp only[go_sem,seval,L2,L3];exact mS
 rw[if_neg hsi]at hR;obtain⟨i,hi,hii,hin⟩:=mT (show 0<=gU p name by omega);rw[hii,Int.toNat_natCast]at hR;have hse:=hS3 i hi;rw[hin]at hse;have hsq:=hM.seq i hi;rw[hse];simp only[go_sem,seval];refine aH (aH (aB _ ?_));simp only[go_sem,seval];refine eS (b:=false) rfl ?_;rw[if_neg (by decide)];refine aB _ ?_;simp only[go_sem,seval];refine aH (aB _ ?_);simp only[go_sem,seval];refine⟨_,λ_=>aT0 hA,?_⟩;simp only[go_sem,seval];refine⟨λh1=>?_,λh1=>?_⟩
 .have hR1:R=.error 1:=by
   rw[Bool.or_eq_true,decide_eq_true_eq,Bool.not_eq_true']at h1;rcases h1 with h1|h1
   .by_cases hp2:A.all nK=false
    .rw[if_pos hp2]at hR;exact hR
    .rw[if_neg hp2,if_pos h1]at hR;exact hR
   .rw[if_pos h1]at hR;exact hR
  rw[hR1];unfold awS;simp only[go_sem,seval,l1,L1];unfold Lm nN;simp only[go_sem,seval,L2,L3];exact mS
 rw[Bool.or_eq_false_iff,decide_eq_false_iff_not,Bool.not_eq_false']at h1;obtain⟨h1,hall⟩:=h1;rw[if_neg (by rw[hall];decide),if_neg h1]at hR;have hP:AudP A:=⟨hA,List.all_eq_true.1 hall⟩
 unfold awS;simp only[go_sem,seval];refine aH (aB _ ?_);simp only[go_sem,seval];refine⟨λh2=>?_,λh2=>?_⟩
 .rw[decide_eq_true_eq]at h2;rw[if_pos (by omega)]at hR;rw[hR];unfold awS;simp only[go_sem,seval,l1,L1];unfold Lm nN;simp only[go_sem,seval,L2,L3];exact mS
 rw[decide_eq_false_iff_not]at h2;rw[if_neg (by omega)]at hR;unfold awS;simp only[go_sem,seval];refine aH (aB _ ?_);simp only[go_sem,seval];refine⟨_,Wv fr0,?_⟩;simp only[go_sem,seval];refine⟨_,λ_=>Wv _,?_⟩;simp only[go_sem,seval,hsq];obtain⟨_,hfit,hch,_,_⟩:=hp.seq i hi;refine⟨_,λ_=>qX (p.seqs.getD i default).rate hfit.rate,?_⟩;simp only[go_sem,seval];have hrc:=aPz (fr0:=fr0) (n:=n) (b:=bG (p.seqs.getD i default).rate) (by omega) (by omega);refine⟨λh3=>?_,λh3=>?_⟩
 .rw[if_pos (hrc.1 h3)]at hR;rw[hR];unfold awS;simp only[go_sem,seval,l1,L1];unfold Lm nN;simp only[go_sem,seval,L2,L3];exact mS
 have h3' : ¬(fr0 < -1099511627776\/1099511627776-n<fr0\/bG (p.seqs.getD i default).rate=false):=λh=>by
  rw[hrc.2 h]at h3;cases h3
 rw[if_neg h3']at hR;have hau:bG (p.seqs.getD i default).rate=true:=by
  cases e:bG (p.seqs.getD i default).rate with
  |true=>rfl
  |false=>exact absurd (.inr (.inr e)) h3'
 have hf1 : -1099511627776<=fr0:=by
  refine Int.not_lt.1 λh=>h3' (.inl h)
 have hf2:fr0<=1099511627776-n:=by
  refine Int.not_lt.1 λh=>h3' (.inr (.inl h))
 obtain⟨N0,hN0⟩:=eF (n:=n) (by omega);subst hN0;rw[Int.toNat_natCast]at hR;obtain⟨m,hm⟩:=eF (n:=(p.seqs.getD i default).channels) (by omega);have hmt:(p.seqs.getD i default).channels.toNat=m:=by omega
 rw[hmt]at hR;have hsl:=λ(t:Int) (l:List Int)=>Ek (A:=A) hp hi (t:=t) (l:=l)
 simp only[hmt]at hsl;rw[hm]at hsq;clear h3 h3' hrc;unfold awS;simp only[go_sem,seval];refine aH (aB _ ?_);simp only[go_sem,seval,hsq];refine⟨⟨by omega,by unfold maxLen;omega,by omega⟩,?_⟩;refine aH (aB _ ?_);simp only[go_sem,seval,List.length_replicate];have hwf0:=hM.wf;have mixL:∀(H':Heap) (n':Nat),nn<=n'->(∀q,q<nn->H'.look q=H.look q)->(∀q,n'<=q->H'.look q=none)->MixH p A N n' H':=λH' n' hle hk hw=>hM.later hle (λq b _ hq=>by
   rw[hk q (Nat.lt_of_not_le λh=>by rw[hwf0 q h]at hq;cases hq)];exact hq) (λj hj=>by
   obtain⟨es,q1,q2⟩:=hM.kept j hj;exact⟨es,by rw[hk _ (hM.lb j hj).2.2];exact q1,q2⟩) hw
 refine aE (λ(x:Nat×(Nat->Nat)×Heap×Nat) σ=>(fun τ : St=>{ τ with h:=x.2.2.1,nx:=x.2.2.2 }) (bP 75 (aA x.1) (aY [17,76,77,78,79,80,81,82,83] σ)))
  (λx=>(x.1<=m/\nn+1<=x.2.2.2)/\x.2.2.1.look nn=some (.row 48 1 [.lit (.slice none 0 0)] ((List.range m).map λj=>if j<x.1 then [.own (x.2.1 j)]else [.t (.lit (.slice none 0 0))]))/\(∀j,j<x.1->(nn<x.2.1 j/\x.2.1 j<x.2.2.2)/\x.2.2.1.look (x.2.1 j)=some (.row 76 1 (c16 0) (aS ((List.replicate N0 (0:Int)).map c16))))/\(∀j j',j<j'->j'<x.1->x.2.1 j<x.2.1 j') /\∀q,q<nn->x.2.2.1.look q=H.look q)
  (λx=>m-x.1) (0,(λ_=>0),(nn,.row 48 1 [.lit (.slice none 0 0)] ((List.range m).map λj=>if j<0 then [.own 0]else [.t (.lit (.slice none 0 0))]))::H,nn+1) ?_ ?_ ?_
 .have e:aS (List.replicate m [T.lit (.slice none 0 0)])=((List.range m).map λj=>if j<0 then [V.own 0]else [.t (.lit (.slice none 0 0))]):=by
   refine List.ext_getElem (by unfold aS;simp) λi h1 h2=>?_
   unfold aS;simp
  refine dD ⟨by rw[<-e],Nat.le_refl _,rfl,?_⟩;simp only[go_sem,seval]
 .refine⟨⟨Nat.zero_le _,Nat.le_refl _⟩,?_,λj hj=>absurd hj (by show ¬j<0;omega),λj j' _ hj=>absurd hj (by show ¬j'<0;omega),λq hq=>?_⟩
  .show Heap.look _ nn=_
   rw[Heap.look,if_pos rfl]
  .show Heap.look _ q=_
   rw[Heap.look,if_neg (by omega)]
 rintro⟨c,r,H1,n1⟩ ⟨⟨hc,hn1⟩,ho,hr,hord,hlo⟩;simp only at hc hn1 ho hr hord hlo;have eo:(nn=n1)=False:=eq_false (by omega);refine Gq λhwf1=>aB _ ?_
 simp only[go_sem,seval];refine⟨λhlt=>?_,λhge=>?_⟩
 .simp only[bxx]at hlt;have hcl:c<m:=by omega
  have hwc:IntKind.i64.wrap ((c:Int)+1)=((c+1:Nat):Int):=by rw[bJ (by omega)];omega
  unfold awS;simp only[go_sem,seval,ho,eo,List.length_map,List.length_range];have hL:∀B q,(H1.set nn B).look q=if q=nn then some B else H1.look q:=λB q=>Heap.look_set _ _ _ ho q
  refine⟨⟨by omega,by unfold maxLen;omega,by omega⟩,⟨by omega,by omega⟩,hcl,(c+1,(λj=>if j=c then n1 else r j),_,n1+1),dD ⟨rfl,Nat.le_refl _,rfl,?_⟩,⟨⟨by show c+1<=m;omega,by show nn+1<=n1+1;omega⟩,?_,λj hj=>?_,λj j' hjj hj=>?_,λq hq=>?_⟩,by show m-(c+1)<m-c;omega⟩
  .simp only[go_sem,seval,hwc]
  .show Heap.look _ nn=_
   rw[Heap.look,if_neg (by omega),hL,if_pos rfl];congr 2;refine rng_set (λj hj hne=>?_) (λ_=>?_)
   .show(if j<c then _ else _)=if j<c+1 then [V.own (if j=c then n1 else r j)]else _
    rw[if_neg hne]
    by_cases e:j<c
    .rw[if_pos e,if_pos (by omega)]
    .rw[if_neg e,if_neg (by omega)]
   .show _=if c<c+1 then [V.own (if c=c then n1 else r c)]else _
    rw[if_pos (by omega),if_pos rfl,aB6 hcl,if_neg (by omega)];rfl
  .have hj:j<c+1:=hj;show(nn<(if j=c then n1 else r j)/\(if j=c then n1 else r j)<n1+1)/\Heap.look _ (if j=c then n1 else r j)=_
   by_cases e:j=c
   .rw[if_pos e];refine⟨⟨by omega,by omega⟩,?_⟩;rw[Heap.look,if_pos rfl,List.map_replicate];rfl
   .rw[if_neg e];obtain⟨⟨q1,q2⟩,q3⟩:=hr j (by omega);refine⟨⟨q1,by omega⟩,?_⟩;rw[Heap.look,if_neg (by omega),hL,if_neg (by omega)];exact q3
  .have hj:j'<c+1:=hj;show(if j=c then n1 else r j)<(if j'=c then n1 else r j')
   rw[if_neg (by omega)]
   by_cases e:j'=c
   .rw[if_pos e];exact(hr j (by omega)).1.2
   .rw[if_neg e];exact hord j j' hjj (by omega)
  .show Heap.look _ q=_
   rw[Heap.look,if_neg (by omega),hL,if_neg (by omega)];exact hlo q hq
 .simp only[bxx]at hge;have hge:=hge;have:c=m:=by omega
  subst this;have ho:H1.look nn=some (.row 48 1 [.lit (.slice none 0 0)] ((List.range c).map λj=>[V.own (r j)])):=by
   rw[ho];congr 2;refine List.map_congr_left λj hj=>?_
   rw[if_pos (List.mem_range.1 hj)]
  unfold awS;simp only[go_sem,seval];refine aH (aB _ ?_);simp only[go_sem,seval];have hMx:MixH p A N n1 H1:=mixL H1 n1 (by omega) hlo hwf1;have k1:=(hlo 1 (by omega)).trans l1;have k2:=(hlo 2 (by omega)).trans l2;have offr:∀j,j<c->OffN p N (r j):=λj hj=>hM.off (by have:=(hr j hj).1.1;omega)
  have hrb:=λj (hj:j<c)=>(hr j hj).1
  have hrne:∀j j',j<c->j'<c->j≠j'->r j≠r j':=λj j' hj hj' hne=>by
   rcases Nat.lt_or_ge j j' with h|h
   .have:=hord j j' h hj';omega
   .have:=hord j' j (by omega) hj;omega
  refine aE (λ(x:Nat×List (List Int)×Heap×Nat) σ=>(fun τ : St=>{ τ with h:=x.2.2.1,nx:=x.2.2.2 }) (bP 85 (aA x.1) (aY [18,19,20,86,87,88,89,90,91,92,93,94,95,96,97,98,99,100,101,102,103,104,105,106,107,108,109,110] σ)))
   (λx=>(x.1<=N0/\dT p A i fr0 x.1=.ok x.2.1/\n1<=x.2.2.2)/\(x.2.2.1.look 1=some (.box [.t (.lit (.slice none 0 0))])/\x.2.2.1.look 2=some (.box [aA 0])/\x.2.2.1.look nn=some (.row 48 1 [.lit (.slice none 0 0)] ((List.range c).map λj=>[.own (r j)])))/\(∀j,j<c->x.2.2.1.look (r j)=some (.row 76 1 (c16 0) (aS ((Lu x.2.1 N0 j).map c16))))/\MixH p A N x.2.2.2 x.2.2.1)
   (λx=>N0-x.1) (0,[],H1,n1) ?_ ?_ ?_
  .refine dD ⟨rfl,Nat.le_refl _,rfl,?_⟩;simp only[go_sem,seval]
  .exact⟨⟨Nat.zero_le _,rfl,Nat.le_refl _⟩,⟨k1,k2,ho⟩,λj hj=>(hr j hj).2,hMx⟩
  rintro⟨k,L,H2,n2⟩ ⟨⟨hk,hL,hn2⟩,⟨j1,j2,jo⟩,hrows,hM2⟩;simp only at hk hL hn2 j1 j2 jo hrows hM2
  by_cases hkl:k<N0
  .have hltb:decide ((k:Int)<(N0:Int))=true:=decide_eq_true (by omega);have hwk:IntKind.i64.wrap ((k:Int)+1)=((k+1:Nat):Int):=by rw[bJ (by omega)];omega
   have wf:IntKind.i64.wrap (fr0+(k:Int))=fr0+k:=wrap64;have hLl:=nS hL;refine aH (aB _ ?_);simp only[go_sem,seval,hltb];refine aH (eS (b:=true) rfl ?_);rw[if_pos rfl];refine aB _ ?_;simp only[go_sem,seval];refine aH (wT (aH (aB _ ?_)));simp only[go_sem,seval];refine aH (aU 5 ?_);simp only[go_sem,seval,wf];refine semS_q rfl rfl ?_;simp only[go_sem,seval];refine dM (aBv hp hP hM2 hi (nestS hp hP N i) hau (fr0+k) (by omega) (by omega) ⟨λx hx h3 n3 hl3 hD3 hM3=>dC ?_,λe he h3 n3 hl3 hD3 hM3=>?_⟩)
   all_goals rw[<-sL]at *
   rotate_left
   .cases hsq:sM p A i (fr0+(k:Int))with
    |ok l=>rw[hsq]at he;cases he
    |error e2=>
     rw[hsq]at he;injection he with he;subst he;have hq1:dT p A i fr0 (k+1)=.error e2:=by
      unfold dT;rw[hL];dsimp only;rw[hsq]
     rw[tD hq1 N0 (by omega)]at hR;dsimp only at hR;rw[hR];have i1:=hD3 _ _ o1.dn j1;have i2:=hD3 _ _ o2.dn j2;have hn3:n2<=n3:=hl3;refine⟨_,_,rfl,aQ2 e2 (by decide) i1 i2 (by show 1<n3;omega) (by show 2<n3;omega) λh' nx' hle q1 q2=>⟨[.t (.lit (.slice none 0 0)),aA e2],?_,?_⟩⟩
     .simp only[go_sem,seval,q1,q2]
     .unfold nN;simp only[go_sem,seval];try exact⟨rfl,rfl⟩
   cases hsq:sM p A i (fr0+(k:Int))with
   |error e=>rw[hsq]at hx;cases hx
   |ok l=>
   rw[hsq]at hx;injection hx with hx;subst hx;have hq1:dT p A i fr0 (k+1)=.ok (L++[l]):=by
    unfold dT;rw[hL];dsimp only;rw[hsq]
   obtain⟨hll,hlb⟩:=hsl _ _ hsq;have hn3:n2<=n3:=hl3;have i1:=hD3 _ _ o1.dn j1;have i2:=hD3 _ _ o2.dn j2;have io:=hD3 _ _ (hM.off (Nat.le_refl _)).dn jo;have irow:=λj (hj:j<c)=>hD3 _ _ (offr j hj).dn (hrows j hj)
   clear j1 j2 jo hrows hM2 hD3;unfold aGb;simp only[go_sem,seval];have hMt:=MixH.top hM3 (k:=n3) (.box [aA (l.getD 0 0),aA (l.getD 1 0),aA (l.getD 2 0),aA (l.getD 3 0)]) (Nat.le_refl _);have up:∀q b,h3.look q=some b->Heap.look ((n3,.box [aA (l.getD 0 0),aA (l.getD 1 0),aA (l.getD 2 0),aA (l.getD 3 0)])::h3) q=some b:=λq b hq=>aN hM3.wf hq (Nat.le_refl _)
   have it:Heap.look ((n3,.box [aA (l.getD 0 0),aA (l.getD 1 0),aA (l.getD 2 0),aA (l.getD 3 0)])::h3) n3=some (.box [aA (l.getD 0 0),aA (l.getD 1 0),aA (l.getD 2 0),aA (l.getD 3 0)]):=by rw[Heap.look,if_pos rfl]
   have i1:=up _ _ i1;have i2:=up _ _ i2;have io:=up _ _ io;have irow:=λj (hj:j<c)=>up _ _ (irow j hj)
   clear up;generalize((n3,Blk.box [aA (l.getD 0 0),aA (l.getD 1 0),aA (l.getD 2 0),aA (l.getD 3 0)])::h3:Heap)=H4 at*;refine aH (aB _ ?_);simp only[go_sem,seval,io,List.length_map,List.length_range];refine aB _ ?_;simp only[go_sem,seval];refine aE (λ(x:Nat×Heap×Nat) σ=>(fun τ : St=>{ τ with h:=x.2.1,nx:=x.2.2 }) (bP 96 (aA x.1) (aY [20,97,98,99,100,101,102,103,104,105,106,107,108,109] σ)))
    (λx=>(x.1<=c/\n3+1<=x.2.2)/\(x.2.1.look 1=some (.box [.t (.lit (.slice none 0 0))])/\x.2.1.look 2=some (.box [aA 0])/\x.2.1.look nn=some (.row 48 1 [.lit (.slice none 0 0)] ((List.range c).map λj=>[.own (r j)]))/\x.2.1.look n3=some (.box [aA (l.getD 0 0),aA (l.getD 1 0),aA (l.getD 2 0),aA (l.getD 3 0)]))/\(∀j,j<c->x.2.1.look (r j)=some (.row 76 1 (c16 0) (aS ((Lu (if j<x.1 then L++[l]else L) N0 j).map c16))))/\MixH p A N x.2.2 x.2.1)
    (λx=>c-x.1) (0,H4,n3+1) ?_ ?_ ?_
   .refine dD ⟨rfl,Nat.le_refl _,rfl,?_⟩;simp only[go_sem,seval]
   .exact⟨⟨Nat.zero_le _,Nat.le_refl _⟩,⟨i1,i2,io,it⟩,irow,hMt⟩
   clear i1 i2 io it irow hMt;rintro⟨q,H5,n5⟩ ⟨⟨hq,hn5⟩,⟨i1,i2,io,it⟩,irow,hMt⟩;simp only at hq hn5 i1 i2 io it irow hMt;refine aB _ ?_;simp only[go_sem,seval];refine⟨λhlt2=>?_,λhge2=>?_⟩
   .simp only[bxx]at hlt2;have hqc:q<c:=by omega
    have hrq:=irow q hqc;rw[if_neg (by omega)]at hrq;obtain⟨q',hq'⟩:∃q',q'=q+1:=⟨_,rfl⟩
    have hwq:IntKind.i64.wrap ((q:Int)+1)=(q':Int):=by rw[bJ (by omega)];omega
    have hnv:=λd=>aB6 hqc d (λj=>[V.own (r j)])
    have hlq : -32768<=l.getD q 0/\l.getD q 0<=32767:=hlb _ (aW (by omega));have w16:=Xh hlq.1 hlq.2;have hcs:=aSa (L:=L) (N:=N0) q (by omega) l;have hcl:=aSb (L:=L) (N:=N0) q (by omega);rw[hLl]at hcs;have ww1:IntKind.i64.wrap 1=1:=by decide
    have ww2:IntKind.i64.wrap 2=2:=by decide
    have ww3:IntKind.i64.wrap 3=3:=by decide
    have hrqb:=hrb q hqc;generalize hlv:l.getD q 0=lv at*;generalize hrv:r q=rq at*;unfold awS;simp only[go_sem,seval];have hset:(aS ((Lu L N0 q).map c16)).set k [V.t (.lit (.int .i16 lv))]=aS ((Lu (L++[l]) N0 q).map c16):=by
     rw[<-hcs];unfold aS;rw[List.map_set,List.map_set];rfl
    obtain⟨Q,hQ⟩:∃Q,Q=q:=⟨_,rfl⟩
    rw[<-hQ]at hrv hqc;have offq:OffN p N rq:=by rw[<-hrv];exact offr Q hqc
    have hother:∀j,j<c->j≠Q->r j≠rq:=λj hj hne=>by rw[<-hrv];exact hrne j Q hj hqc hne
    have hLq:∀B s,(H5.set rq B).look s=if s=rq then some B else H5.look s:=λB s=>Heap.look_set _ _ _ hrq s
    obtain rfl|rfl|rfl|rfl:q=0\/q=1\/q=2\/q=3:=by omega
    all_goals
     refine aQ 11 .done (h:=?_);simp only[go_sem,seval,ww1,ww2,ww3,io,it,hrq,hnv,hlv,w16,List.length_map,List.length_range,hcl];refine⟨by omega,by omega,⟨by omega,by omega⟩,hkl,jL ?_,?_⟩
     .simp only[gB,jG,cC (show rq<n5 by omega),cC (show n3<n5 by omega),cC (show nn<n5 by omega)];show vJ _ _ _=true
      kernel_rfl
     rw[hset];refine⟨(q',_,_),dD ⟨rfl,Nat.le_refl _,rfl,?_⟩,⟨⟨by show q'<=c;omega,?_⟩,⟨?_,?_,?_,?_⟩,λj hj=>?_,MixH.nx (MixH.put hMt offq hrq _) ?_⟩,by show c-q'<c-_;omega⟩
     .simp only[go_sem,seval]
      all_goals
       subst hq';rfl
     .exact Nat.le_trans hn5 (Nat.le_add_right _ _)
     .rw[hLq,if_neg (by omega)];exact i1
     .rw[hLq,if_neg (by omega)];exact i2
     .rw[hLq,if_neg (by omega)];exact io
     .rw[hLq,if_neg (by omega),<-hlv];exact it
     .show(H5.set rq _).look (r j)=some (.row _ _ _ (aS ((Lu (if j<q' then L++[l]else L) N0 j).map c16)))
      by_cases e:j=Q
      .subst e;rw[hrv,hLq,if_pos rfl,if_pos (by omega)];subst hQ;rfl
      .rw[hLq,if_neg (hother j hj e),irow j hj]
       by_cases e2:j<q'
       .rw[if_pos e2,if_pos (by omega)]
       .rw[if_neg e2,if_neg (by omega)]
     .exact Nat.le_add_right _ _
   .simp only[bxx]at hge2;have hqc:q=c:=by omega
    subst hqc;unfold awS;simp only[go_sem,seval];refine aB _ ?_;simp only[go_sem,seval,hwk];refine⟨(k+1,L++[l],H5,n5),dD ⟨rfl,Nat.le_refl _,rfl,?_⟩,⟨⟨by show k+1<=_;omega,hq1,by show n1<=n5;omega⟩,⟨i1,i2,io⟩,λj hj=>?_,hMt⟩,by show N0-(k+1)<N0-k;omega⟩
    .simp only[go_sem,seval]
    .have:=irow j hj;rw[if_pos hj]at this;exact this
  .have hkN:k=N0:=by omega
   subst hkN;have hltb:decide ((k:Int)<(k:Int))=false:=decide_eq_false (by omega);rw[hL]at hR;dsimp only at hR;have hLl:=nS hL;have hcol:∀j,Lu L k j=L.map λl=>l.getD j 0:=λj=>by
    unfold Lu;rw[hLl,Nat.sub_self,List.replicate_zero,List.append_nil]
   simp only[hcol]at hrows;refine aH (aB _ ?_);simp only[go_sem,seval,hltb];refine aH (eS (b:=false) rfl ?_);rw[if_neg (by decide)];refine aB _ ?_;simp only[go_sem,seval];clear L1 L2 L3;have L1:∀B,(H2.set 1 B).look 2=some (.box [aA 0]):=λB=>by rw[Heap.look_set _ _ _ j1,if_neg (by decide)];exact j2
   have L2:∀B C,((H2.set 1 B).set 2 C).look 1=some B:=λB C=>by rw[Heap.look_set _ _ _ (L1 B),if_neg (by decide),Heap.look_set _ _ _ j1,if_pos rfl]
   have L3:∀B C,((H2.set 1 B).set 2 C).look 2=some C:=λB C=>by rw[Heap.look_set _ _ _ (L1 B),if_pos rfl]
   have L4:∀B C q,2<q->((H2.set 1 B).set 2 C).look q=H2.look q:=λB C q hq=>by rw[Heap.look_set _ _ _ (L1 B),if_neg (by omega),Heap.look_set _ _ _ j1,if_neg (by omega)]
   have lo:=λB C=>(L4 B C nn (by omega)).trans jo
   have lr:=λB C j (hj:j<c)=>(L4 B C (r j) (by have:=(hrb j hj).1;omega)).trans (hrows j hj)
   rw[hR];refine aB _ ?_;simp only[go_sem,seval,j1,L1];have p1:=L2 (.box [V.own nn]) (.box [aA 0]);have p2:=L3 (.box [V.own nn]) (.box [aA 0]);have po:=lo (.box [V.own nn]) (.box [aA 0]);have pr:=lr (.box [V.own nn]) (.box [aA 0]);clear L1 L2 L3 L4 lo lr;generalize(H2.set 1 (.box [V.own nn])).set 2 (.box [aA 0])=H6 at*;obtain rfl|rfl|rfl|rfl|rfl:c=0\/c=1\/c=2\/c=3\/c=4:=by omega
   .have po:H6.look nn=some (.row 48 1 [.lit (.slice none 0 0)] []):=po;have eR:nN (.ok ((List.range 0).map λc=>L.map λl=>l.getD c 0))=.tup [.t (pY []),aA 0]:=rfl;rw[eR];unfold Lm;simp only[go_sem,dtf,seval,p1,p2,po];exact⟨mS,rfl⟩
   .have po:H6.look nn=some (.row 48 1 [.lit (.slice none 0 0)] [[V.own (r 0)]]):=po;have pr0:=pr 0 (by omega);have eR:nN (.ok ((List.range 1).map λc=>L.map λl=>l.getD c 0))=.tup [.t (pY [(L.map λl=>l.getD 0 0)]),aA 0]:=rfl;rw[eR];unfold Lm;simp only[go_sem,dtf,seval,p1,p2,po,pr0];exact⟨mS,rfl⟩
   .have po:H6.look nn=some (.row 48 1 [.lit (.slice none 0 0)] [[V.own (r 0)],[V.own (r 1)]]):=po;have pr0:=pr 0 (by omega);have pr1:=pr 1 (by omega);have eR:nN (.ok ((List.range 2).map λc=>L.map λl=>l.getD c 0))=.tup [.t (pY [(L.map λl=>l.getD 0 0),(L.map λl=>l.getD 1 0)]),aA 0]:=rfl;rw[eR];unfold Lm;simp only[go_sem,dtf,seval,p1,p2,po,pr0,pr1];exact⟨mS,rfl⟩
   .have po:H6.look nn=some (.row 48 1 [.lit (.slice none 0 0)] [[V.own (r 0)],[V.own (r 1)],[V.own (r 2)]]):=po;have pr0:=pr 0 (by omega);have pr1:=pr 1 (by omega);have pr2:=pr 2 (by omega);have eR:nN (.ok ((List.range 3).map λc=>L.map λl=>l.getD c 0))=.tup [.t (pY [(L.map λl=>l.getD 0 0),(L.map λl=>l.getD 1 0),(L.map λl=>l.getD 2 0)]),aA 0]:=rfl;rw[eR];unfold Lm;simp only[go_sem,dtf,seval,p1,p2,po,pr0,pr1,pr2];exact⟨mS,rfl⟩
   .have po:H6.look nn=some (.row 48 1 [.lit (.slice none 0 0)] [[V.own (r 0)],[V.own (r 1)],[V.own (r 2)],[V.own (r 3)]]):=po;have pr0:=pr 0 (by omega);have pr1:=pr 1 (by omega);have pr2:=pr 2 (by omega);have pr3:=pr 3 (by omega);have eR:nN (.ok ((List.range 4).map λc=>L.map λl=>l.getD c 0))=.tup [.t (pY [(L.map λl=>l.getD 0 0),(L.map λl=>l.getD 1 0),(L.map λl=>l.getD 2 0),(L.map λl=>l.getD 3 0)]),aA 0]:=rfl;rw[eR];unfold Lm;simp only[go_sem,dtf,seval,p1,p2,po,pr0,pr1,pr2,pr3];exact⟨mS,rfl⟩
def fT(e:Ev (List (List Int))):T:=
 match e with
 | .ok l=>pY l
 | .error _=> .lit (.slice none 0 0)
def errR(e:Ev (List (List Int))):Int:=
 match e with
 | .ok _=>0
 | .error n=>n
theorem resR_eq(e:Ev (List (List Int))):nN e=.tup [.t (fT e),aA (errR e)]:=by cases e<;>rfl
theorem aSk:aL Tryz.prog 12 [.t (.lit (.slice none 0 0)),.t (.lit (.slice none 0 0))] (aR true):=by
 refine aF Tryz.X12 Tryz.func12 rfl Tryz.ntmps12 (by rw[Tryz.results12]) (aB _ ?_);simp only[go_sem,seval];refine bC ?_;refine aK (aB _ ?_);simp only[go_sem,dtf,seval]
theorem aEj{p:ProjR}(h:p.fit){A:List AudioR}{name:ByteArray}{fr0 n:Int}{l:List (List Int)}(hs:pZ p A name fr0 n=.ok l):l.length<=4 /\∀q∈l,q.length<=1048576:=by
 unfold pZ at hs;split at hs
 .cases hs
 .rename_i hv;have hp:=Ym h (by simpa using hv);split at hs
  .cases hs
  .split at hs
   .cases hs
   .split at hs
    .cases hs
    .split at hs
     .cases hs
     .split at hs
      .cases hs
      .split at hs
       .cases hs
       .rename_i L hL;injection hs with hs;subst hs;rw[List.length_map,List.length_range];refine⟨aSd hp _,λq hq=>?_⟩;obtain⟨c,_,rfl⟩:=List.mem_map.1 hq;rw[List.length_map,nS hL];omega
theorem cSameR{p:ProjR}(h:p.fit)(A:List AudioR)(name:ByteArray)(fr0 n:Int):aL Tryz.prog 12 [.t (fT (pZ p A name fr0 n)),.t (fT (pZ p A name fr0 n))] (aR true):=by
 cases hs:pZ p A name fr0 n with
 |error e=>exact aSk
 |ok l=>
  obtain⟨h1,h2⟩:=aEj h hs;exact Mm l (by omega) h2
def cueLines:List ByteArray:=[⟨#[72,101,108,108,111,46]⟩,⟨#[111,110,101,32,116,119,111,32,116,104,114,101,101]⟩,⟨#[120]⟩,⟨#[45,32,87,104,97,116,63,32,45,32,78,111,116,104,105,110,103,44,32,110,111,116,104,105,110,103,32,97,116,32,97,108,108,46]⟩]
def Rr(L:List Int)(k:Nat):ByteArray:=cueLines.getD (aD L k 4).toNat ⟨#[]⟩
def pH(L:List Int)(k:Nat):CueR×Nat:=
 if aD L (k+2) 2=0 then (⟨aD L k 50,aD L k 50+1+aD L (k+1) 20,[Rr L (k+3)]⟩,k+4)
 else (⟨aD L k 50,aD L k 50+1+aD L (k+1) 20,[Rr L (k+3),Rr L (k+4)]⟩,k+5)
theorem cCue(L:List Int)(k:Nat)(hk:k<=900000):
  yE Tryz.prog 16 [.t (cM L),aA k] [] (vcue (pH L k).1) [.t (cM L),aA ((pH L k).2:Int)]:=by
 refine rG Tryz.X16 Tryz.func16 rfl Tryz.ntmps16 (by rw[Tryz.results16]) (aB _ ?_);simp only[go_sem,seval];refine aP (bR L k 50) rfl rfl rfl ?_;have n50:=aG (L:=L) (k:=k) (n:=50);simp only[go_sem,seval,wrap64 (x:=aD L k 50+1)];refine aP (bR L (k+1) 20) rfl rfl rfl ?_;have n20:=aG (L:=L) (k:=k+1) (n:=20);simp only[go_sem,seval,wrap64 (x:=aD L k 50+1+aD L (k+1) 20)];refine aP (bR L (k+2) 2) rfl rfl rfl ?_;have n2:=aG (L:=L) (k:=k+2) (n:=2);have v1:IntKind.i64.wrap 1=1:=by decide
 have v2:IntKind.i64.wrap 2=2:=by decide
 have m34:decide (34<=maxLen)=true:=by decide
 have v0:IntKind.i64.wrap 0=0:=by decide
 by_cases h2:aD L (k+2) 2=0
 .have e:pH L k=(⟨aD L k 50,aD L k 50+1+aD L (k+1) 20,[Rr L (k+3)]⟩,k+4):=by unfold pH;rw[if_pos h2]
  rw[e];simp only[go_sem,seval,h2,v1];refine bC ?_;refine aK (aB _ ?_);simp only[go_sem,dtf,seval];refine aQ 11 .done (h:=?_);simp only[go_sem,seval,m34];refine gZ (bR L (k+2+1) 4) rfl rfl rfl ?_;have c4:=aG (L:=L) (k:=k+2+1) (n:=4);simp only[go_sem,seval];refine⟨⟨by omega,by omega⟩,by omega,by decide,by kernel_rfl,?_⟩;refine aK (aB _ ?_);simp only[go_sem,dtf,seval,v0]<;>rfl
 .have h2':aD L (k+2) 2=1:=by omega
  have e:pH L k=(⟨aD L k 50,aD L k 50+1+aD L (k+1) 20,[Rr L (k+3),Rr L (k+4)]⟩,k+5):=by unfold pH;rw[if_neg h2]
  rw[e];simp only[go_sem,seval,h2',v2];refine bC ?_;refine aK (aB _ ?_);simp only[go_sem,dtf,seval];refine aQ 11 .done (h:=?_);simp only[go_sem,seval,m34];refine gZ (bR L (k+2+1) 4) rfl rfl rfl ?_;have c4:=aG (L:=L) (k:=k+2+1) (n:=4);simp only[go_sem,seval];refine⟨⟨by omega,by omega⟩,by omega,by decide,by kernel_rfl,?_⟩;refine aK (aB _ ?_);simp only[go_sem,dtf,seval,v1];refine aQ 11 .done (h:=?_);simp only[go_sem,seval,m34];refine gZ (bR L (k+2+1+1) 4) rfl rfl rfl ?_;have c4:=aG (L:=L) (k:=k+2+1+1) (n:=4);simp only[go_sem,seval];refine⟨⟨by omega,by omega⟩,by omega,by decide,by kernel_rfl,?_⟩;refine aK (aB _ ?_);simp only[go_sem,dtf,seval,v0]<;>rfl
def sKinds:List Int:=[1,1,0,2]
def sGains:List Int:=[4096,4096,2048,0,8192,5000]
def gP(s:SourceR):SourceR:={ s with smooth:=false }
def kC(L:List Int)(k:Nat)(m s:Int):ClipR×Nat:=
 let len:=1+aD L k 9
 let kind:=sKinds.getD (aD L (k+1) 4).toNat 0
 if kind=0 then (⟨len,0,zSource,zSource,0,0,0,⟨#[]⟩,0,[]⟩,k+2)
 else
  let a:=bM L (k+2) m s
  if kind=2 then
   let b:=bM L a.2 m s
   let off:=aD L b.2 3
   let total:=off+len+aD L (b.2+1) 3
   (⟨len,kind,gP a.1,gP b.1,off,total,0,⟨#[]⟩,sGains.getD (aD L (b.2+2) 6).toNat 0,[aD L (b.2+3) 4-1,aD L (b.2+4) 4-1]⟩,b.2+5)
  else (⟨len,kind,gP a.1,zSource,0,0,0,⟨#[]⟩,sGains.getD (aD L a.2 6).toNat 0,[aD L (a.2+1) 4-1,aD L (a.2+2) 4-1]⟩,a.2+3)
def Mu(c:ClipR):V:=if c.chan=[]then aE7 c else kJ c
theorem Sg(c:ClipR):∀(w:World) (E:Env) v,RdV w E (Mu c) v->RdV w E (kJ c) v:=by
 intro w E v h;unfold Mu at h;split at h
 .rename_i hc;exact aDy hc w E v h
 .exact h
theorem cSoundZ(L:List Int)(k:Nat)(m s:Int)(hk:k<=800000)(hm:0<=m/\m<=9)(hs:0<=s/\s<=9):
  yE Tryz.prog 18 [.t (cM L),aA k] [aA m,aA s,aA 2] (Mu (kC L k m s).1) [.t (cM L),aA ((kC L k m s).2:Int)]:=by
 refine rG Tryz.X18 Tryz.func18 rfl Tryz.ntmps18 (by rw[Tryz.results18]) (aB _ ?_);simp only[go_sem,seval];refine aP (bR L k 9) rfl rfl rfl ?_;have n9:=aG (L:=L) (k:=k) (n:=9);simp only[go_sem,seval,wrap64 (x:=1+aD L k 9)];refine aP (bR L (k+1) 4) rfl rfl rfl ?_;have n4:=aG (L:=L) (k:=k+1) (n:=4);simp only[go_sem,seval];refine⟨⟨by omega,by omega⟩,by omega,?_⟩;obtain⟨kd,hkd⟩:∃kd,sKinds.getD (aD L (k+1) 4).toNat 0=kd:=⟨_,rfl⟩
 have hkd':=hkd;unfold sKinds at hkd';rw[hkd'];have hl0:1<=1+aD L k 9/\1+aD L k 9<=9:=by omega
 generalize hlen:1+aD L k 9=len at hl0;refine⟨λh0=>?_,λh0=>?_⟩
 .have e0:kd=0:=by simpa using h0
  have e:kC L k m s=(⟨len,0,zSource,zSource,0,0,0,⟨#[]⟩,0,[]⟩,k+2):=by unfold kC;simp only[hkd,hlen,e0,if_true]
  rw[e];unfold awS;simp only[go_sem,seval];rw[e0];exact⟨rfl,rfl⟩
 .have e0 : ¬kd=0:=by simpa using h0
  unfold awS;simp only[go_sem,seval];refine aP (rH L (k+2) m s (by omega) hm hs) rfl rfl rfl ?_;obtain⟨⟨a,ka⟩,ha⟩:∃a,bM L (k+2) m s=a:=⟨_,rfl⟩
  have hka:=gE L (k+2) m s;rw[ha]at hka⊢;simp only at hka;have hk5:kd=1\/kd=2:=by
   have:(aD L (k+1) 4).toNat=0\/(aD L (k+1) 4).toNat=1\/(aD L (k+1) 4).toNat=2\/(aD L (k+1) 4).toNat=3:=by omega
   rcases this with h|h|h|h<;>rw[h]at hkd'<;>simp at hkd'<;>omega
  clear hkd';rcases hk5 with rfl|rfl
  .have e:kC L k m s=(⟨len,1,gP a,zSource,0,0,0,⟨#[]⟩,sGains.getD (aD L ka 6).toNat 0,[aD L (ka+1) 4-1,aD L (ka+2) 4-1]⟩,ka+3):=by unfold kC;simp only[hkd,hlen,ha];first|rfl|simp
   rw[e];simp only[go_sem,seval];have v1:IntKind.i64.wrap 1=1:=by decide
   have v2:IntKind.i64.wrap 2=2:=by decide
   refine aP (bR L ka 6) rfl rfl rfl ?_;have n6:=aG (L:=L) (k:=ka) (n:=6);simp only[go_sem,seval];refine⟨⟨by omega,by omega⟩,by omega,?_⟩;have hgn:[4096,4096,2048,0,8192,5000].getD (aD L ka 6).toNat 0=sGains.getD (aD L ka 6).toNat 0:=rfl;rw[hgn];generalize sGains.getD (aD L ka 6).toNat 0=gn;refine bC ?_;refine aK (aB _ ?_);simp only[go_sem,dtf,seval];refine aQ 9 .done (h:=?_);simp only[go_sem,seval];refine gZ (bR L (ka+1) 4) rfl rfl rfl ?_;have c4:=aG (L:=L) (k:=ka+1) (n:=4);simp only[go_sem,seval,wrap64 (x:=aD L (ka+1) 4-1)];refine⟨by decide,by kernel_rfl,?_⟩;refine aK (aB _ ?_);simp only[go_sem,dtf,seval,v1];refine aQ 9 .done (h:=?_);simp only[go_sem,seval];refine gZ (bR L (ka+2) 4) rfl rfl rfl ?_;have d4:=aG (L:=L) (k:=ka+2) (n:=4);simp only[go_sem,seval,wrap64 (x:=aD L (ka+2) 4-1)];refine⟨by decide,by kernel_rfl,?_⟩;refine aK (aB _ ?_);simp only[go_sem,dtf,seval,v2];exact⟨rfl,rfl⟩
  .have e:kC L k m s=(let b:=bM L ka m s; (⟨len,2,gP a,gP b.1,aD L b.2 3,aD L b.2 3+len+aD L (b.2+1) 3,0,⟨#[]⟩,sGains.getD (aD L (b.2+2) 6).toNat 0,[aD L (b.2+3) 4-1,aD L (b.2+4) 4-1]⟩,b.2+5)):=by unfold kC;simp only[hkd,hlen,ha];first|rfl|simp
   rw[e];simp only[go_sem,seval];refine aP (rH L ka m s (by omega) hm hs) rfl rfl rfl ?_;obtain⟨⟨b,kb⟩,hb⟩:∃b,bM L ka m s=b:=⟨_,rfl⟩
   have hkb:=gE L ka m s;rw[hb]at hkb⊢;simp only at hkb;simp only[go_sem,seval];refine aP (bR L kb 3) rfl rfl rfl ?_;have o3:=aG (L:=L) (k:=kb) (n:=3);simp only[go_sem,seval];refine aQ 10 .done (h:=?_);simp only[go_sem,seval];refine gZ (bR L (kb+1) 3) rfl rfl rfl ?_;have p3:=aG (L:=L) (k:=kb+1) (n:=3);simp only[go_sem,seval,wrap64 (x:=aD L kb 3+len),wrap64 (x:=aD L kb 3+len+aD L (kb+1) 3)];refine⟨by kernel_rfl,?_⟩;have v1:IntKind.i64.wrap 1=1:=by decide
   have v2:IntKind.i64.wrap 2=2:=by decide
   refine aP (bR L (kb+2) 6) rfl rfl rfl ?_;have n6:=aG (L:=L) (k:=(kb+2)) (n:=6);simp only[go_sem,seval];refine⟨⟨by omega,by omega⟩,by omega,?_⟩;have hgn:[4096,4096,2048,0,8192,5000].getD (aD L (kb+2) 6).toNat 0=sGains.getD (aD L (kb+2) 6).toNat 0:=rfl;rw[hgn];generalize sGains.getD (aD L (kb+2) 6).toNat 0=gn;refine bC ?_;refine aK (aB _ ?_);simp only[go_sem,dtf,seval];refine aQ 9 .done (h:=?_);simp only[go_sem,seval];refine gZ (bR L ((kb+2)+1) 4) rfl rfl rfl ?_;have c4:=aG (L:=L) (k:=(kb+2)+1) (n:=4);simp only[go_sem,seval,wrap64 (x:=aD L ((kb+2)+1) 4-1)];refine⟨by decide,by kernel_rfl,?_⟩;refine aK (aB _ ?_);simp only[go_sem,dtf,seval,v1];refine aQ 9 .done (h:=?_);simp only[go_sem,seval];refine gZ (bR L ((kb+2)+2) 4) rfl rfl rfl ?_;have d4:=aG (L:=L) (k:=(kb+2)+2) (n:=4);simp only[go_sem,seval,wrap64 (x:=aD L ((kb+2)+2) 4-1)];refine⟨by decide,by kernel_rfl,?_⟩;refine aK (aB _ ?_);simp only[go_sem,dtf,seval,v2];exact⟨rfl,rfl⟩
theorem aAq(L:List Int)(k:Nat)(m s:Int)(hm:m<=9)(hs:s<=9):(kC L k m s).1.fit:=by
 have n9:=aG (L:=L) (k:=k) (n:=9);obtain⟨_,fa⟩:=gD L (k+2) m s hm hs;obtain⟨_,fb⟩:=gD L (bM L (k+2) m s).2 m s hm hs;have o3:=aG (L:=L) (k:=(bM L (bM L (k+2) m s).2 m s).2) (n:=3);have p3:=aG (L:=L) (k:=(bM L (bM L (k+2) m s).2 m s).2+1) (n:=3);have hk:∀i:Nat,-1000000<=sKinds.getD i 0/\sKinds.getD i 0<=1000000:=λi=>by
  rcases i with _|_|_|_|i<;>simp[sKinds]
 have hg:∀i:Nat,-1000000<=sGains.getD i 0/\sGains.getD i 0<=1000000:=λi=>by
  rcases i with _|_|_|_|_|_|i<;>simp[sGains]
 have hl:I64 (1+aD L k 9):=bU (by omega) (by omega);have qf:∀s:SourceR,s.fit->(gP s).fit:=λs h=>⟨h.kind,h.pos,h.speed⟩
 unfold kC;simp only;split
 .exact⟨hl,i0,Cv,Cv,i0,i0,i0,i0⟩
 .split
  .exact⟨hl,bU (hk _).1 (hk _).2,qf _ fa,qf _ fb,bU (by simp only;omega) (by simp only;omega),bU (by simp only;omega) (by simp only;omega),i0,bU (hg _).1 (hg _).2⟩
  .exact⟨hl,bU (hk _).1 (hk _).2,qf _ fa,Cv,i0,i0,i0,bU (hg _).1 (hg _).2⟩
def gG(L:List Int)(k:Nat)(m s:Int):ClipR×Nat:=
 let len:=1+aD L k 9
 let kind:=sKinds.getD (aD L (k+1) 4).toNat 0
 if kind=0 then (⟨len,0,zSource,zSource,0,0,0,⟨#[]⟩,0,[]⟩,k+2)
 else
  let a:=bM L (k+2) m s
  if kind=2 then
   let b:=bM L a.2 m s
   let off:=aD L b.2 3
   let total:=off+len+aD L (b.2+1) 3
   (⟨len,kind,gP a.1,gP b.1,off,total,0,⟨#[]⟩,sGains.getD (aD L (b.2+2) 6).toNat 0,[]⟩,b.2+3)
  else (⟨len,kind,gP a.1,zSource,0,0,0,⟨#[]⟩,sGains.getD (aD L a.2 6).toNat 0,[]⟩,a.2+1)
theorem aSh(L:List Int)(k:Nat)(m s:Int)(hk:k<=800000)(hm:0<=m/\m<=9)(hs:0<=s/\s<=9):
  yE Tryz.prog 18 [.t (cM L),aA k] [aA m,aA s,aA 0] (Mu (gG L k m s).1) [.t (cM L),aA ((gG L k m s).2:Int)]:=by
 refine rG Tryz.X18 Tryz.func18 rfl Tryz.ntmps18 (by rw[Tryz.results18]) (aB _ ?_);simp only[go_sem,seval];refine aP (bR L k 9) rfl rfl rfl ?_;have n9:=aG (L:=L) (k:=k) (n:=9);simp only[go_sem,seval,wrap64 (x:=1+aD L k 9)];refine aP (bR L (k+1) 4) rfl rfl rfl ?_;have n4:=aG (L:=L) (k:=k+1) (n:=4);simp only[go_sem,seval];refine⟨⟨by omega,by omega⟩,by omega,?_⟩;obtain⟨kd,hkd⟩:∃kd,sKinds.getD (aD L (k+1) 4).toNat 0=kd:=⟨_,rfl⟩
 have hkd':=hkd;unfold sKinds at hkd';rw[hkd'];have hl0:1<=1+aD L k 9/\1+aD L k 9<=9:=by omega
 generalize hlen:1+aD L k 9=len at hl0;refine⟨λh0=>?_,λh0=>?_⟩
 .have e0:kd=0:=by simpa using h0
  have e:gG L k m s=(⟨len,0,zSource,zSource,0,0,0,⟨#[]⟩,0,[]⟩,k+2):=by unfold gG;simp only[hkd,hlen,e0,if_true]
  rw[e];unfold awS;simp only[go_sem,seval];rw[e0];exact⟨rfl,rfl⟩
 .have e0 : ¬kd=0:=by simpa using h0
  unfold awS;simp only[go_sem,seval];refine aP (rH L (k+2) m s (by omega) hm hs) rfl rfl rfl ?_;obtain⟨⟨a,ka⟩,ha⟩:∃a,bM L (k+2) m s=a:=⟨_,rfl⟩
  have hka:=gE L (k+2) m s;rw[ha]at hka⊢;simp only at hka;have hk5:kd=1\/kd=2:=by
   have:(aD L (k+1) 4).toNat=0\/(aD L (k+1) 4).toNat=1\/(aD L (k+1) 4).toNat=2\/(aD L (k+1) 4).toNat=3:=by omega
   rcases this with h|h|h|h<;>rw[h]at hkd'<;>simp at hkd'<;>omega
  clear hkd';rcases hk5 with rfl|rfl
  .have e:gG L k m s=(⟨len,1,gP a,zSource,0,0,0,⟨#[]⟩,sGains.getD (aD L ka 6).toNat 0,[]⟩,ka+1):=by unfold gG;simp only[hkd,hlen,ha];first|rfl|simp
   rw[e];simp only[go_sem,seval];have v1:IntKind.i64.wrap 1=1:=by decide
   have v2:IntKind.i64.wrap 2=2:=by decide
   refine aP (bR L ka 6) rfl rfl rfl ?_;have n6:=aG (L:=L) (k:=ka) (n:=6);simp only[go_sem,seval];refine⟨⟨by omega,by omega⟩,by omega,?_⟩;have hgn:[4096,4096,2048,0,8192,5000].getD (aD L ka 6).toNat 0=sGains.getD (aD L ka 6).toNat 0:=rfl;rw[hgn];generalize sGains.getD (aD L ka 6).toNat 0=gn;refine bC ?_;refine aK (aB _ ?_);simp only[go_sem,dtf,seval];exact⟨rfl,rfl⟩
  .have e:gG L k m s=(let b:=bM L ka m s; (⟨len,2,gP a,gP b.1,aD L b.2 3,aD L b.2 3+len+aD L (b.2+1) 3,0,⟨#[]⟩,sGains.getD (aD L (b.2+2) 6).toNat 0,[]⟩,b.2+3)):=by unfold gG;simp only[hkd,hlen,ha];first|rfl|simp
   rw[e];simp only[go_sem,seval];refine aP (rH L ka m s (by omega) hm hs) rfl rfl rfl ?_;obtain⟨⟨b,kb⟩,hb⟩:∃b,bM L ka m s=b:=⟨_,rfl⟩
   have hkb:=gE L ka m s;rw[hb]at hkb⊢;simp only at hkb;simp only[go_sem,seval];refine aP (bR L kb 3) rfl rfl rfl ?_;have o3:=aG (L:=L) (k:=kb) (n:=3);simp only[go_sem,seval];refine aQ 10 .done (h:=?_);simp only[go_sem,seval];refine gZ (bR L (kb+1) 3) rfl rfl rfl ?_;have p3:=aG (L:=L) (k:=kb+1) (n:=3);simp only[go_sem,seval,wrap64 (x:=aD L kb 3+len),wrap64 (x:=aD L kb 3+len+aD L (kb+1) 3)];refine⟨by kernel_rfl,?_⟩;have v1:IntKind.i64.wrap 1=1:=by decide
   have v2:IntKind.i64.wrap 2=2:=by decide
   refine aP (bR L (kb+2) 6) rfl rfl rfl ?_;have n6:=aG (L:=L) (k:=(kb+2)) (n:=6);simp only[go_sem,seval];refine⟨⟨by omega,by omega⟩,by omega,?_⟩;have hgn:[4096,4096,2048,0,8192,5000].getD (aD L (kb+2) 6).toNat 0=sGains.getD (aD L (kb+2) 6).toNat 0:=rfl;rw[hgn];generalize sGains.getD (aD L (kb+2) 6).toNat 0=gn;refine bC ?_;refine aK (aB _ ?_);simp only[go_sem,dtf,seval];exact⟨rfl,rfl⟩
theorem Xy(L:List Int)(k:Nat)(m s:Int)(hm:m<=9)(hs:s<=9):(gG L k m s).1.fit:=by
 have n9:=aG (L:=L) (k:=k) (n:=9);obtain⟨_,fa⟩:=gD L (k+2) m s hm hs;obtain⟨_,fb⟩:=gD L (bM L (k+2) m s).2 m s hm hs;have o3:=aG (L:=L) (k:=(bM L (bM L (k+2) m s).2 m s).2) (n:=3);have p3:=aG (L:=L) (k:=(bM L (bM L (k+2) m s).2 m s).2+1) (n:=3);have hk:∀i:Nat,-1000000<=sKinds.getD i 0/\sKinds.getD i 0<=1000000:=λi=>by
  rcases i with _|_|_|_|i<;>simp[sKinds]
 have hg:∀i:Nat,-1000000<=sGains.getD i 0/\sGains.getD i 0<=1000000:=λi=>by
  rcases i with _|_|_|_|_|_|i<;>simp[sGains]
 have hl:I64 (1+aD L k 9):=bU (by omega) (by omega);have qf:∀s:SourceR,s.fit->(gP s).fit:=λs h=>⟨h.kind,h.pos,h.speed⟩
 unfold gG;simp only;split
 .exact⟨hl,i0,Cv,Cv,i0,i0,i0,i0⟩
 .split
  .exact⟨hl,bU (hk _).1 (hk _).2,qf _ fa,qf _ fb,bU (by simp only;omega) (by simp only;omega),bU (by simp only;omega) (by simp only;omega),i0,bU (hg _).1 (hg _).2⟩
  .exact⟨hl,bU (hk _).1 (hk _).2,qf _ fa,Cv,i0,i0,i0,bU (hg _).1 (hg _).2⟩
def gF(L:List Int)(k:Nat)(m s:Int):ClipR×Nat:=
 let len:=1+aD L k 9
 let kind:=sKinds.getD (aD L (k+1) 4).toNat 0
 if kind=0 then (⟨len,0,zSource,zSource,0,0,0,⟨#[]⟩,0,[]⟩,k+2)
 else
  let a:=bM L (k+2) m s
  if kind=2 then
   let b:=bM L a.2 m s
   let off:=aD L b.2 3
   let total:=off+len+aD L (b.2+1) 3
   (⟨len,kind,gP a.1,gP b.1,off,total,0,⟨#[]⟩,sGains.getD (aD L (b.2+2) 6).toNat 0,[aD L (b.2+3) 4-1]⟩,b.2+4)
  else (⟨len,kind,gP a.1,zSource,0,0,0,⟨#[]⟩,sGains.getD (aD L a.2 6).toNat 0,[aD L (a.2+1) 4-1]⟩,a.2+2)
theorem aSg(L:List Int)(k:Nat)(m s:Int)(hk:k<=800000)(hm:0<=m/\m<=9)(hs:0<=s/\s<=9):
  yE Tryz.prog 18 [.t (cM L),aA k] [aA m,aA s,aA 1] (Mu (gF L k m s).1) [.t (cM L),aA ((gF L k m s).2:Int)]:=by
 refine rG Tryz.X18 Tryz.func18 rfl Tryz.ntmps18 (by rw[Tryz.results18]) (aB _ ?_);simp only[go_sem,seval];refine aP (bR L k 9) rfl rfl rfl ?_;have n9:=aG (L:=L) (k:=k) (n:=9);simp only[go_sem,seval,wrap64 (x:=1+aD L k 9)];refine aP (bR L (k+1) 4) rfl rfl rfl ?_;have n4:=aG (L:=L) (k:=k+1) (n:=4);simp only[go_sem,seval];refine⟨⟨by omega,by omega⟩,by omega,?_⟩;obtain⟨kd,hkd⟩:∃kd,sKinds.getD (aD L (k+1) 4).toNat 0=kd:=⟨_,rfl⟩
 have hkd':=hkd;unfold sKinds at hkd';rw[hkd'];have hl0:1<=1+aD L k 9/\1+aD L k 9<=9:=by omega
 generalize hlen:1+aD L k 9=len at hl0;refine⟨λh0=>?_,λh0=>?_⟩
 .have e0:kd=0:=by simpa using h0
  have e:gF L k m s=(⟨len,0,zSource,zSource,0,0,0,⟨#[]⟩,0,[]⟩,k+2):=by unfold gF;simp only[hkd,hlen,e0,if_true]
  rw[e];unfold awS;simp only[go_sem,seval];rw[e0];exact⟨rfl,rfl⟩
 .have e0 : ¬kd=0:=by simpa using h0
  unfold awS;simp only[go_sem,seval];refine aP (rH L (k+2) m s (by omega) hm hs) rfl rfl rfl ?_;obtain⟨⟨a,ka⟩,ha⟩:∃a,bM L (k+2) m s=a:=⟨_,rfl⟩
  have hka:=gE L (k+2) m s;rw[ha]at hka⊢;simp only at hka;have hk5:kd=1\/kd=2:=by
   have:(aD L (k+1) 4).toNat=0\/(aD L (k+1) 4).toNat=1\/(aD L (k+1) 4).toNat=2\/(aD L (k+1) 4).toNat=3:=by omega
   rcases this with h|h|h|h<;>rw[h]at hkd'<;>simp at hkd'<;>omega
  clear hkd';rcases hk5 with rfl|rfl
  .have e:gF L k m s=(⟨len,1,gP a,zSource,0,0,0,⟨#[]⟩,sGains.getD (aD L ka 6).toNat 0,[aD L (ka+1) 4-1]⟩,ka+2):=by unfold gF;simp only[hkd,hlen,ha];first|rfl|simp
   rw[e];simp only[go_sem,seval];have v1:IntKind.i64.wrap 1=1:=by decide
   have v2:IntKind.i64.wrap 2=2:=by decide
   refine aP (bR L ka 6) rfl rfl rfl ?_;have n6:=aG (L:=L) (k:=ka) (n:=6);simp only[go_sem,seval];refine⟨⟨by omega,by omega⟩,by omega,?_⟩;have hgn:[4096,4096,2048,0,8192,5000].getD (aD L ka 6).toNat 0=sGains.getD (aD L ka 6).toNat 0:=rfl;rw[hgn];generalize sGains.getD (aD L ka 6).toNat 0=gn;refine bC ?_;refine aK (aB _ ?_);simp only[go_sem,dtf,seval];refine aQ 9 .done (h:=?_);simp only[go_sem,seval];refine gZ (bR L (ka+1) 4) rfl rfl rfl ?_;have c4:=aG (L:=L) (k:=ka+1) (n:=4);simp only[go_sem,seval,wrap64 (x:=aD L (ka+1) 4-1)];refine⟨by decide,by kernel_rfl,?_⟩;refine aK (aB _ ?_);simp only[go_sem,dtf,seval,v1];exact⟨rfl,rfl⟩
  .have e:gF L k m s=(let b:=bM L ka m s; (⟨len,2,gP a,gP b.1,aD L b.2 3,aD L b.2 3+len+aD L (b.2+1) 3,0,⟨#[]⟩,sGains.getD (aD L (b.2+2) 6).toNat 0,[aD L (b.2+3) 4-1]⟩,b.2+4)):=by unfold gF;simp only[hkd,hlen,ha];first|rfl|simp
   rw[e];simp only[go_sem,seval];refine aP (rH L ka m s (by omega) hm hs) rfl rfl rfl ?_;obtain⟨⟨b,kb⟩,hb⟩:∃b,bM L ka m s=b:=⟨_,rfl⟩
   have hkb:=gE L ka m s;rw[hb]at hkb⊢;simp only at hkb;simp only[go_sem,seval];refine aP (bR L kb 3) rfl rfl rfl ?_;have o3:=aG (L:=L) (k:=kb) (n:=3);simp only[go_sem,seval];refine aQ 10 .done (h:=?_);simp only[go_sem,seval];refine gZ (bR L (kb+1) 3) rfl rfl rfl ?_;have p3:=aG (L:=L) (k:=kb+1) (n:=3);simp only[go_sem,seval,wrap64 (x:=aD L kb 3+len),wrap64 (x:=aD L kb 3+len+aD L (kb+1) 3)];refine⟨by kernel_rfl,?_⟩;have v1:IntKind.i64.wrap 1=1:=by decide
   have v2:IntKind.i64.wrap 2=2:=by decide
   refine aP (bR L (kb+2) 6) rfl rfl rfl ?_;have n6:=aG (L:=L) (k:=(kb+2)) (n:=6);simp only[go_sem,seval];refine⟨⟨by omega,by omega⟩,by omega,?_⟩;have hgn:[4096,4096,2048,0,8192,5000].getD (aD L (kb+2) 6).toNat 0=sGains.getD (aD L (kb+2) 6).toNat 0:=rfl;rw[hgn];generalize sGains.getD (aD L (kb+2) 6).toNat 0=gn;refine bC ?_;refine aK (aB _ ?_);simp only[go_sem,dtf,seval];refine aQ 9 .done (h:=?_);simp only[go_sem,seval];refine gZ (bR L ((kb+2)+1) 4) rfl rfl rfl ?_;have c4:=aG (L:=L) (k:=(kb+2)+1) (n:=4);simp only[go_sem,seval,wrap64 (x:=aD L ((kb+2)+1) 4-1)];refine⟨by decide,by kernel_rfl,?_⟩;refine aK (aB _ ?_);simp only[go_sem,dtf,seval,v1];exact⟨rfl,rfl⟩
theorem Xw(L:List Int)(k:Nat)(m s:Int)(hm:m<=9)(hs:s<=9):(gF L k m s).1.fit:=by
 have n9:=aG (L:=L) (k:=k) (n:=9);obtain⟨_,fa⟩:=gD L (k+2) m s hm hs;obtain⟨_,fb⟩:=gD L (bM L (k+2) m s).2 m s hm hs;have o3:=aG (L:=L) (k:=(bM L (bM L (k+2) m s).2 m s).2) (n:=3);have p3:=aG (L:=L) (k:=(bM L (bM L (k+2) m s).2 m s).2+1) (n:=3);have hk:∀i:Nat,-1000000<=sKinds.getD i 0/\sKinds.getD i 0<=1000000:=λi=>by
  rcases i with _|_|_|_|i<;>simp[sKinds]
 have hg:∀i:Nat,-1000000<=sGains.getD i 0/\sGains.getD i 0<=1000000:=λi=>by
  rcases i with _|_|_|_|_|_|i<;>simp[sGains]
 have hl:I64 (1+aD L k 9):=bU (by omega) (by omega);have qf:∀s:SourceR,s.fit->(gP s).fit:=λs h=>⟨h.kind,h.pos,h.speed⟩
 unfold gF;simp only;split
 .exact⟨hl,i0,Cv,Cv,i0,i0,i0,i0⟩
 .split
  .exact⟨hl,bU (hk _).1 (hk _).2,qf _ fa,qf _ fb,bU (by simp only;omega) (by simp only;omega),bU (by simp only;omega) (by simp only;omega),i0,bU (hg _).1 (hg _).2⟩
  .exact⟨hl,bU (hk _).1 (hk _).2,qf _ fa,Cv,i0,i0,i0,bU (hg _).1 (hg _).2⟩
def nQ(L:List Int)(k:Nat)(m s:Int)(ch:Int):ClipR×Nat:=if ch=0 then gG L k m s else if ch=1 then gF L k m s else kC L k m s
theorem cSoundC(L:List Int)(k:Nat)(m s ch:Int)(hk:k<=800000)(hm:0<=m/\m<=9)(hs:0<=s/\s<=9)(hc:0<=ch/\ch<=2):
  yE Tryz.prog 18 [.t (cM L),aA k] [aA m,aA s,aA ch] (kJ (nQ L k m s ch).1) [.t (cM L),aA ((nQ L k m s ch).2:Int)]:=by
 have:ch=0\/ch=1\/ch=2:=by omega
 rcases this with rfl|rfl|rfl
 .exact Mk (Sg _) (aSh L k m s hk hm hs)
 .exact Mk (Sg _) (aSg L k m s hk hm hs)
 .exact Mk (Sg _) (cSoundZ L k m s hk hm hs)
theorem aEm(L:List Int)(k:Nat)(m s ch:Int)(hm:m<=9)(hs:s<=9):(nQ L k m s ch).1.fit:=by
 unfold nQ;split
 .exact Xy L k m s hm hs
 .split
  .exact Xw L k m s hm hs
  .exact aAq L k m s hm hs
theorem cTrackB(L:List Int)(k:Nat)(m s most:Int)(hk:k<=100000)(hm:0<=m/\m<=9)(hs:0<=s/\s<=9)(h0:0<=most)(h9:most<=9):yE Tryz.prog 17 [.t (cM L),aA k] [aA m,aA s,aA most] (.t (jC (rK L k m s most).1)) [.t (cM L),aA ((rK L k m s most).2:Int)]:=by
 refine rG Tryz.X17 Tryz.func17 rfl Tryz.ntmps17 (by rw[Tryz.results17]) (eK λhf=>aB _ ?_);have w1:IntKind.i64.wrap (most+1)=most+1:=wrap64;simp only[go_sem,seval,w1];refine aP (bR L k (most+1)) rfl rfl rfl ?_;have tn:=aG (L:=L) (k:=k) (n:=most+1);obtain⟨N,hN⟩:∃N:Nat,aD L k (most+1)=N:=⟨(aD L k (most+1)).toNat,by omega⟩
 simp only[go_sem,seval,hN];refine aE (λ(x:Nat×List ClipR×Nat) σ=>StT L x.1 x.2.1 x.2.2 σ) (λx=>x.2.1.length+2*x.1<=18/\x.2.2+19*x.1<=k+200/\x.2.1++(pR L m s x.1 x.2.2).1=(rK L k m s most).1/\(pR L m s x.1 x.2.2).2=(rK L k m s most).2) (λx=>x.1) (N,[],k+1) (cA [(1,none),(0,some 0)] ?_) ⟨by simp only[List.length_nil];omega,by simp only;omega,?_⟩ ?_
 .simp only[go_sem,seval]<;>simp
 .simp only[rK,hN,Int.toNat_natCast,List.nil_append,and_self]
 .rintro⟨c,es,q⟩ ⟨hc,hq,he1,he2⟩;simp only at hc hq he1 he2;refine aB _ ?_;simp only[go_sem,seval];refine⟨λhlt=>?_,λhge=>?_⟩
  .simp only[bxx]at hlt;obtain⟨c,rfl⟩:∃c',c=c'+1:=⟨c-1,by omega⟩
   simp only[pR]at he1 he2;have hst:=vB L q m s hm.2 hs.2;unfold awS;simp only[go_sem,seval];refine aP (cClip L q m s (by omega) hm hs) rfl rfl rfl ?_;have hle:=Wp L q m s;have hsm:=xZ L q m s;generalize hcl:cR L q m s=C at*;obtain⟨d,kq⟩:=C;simp only[go_sem,seval];have ec:∀d:ClipR,[T.lit (.int .i64 d.len),.lit (.int .i64 d.kind),.lit (.int .i64 d.a.kind),.lit (.string d.a.name),.lit (.int .i64 d.a.pos.num),.lit (.int .i64 d.a.pos.den),.lit (.int .i64 d.a.speed.num),.lit (.int .i64 d.a.speed.den),.lit (.bool d.a.smooth),
    .lit (.int .i64 d.b.kind),.lit (.string d.b.name),.lit (.int .i64 d.b.pos.num),.lit (.int .i64 d.b.pos.den),.lit (.int .i64 d.b.speed.num),.lit (.int .i64 d.b.speed.den),.lit (.bool d.b.smooth),.lit (.int .i64 d.off),.lit (.int .i64 d.total),.lit (.int .i64 d.param),.lit (.string d.text),.lit (.int .i64 d.gain),.list 1 (eB 0) (d.chan.map eB)]=ClipR.c d:=λ_=>rfl
   have es1:es.map ClipR.c++[ClipR.c d]=(es++[d]).map ClipR.c:=by simp
   simp only[ec,es1];refine⟨⟨by unfold maxLen;omega,by omega⟩,aP (bR L kq 4) rfl rfl rfl ?_⟩;have n4:=aG (L:=L) (k:=kq) (n:=4);simp only[go_sem,seval];have hll:((es++[d]).length:Int)<64:=by simp only[List.length_append,List.length_cons,List.length_nil];omega
   have wc:IntKind.i64.wrap (((c+1:Nat):Int)-1)=(c:Int):=by rw[wrap64 (by omega) (by omega)];omega
   refine brW (b:=aD L kq 4==0) ?_ ⟨λhj=>?_,λhj=>?_⟩
   .rw[decide_eq_true hll,Bool.and_true]
   .unfold awS;simp only[go_sem,seval];refine aP (bR L (kq+1) 4) rfl rfl rfl ?_;have m4:=aG (L:=L) (k:=kq+1) (n:=4);simp only[go_sem,seval,wrap64 (x:=1+aD L (kq+1) 4)];refine⟨_,λ_=>eqRat d.a.speed one1,_,λ_=>Ae d.b zSource,λhb=>?_,λhb=>?_⟩
    .have hb2:Hh d=true:=hb;have hs1:fB L q m s=([d,gM d (1+aD L (kq+1) 4)],kq+2):=by
      unfold fB;rw[hcl];simp only;rw[if_pos (by simpa using hj),if_pos hb2]
     rw[hs1]at he1 he2;obtain⟨⟨q1,q2,q3⟩,_,q5,q6⟩:=hsm;simp only at q1 q2 q3 q5 q6;have wm:(d.len*d.a.pos.den).natAbs<=900000:=by
      rw[Int.natAbs_mul];exact Nat.mul_le_mul (show d.len.natAbs<=9 by omega) q2
     unfold awS;simp only[go_sem,seval,wrap64 (x:=d.len*d.a.pos.den),wrap64 (x:=d.a.pos.num+d.len*d.a.pos.den)];have e2:∀n:Int,[T.lit (.int .i64 n),.lit (.int .i64 d.kind),.lit (.int .i64 d.a.kind),.lit (.string d.a.name),.lit (.int .i64 (d.a.pos.num+d.len*d.a.pos.den)),.lit (.int .i64 d.a.pos.den),.lit (.int .i64 d.a.speed.num),.lit (.int .i64 d.a.speed.den),.lit (.bool d.a.smooth),
      .lit (.int .i64 d.b.kind),.lit (.string d.b.name),.lit (.int .i64 d.b.pos.num),.lit (.int .i64 d.b.pos.den),.lit (.int .i64 d.b.speed.num),.lit (.int .i64 d.b.speed.den),.lit (.bool d.b.smooth),.lit (.int .i64 d.off),.lit (.int .i64 d.total),.lit (.int .i64 d.param),.lit (.string d.text),.lit (.int .i64 d.gain),.list 1 (eB 0) (d.chan.map eB)]=ClipR.c (gM d n):=λ_=>rfl
     have e3:∀x:ClipR,(es++[d]).map ClipR.c++[ClipR.c x]=(es++[d,x]).map ClipR.c:=λx=>by simp
     simp only[e2,e3];refine⟨⟨by simp only[List.length_append,List.length_cons,List.length_nil];unfold maxLen;omega,by simp only[List.length_append,List.length_cons,List.length_nil];omega⟩,(c,es++[d,gM d (1+aD L (kq+1) 4)],kq+2),cA [(1,some 7),(0,some 0)] ?_,⟨by simp only[List.length_append,List.length_cons,List.length_nil];omega,by simp only;simp only at hle;omega,by rw[<-he1];simp,he2⟩,by simp only;omega⟩;simp only[go_sem,seval,wc];try simp
    .have hs1:fB L q m s=([d],kq+2):=by
      have hb2:Hh d=false:=hb;unfold fB;rw[hcl];simp only;rw[if_pos (by simpa using hj),hb2];rfl
     rw[hs1]at he1 he2;unfold awS;simp only[go_sem,seval];refine⟨(c,es++[d],kq+2),cA [(1,some 4),(0,some 0)] ?_,⟨by simp only[List.length_append,List.length_cons,List.length_nil];omega,by simp only;simp only at hle;omega,by rw[<-he1];simp,he2⟩,by simp only;omega⟩;simp only[go_sem,seval,wc];try simp
   .have hs1:fB L q m s=([d],kq+1):=by
     unfold fB;rw[hcl];simp only;rw[if_neg (by simpa using hj)]
    rw[hs1]at he1 he2;unfold awS;simp only[go_sem,seval];refine⟨(c,es++[d],kq+1),cA [(1,some 4),(0,some 0)] ?_,⟨by simp only[List.length_append,List.length_cons,List.length_nil];omega,by simp only;simp only at hle;omega,by rw[<-he1];simp,he2⟩,by simp only;omega⟩;simp only[go_sem,seval,wc];try simp
  .simp only[bxx]at hge;unfold awS;simp only[go_sem,seval];have:c=0:=by omega
   subst this;simp only[pR,List.append_nil]at he1 he2;rw[he1,he2];exact⟨rfl,rfl⟩
def yJ(m:MediumR):List T:=[mW m.name,tu m.sum]++m.seq.c++[ti m.frames,ti m.channels,ti m.samples]
def gN(m:MediumR)(x:V):List V:=(yJ m).map V.t++[x]
@[go_sem] theorem aKj(m:MediumR)(x:V):(gN m x).length=141:=rfl
@[go_sem] theorem vmedX_140(m:MediumR)(x:V):(gN m x)[140]?=some x:=rfl
@[go_sem] theorem vmedX_all(m:MediumR)(x:V):List.take 141 (gN m x)=gN m x:=List.take_of_length_le (by rw[aKj];exact Nat.le_refl _)
@[go_sem] theorem vmedX_put(m:MediumR)(x y:V):List.take 140 (gN m x)++[y]=gN m y:=rfl
@[go_sem] theorem vmedX_drop(m:MediumR)(x:V):List.drop 141 (gN m x)=[]:=rfl
@[go_sem] theorem vmedX_put9(m:MediumR)(x:V)(n:Int):List.take 139 (gN m x)++[.t (.lit (.int .i64 n))]++List.drop 140 (gN m x)=gN { m with samples:=n } x:=rfl
@[go_sem] theorem vmedX_cell(m:MediumR)(x:V):(gN m x).all V.isCell=V.isCell x:=by
 unfold gN;rw[List.all_append];have:((yJ m).map V.t).all V.isCell=true:=by
  rw[List.all_eq_true];intro x hx;obtain⟨t,_,rfl⟩:=List.mem_map.1 hx;rfl
 rw[this];simp
def aR8(m:MediumR)(o:Option T):Option (List T):=
 match o with
 |some t=>some (yJ m++[t])
 |none=>none
@[go_sem] theorem vmedX_lend(h:Heap)(n:Nat)(m:MediumR)(x:V):Go.Proofs.YtkjdkbmfaamhaaaGreat.lendCs (aX h n) (gN m x)=aR8 m (aX h n x):=by
 unfold gN;cases e:aX h n x with
 |some t=>exact vG (wH _ (kG h n) _) (by unfold lendCs lendCs;rw[e])
 |none=>
  unfold aR8;generalize yJ m=l
  induction l with
  |nil=>simp only[List.map_nil,List.nil_append,lendCs,e]
  |cons a l ih=>simp only[List.map_cons,List.cons_append,lendCs,ih,kG]
@[go_sem] theorem vmedX_reach(h:Heap)(n:Nat)(m:MediumR)(x:V):Go.Proofs.YtkjdkbmfaamhaaaGreat.reachL (mR h n) (gN m x)=mR h n x:=by
 unfold gN;generalize yJ m=l
 induction l with
 |nil=>simp only[List.map_nil,List.nil_append,reachL,List.append_nil]
 |cons a l ih=>simp only[List.map_cons,List.cons_append,reachL,ih,Ex,List.nil_append]
attribute [go_sem] aR8
@[go_sem] theorem vmedX_tCells(m:MediumR)(i:Nat):Go.Proofs.YtkjdkbmfaamhaaaGreat.tCells (gN m (.own i))=none:=by
 unfold gN;generalize yJ m=l
 induction l with
 |nil=>rfl
 |cons a l ih=>simp only[List.map_cons,List.cons_append,tCells,ih,Option.map_none]
@[go_sem] theorem vmedX_tCellsT(m:MediumR)(t:T):Go.Proofs.YtkjdkbmfaamhaaaGreat.tCells (gN m (.t t))=some (yJ m++[t]):=by
 unfold gN;generalize yJ m=l
 induction l with
 |nil=>rfl
 |cons a l ih=>simp only[List.map_cons,List.cons_append,tCells,ih,Option.map_some]
@[go_sem] theorem aCh(h:Heap)(n:Nat)(ys:List (List V)):∀xs:List (List T),Go.Proofs.YtkjdkbmfaamhaaaGreat.lendRs (aX h n) (aS xs++ys)=match Go.Proofs.YtkjdkbmfaamhaaaGreat.lendRs (aX h n) ys with|some ts=>some (xs++ts)|none=>none
 |[]=>by
  simp only[aS,List.map_nil,List.nil_append];cases lendRs (aX h n) ys<;>rfl
 |x::xs=>by
  have ih:=aCh h n ys xs;unfold aS at ih⊢;simp only[List.map_cons,List.cons_append,lendRs,ih,wH _ (kG h n)];cases lendRs (aX h n) ys<;>rfl
@[go_sem] theorem Yd(h:Heap)(n:Nat)(ys:List (List V)):∀xs:List (List T),Go.Proofs.YtkjdkbmfaamhaaaGreat.reachRs (mR h n) (aS xs++ys)=Go.Proofs.YtkjdkbmfaamhaaaGreat.reachRs (mR h n) ys
 |[]=>rfl
 |x::xs=>by
  have ih:=Yd h n ys xs;unfold aS at ih⊢;simp only[List.map_cons,List.cons_append,reachRs,ih,Ey _ (Ex h n),List.nil_append]
theorem aKh{ρ:Ren}{h:Heap}{m:MediumR}{x y:V}:wkVs ρ h (gN m x) (gN m y)↔wkV ρ h x y:=by
 unfold gN;generalize yJ m=l
 induction l with
 |nil=>simp only[List.map_nil,List.nil_append,wkVs,and_true]
 |cons a l ih=>
  simp only[List.map_cons,List.cons_append,wkVs,ih];exact⟨λq=>q.2,λq=>⟨by simp only[wkV,wkT];exact aA1 _,q⟩⟩
@[go_sem] theorem vmedX_wk{ρ:Ren}{h:Heap}{m:MediumR}{x y:V}:Go.Proofs.YtkjdkbmfaamhaaaGreat.wkVs ρ h (gN m x) (gN m y)=wkV ρ h x y:=propext aKh
theorem fillA(a b:Int):pT (λi=>[(0,1),(1,1),(2,2),(4,1),(5,1),(6,1),(7,64),(71,64)][i]?) (pP Tryz.z55) [(2,.agg [.t (.lit (.int .i64 a)),.t (.lit (.int .i64 b))])]=some (aKd ⟨0,0,⟨a,b⟩,false,0,0,λ_=>0⟩):=by
 rfl
theorem aDc(L:List Int)(k:Nat):(pH L k).2<=k+5:=by
 unfold pH;split<;>simp
def eY(L:List Int):Nat->Nat->List CueR×Nat
 |0,k=>([],k)
 |n+1,k=>((pH L k).1::(eY L n (pH L k).2).1,(eY L n (pH L k).2).2)
def nH(L:List Int)(k:Nat):RatR:=⟨(([(25,1),(24,1),(30000,1001)]:List (Int×Int)).getD (aD L k 3).toNat (0,0)).1,(([(25,1),(24,1),(30000,1001)]:List (Int×Int)).getD (aD L k 3).toNat (0,0)).2⟩
def Vw(r:RatR):SeqR:=⟨16,16,r,false,400000,400000,λ_=>0⟩
def tR(L:List Int)(i k:Nat):MediumR×Nat:=
 (⟨gL ⟨#[109]⟩ i,IntKind.u64.wrap (aD L k 99),Vw (nH L (k+1)),5+aD L (k+2) 40,aD L (k+3) 3,aD L (k+4) 20000,(eY L (aD L (k+5) 3).toNat (k+6)).1⟩,(eY L (aD L (k+5) 3).toNat (k+6)).2)
def mK(L:List Int):Nat->Nat->Nat->List MediumR×Nat
 |0,_,k=>([],k)
 |n+1,i,k=>((tR L i k).1::(mK L n (i+1) (tR L i k).2).1,(mK L n (i+1) (tR L i k).2).2)
abbrev RowQ (l:List CueR):Blk:=.row 71 3 (CueR.c default) (aS (l.map CueR.c))
def kH(L:List Int)(m s:Int):Nat->Nat->List (List ClipR)×Nat
 |0,k=>([],k)
 |n+1,k=>((rK L k m s 5).1::(kH L m s n (rK L k m s 5).2).1,(kH L m s n (rK L k m s 5).2).2)
def gH(L:List Int)(m s ch:Int):Nat->Nat->List ClipR×Nat
 |0,k=>([],k)
 |n+1,k=>((nQ L k m s ch).1::(gH L m s ch n (nQ L k m s ch).2).1,(gH L m s ch n (nQ L k m s ch).2).2)
def Nd(L:List Int)(m s ch:Int)(k:Nat):List ClipR×Nat:=gH L m s ch (aD L k 4).toNat (k+1)
def nR(L:List Int)(m s ch:Int):Nat->Nat->List (List ClipR)×Nat
 |0,k=>([],k)
 |n+1,k=>((Nd L m s ch k).1::(nR L m s ch n (Nd L m s ch k).2).1,(nR L m s ch n (Nd L m s ch k).2).2)
def Ch(L:List Int)(m:Int)(i k:Nat):SequenceR×Nat:=
 let ch:=aD L (k+1) 3
 let v:=kH L m i (1+aD L (k+2) 2).toNat (k+3)
 let a:=nR L m i ch (aD L v.2 3).toNat (v.2+1)
 let c:=eY L (aD L a.2 3).toNat (a.2+1)
 (⟨gL ⟨#[115]⟩ i,nH L k,16,16,v.1,a.1,c.1,ch⟩,c.2)
def nU(L:List Int)(m:Int):Nat->Nat->Nat->List SequenceR×Nat
 |0,_,k=>([],k)
 |n+1,i,k=>((Ch L m i k).1::(nU L m n (i+1) (Ch L m i k).2).1,(nU L m n (i+1) (Ch L m i k).2).2)
def rQ(L:List Int):ProjR:=
 ⟨(mK L (1+aD L 0 3).toNat 0 2).1,(nU L (1+aD L 0 3).toNat (1+aD L 1 3).toNat 0 (mK L (1+aD L 0 3).toNat 0 2).2).1⟩
theorem aEe(L:List Int)(k:Nat)(m s:Int)(hm:m<=9)(hs:s<=9):(fB L k m s).2<=k+19:=by
 have h:=vB L k m s hm hs;omega
theorem aA8(L:List Int)(m s:Int)(hm:m<=9)(hs:s<=9):∀(n k:Nat),(pR L m s n k).2<=k+19*n
 |0,k=>by simp[pR]
 |n+1,k=>by
  have h1:=aEe L k m s hm hs;have h2:=aA8 L m s hm hs n (fB L k m s).2;simp only[pR];omega
theorem aP0(L:List Int)(k:Nat)(m s:Int)(hm:m<=9)(hs:s<=9):(rK L k m s 5).2<=k+150:=by
 have t:=aG (L:=L) (k:=k) (n:=5+1);have h:=aA8 L m s hm hs (aD L k (5+1)).toNat (k+1);unfold rK;omega
theorem aKu(L:List Int)(k:Nat)(m s ch:Int):(nQ L k m s ch).2<=k+19:=by
 have h1:=gE L (k+2) m s;have h2:=gE L (bM L (k+2) m s).2 m s;unfold nQ;split
 .unfold gG;simp only;split
  .simp
  .split<;>simp only<;>omega
 .split
  .unfold gF;simp only;split
   .simp
   .split<;>simp only<;>omega
  .unfold kC;simp only;split
   .simp
   .split<;>simp only<;>omega
abbrev aGg (l:List (List ClipR)):Blk:=.row 68 1 (fJ []) (aS (l.map fJ))
abbrev aE1 (l:List SequenceR):Blk:=.row 61 9 (SequenceR.c default) (aS (l.map SequenceR.c))
abbrev aGh (l:List MediumR):Blk:=.row 58 141 (MediumR.c default) (aS (l.map MediumR.c))
theorem fill70(a b:Int):pT (λi=>[(0,1),(1,1),(2,2),(4,1),(5,1),(6,1),(7,64),(71,64)][i]?) (pP Tryz.z55) [(0,.t (.lit (.int .i64 16))),(1,.t (.lit (.int .i64 16))),(2,.agg [.t (.lit (.int .i64 a)),.t (.lit (.int .i64 b))]),(4,.t (.lit (.int .i64 400000))),(5,.t (.lit (.int .i64 400000)))]=some (aKd (Vw ⟨a,b⟩)):=by
 rfl
theorem fill73(s:SeqR)(n:ByteArray)(u f c:Int):pT (λi=>[(0,1),(1,1),(2,135),(137,1),(138,1),(139,1),(140,1)][i]?) (pP Tryz.z58) [(0,.t (.lit (.string n))),(1,.t (.lit (.int .u64 u))),(2,.agg (aKd s)),(3,.t (.lit (.int .i64 f))),(4,.t (.lit (.int .i64 c)))]=some (gN ⟨n,u,s,f,c,0,[]⟩ (.t (.lit (.slice none 0 0)))):=by
 rfl
set_option maxHeartbeats 8000000 in
theorem aT1(L:List Int):aL Tryz.prog 7 [.t (cM L)] (jY (rQ L)):=by
 refine aF Tryz.X7 Tryz.func7 rfl Tryz.ntmps7 (by rw[Tryz.results7]) (aB _ ?_);simp only[go_sem,seval];refine aP (bR L 0 3) rfl rfl rfl ?_;have n1:=aG (L:=L) (k:=0) (n:=3);simp only[go_sem,seval,wrap64 (x:=1+aD L 0 3)];refine aP (bR L 1 3) rfl rfl rfl ?_;have n2:=aG (L:=L) (k:=1) (n:=3);simp only[go_sem,seval,wrap64 (x:=1+aD L 1 3)];obtain⟨M,hM⟩:∃M:Nat,1+aD L 0 3=M:=⟨(1+aD L 0 3).toNat,by omega⟩
 obtain⟨N,hN⟩:∃N:Nat,1+aD L 1 3=N:=⟨(1+aD L 1 3).toNat,by omega⟩
 rw[hM,hN];refine aE (λ(x:Nat×List MediumR×Nat) σ=>{ fr:=(aY [9,10,11,12,13,14,15,16,17,18,19,20,21,22,23,24,25,26,27,28,29,30,31,32,33,34,35,36,37,38,39,40,41,42,43,44,45,46,47,48,49,50,51,52,53,54,55,56,57,58,59,60,61,62,63,64,65,66,67,68,69,70,71,72,73,74,75,76,77,78] σ).fr.set 8 (aA x.1),h:=[(4,aGh x.2.1),(3,.row 52 2 [.lit (.int .i64 0),.lit (.int .i64 0)] (aS [[.lit (.int .i64 25),.lit (.int .i64 1)],[.lit (.int .i64 24),.lit (.int .i64 1)],[.lit (.int .i64 30000),.lit (.int .i64 1001)]])),(2,.box [.own 4,.t (.lit (.slice none 0 0))]),(1,.box [.t (cM L),aA x.2.2]),(0,.box [.t (.lit (.slice none 0 0)),.t (.lit (.slice none 0 0))])],nx:=5 })
  (λx=>x.1<=M/\x.2.1.length=x.1/\x.2.2<=2+20*x.1/\x.2.1++(mK L (M-x.1) x.1 x.2.2).1=(mK L M 0 2).1/\(mK L (M-x.1) x.1 x.2.2).2=(mK L M 0 2).2) (λx=>M-x.1) (0,[],2) (cA [(4,none),(3,some 3),(2,some 2),(1,some 1),(0,some 0)] ?_) ⟨Nat.zero_le _,rfl,Nat.le_refl _,rfl,rfl⟩ ?_
 .simp only[go_sem,seval]<;>simp[aS]
 .rintro⟨i,ms,q⟩ ⟨hi,hms,hq,he1,he2⟩;simp only at hi hms hq he1 he2;refine aB _ ?_;simp only[go_sem,seval];refine⟨λhlt=>?_,λhge=>?_⟩
  .simp only[bxx]at hlt;unfold awS;simp only[go_sem,seval];refine aQ 19 .done (h:=?_);simp only[go_sem,seval];refine⟨_,Sc ⟨#[109]⟩ i (by omega) (by omega) (by decide),?_⟩;simp only[go_sem,seval];refine gZ (bR L q 99) rfl rfl rfl ?_;have c99:=aG (L:=L) (k:=q) (n:=99);simp only[go_sem,seval];refine gZ (bR L (q+1) 3) rfl rfl rfl ?_;have c3:=aG (L:=L) (k:=q+1) (n:=3);simp only[go_sem,seval,↓fill70];refine⟨⟨by omega,by omega⟩,by omega,?_⟩;refine gZ (bR L (q+1+1) 40) rfl rfl rfl ?_;have c40:=aG (L:=L) (k:=q+1+1) (n:=40);simp only[go_sem,seval,wrap64 (x:=5+aD L (q+1+1) 40)];refine gZ (bR L (q+1+1+1) 3) rfl rfl rfl ?_;have d3:=aG (L:=L) (k:=q+1+1+1) (n:=3);simp only[go_sem,seval,↓fill73];refine⟨by kernel_rfl,?_⟩;refine aP (bR L (q+1+1+1+1) 20000) rfl rfl rfl ?_;simp only[go_sem,seval];refine aP (bR L (q+1+1+1+1+1) 3) rfl rfl rfl ?_;have e3:=aG (L:=L) (k:=q+1+1+1+1+1) (n:=3);simp only[go_sem,seval];obtain⟨m0,hm0⟩:∃m0:MediumR,m0=⟨gL ⟨#[109]⟩ i,IntKind.u64.wrap (aD L q 99),Vw (nH L (q+1)),5+aD L (q+1+1) 40,aD L (q+1+1+1) 3,aD L (q+1+1+1+1) 20000,[]⟩:=⟨_,rfl⟩
   obtain⟨C,hC⟩:∃C:Nat,aD L (q+1+1+1+1+1) 3=C:=⟨(aD L (q+1+1+1+1+1) 3).toNat,by omega⟩
   have hmed:tR L i q=({ m0 with cues:=(eY L C (q+6)).1 },(eY L C (q+6)).2):=by
    unfold tR;rw[hm0,show(aD L (q+5) 3).toNat=C by rw[show q+5=q+1+1+1+1+1 by omega,hC];rfl]
   generalize hhd:Vw _=hd;have hhd':hd=Vw (nH L (q+1)):=by rw[<-hhd];rfl
   rw[<-hhd']at hm0;rw[<-hm0,hC];refine aE (λ(x:Nat×List CueR×Nat) σ=>{ fr:=((aY [36,37,38,39,40,41,42,43,44,45,46,47,48,49,50,51,52,53,54,55,56,57,58,59,60,61,62,63,64,65,66,67,68,69,70,71,72,73,74,75,76,77,78] σ).fr.set 9 (.own 5)).set 10 (aA x.1),h:=[(6,RowQ x.2.1),(5,.box (gN m0 (.own 6))),(4,aGh ms),(3,.row 52 2 [.lit (.int .i64 0),.lit (.int .i64 0)] (aS [[.lit (.int .i64 25),.lit (.int .i64 1)],[.lit (.int .i64 24),.lit (.int .i64 1)],[.lit (.int .i64 30000),.lit (.int .i64 1001)]])),(2,.box [.own 4,.t (.lit (.slice none 0 0))]),(1,.box [.t (cM L),aA x.2.2]),(0,.box [.t (.lit (.slice none 0 0)),.t (.lit (.slice none 0 0))])],nx:=7 })
    (λx=>x.2.1.length+x.1<=3/\x.2.2+5*x.1<=q+16/\x.2.1++(eY L x.1 x.2.2).1=(eY L C (q+6)).1/\(eY L x.1 x.2.2).2=(eY L C (q+6)).2) (λx=>x.1) (C,[],q+6) (cA [(6,none),(5,some 22),(4,some 4),(3,some 3),(2,some 2),(1,some 1),(0,some 0)] ?_) ⟨by simp only[List.length_nil];omega,by simp only;omega,rfl,rfl⟩ ?_
   .simp only[go_sem,seval]<;>simp[aS]
   .rintro⟨c,es,q'⟩ ⟨hc,hq',hf1,hf2⟩;simp only at hc hq' hf1 hf2;refine aB _ ?_;simp only[go_sem,seval];refine⟨λhlt2=>?_,λhge2=>?_⟩
    .simp only[bxx]at hlt2;obtain⟨c,rfl⟩:∃c',c=c'+1:=⟨c-1,by omega⟩
     simp only[eY]at hf1 hf2;unfold awS;simp only[go_sem,seval];refine aQ 8 .done (h:=?_);simp only[go_sem,seval];refine gZ (cCue L q' (by omega)) rfl rfl rfl ?_;have hle:=aDc L q';simp only[go_sem,seval];have wc:IntKind.i64.wrap (((c+1:Nat):Int)-1)=(c:Int):=by rw[wrap64 (by omega) (by omega)];omega
     refine⟨⟨by unfold maxLen;omega,by omega⟩,by kernel_rfl,(c,es++[(pH L q').1],(pH L q').2),cA [(6,some 12),(5,some 5),(4,some 4),(3,some 3),(2,some 2),(1,some 1),(0,some 0)] ?_,⟨by simp only[List.length_append,List.length_cons,List.length_nil];omega,by simp only;omega,by rw[<-hf1];simp,hf2⟩,by simp only;omega⟩;simp only[go_sem,seval,wc]<;>simp
     rfl
    .simp only[bxx]at hge2;have:c=0:=by omega
     subst this;simp only[eY,List.append_nil]at hf1 hf2;unfold awS;simp only[go_sem,seval];refine⟨⟨by unfold maxLen;omega,by omega⟩,(i+1,ms++[{ m0 with cues:=es }],q'),cA [(4,some 8),(3,some 3),(2,some 2),(1,some 1),(0,some 0)] ?_,⟨by simp only;omega,by simp only[List.length_append,List.length_cons,List.length_nil];omega,by simp only;omega,?_,?_⟩,by simp only;omega⟩
     .simp only[go_sem,seval];have e:List.map MediumR.c ms++[yJ m0++[T.list 3 (CueR.c default) (List.map CueR.c es)]]=List.map MediumR.c (ms++[{ m0 with cues:=es }]):=by rw[List.map_append];rfl
      rw[e];simp[bJ (show i<9223372036854775807 by omega)]
     .have hM1:M-i=(M-(i+1))+1:=by omega
      rw[hM1]at he1;simp only[mK,hmed,<-hf1]at he1;simp only;rw[<-he1,hf2];simp
     .have hM1:M-i=(M-(i+1))+1:=by omega
      rw[hM1]at he2;simp only[mK,hmed]at he2;simp only;rw[<-he2,hf2]
  .simp only[bxx]at hge;have:i=M:=by omega
   subst this;simp only[Nat.sub_self,mK,List.append_nil]at he1 he2;unfold awS;simp only[go_sem,seval];refine aE (λ(x:Nat×List SequenceR×Nat) σ=>{ fr:=(aY [9,10,12,13,14,15,16,17,18,19,20,21,22,23,24,25,26,27,28,29,30,31,32,33,34,35,36,37,38,39,40,41,42,43,44,45,46,47,48,49,50,51,52,53,54,55,56,57,58,59,60,61,62,63,64,65,66,67,68,69,70,71,72,73,74,75,76,77,78,79,80,81,82,83,84,85,86,87,88,89,90,91,92,93,94,95,96,97,98,99,100,101,102,103,104,105,106,107,108,109,110,111,112,113,114,115,116,117,118,119,120,121,122,123,124,125,126,127,128,129,130,131,132,133,134,135,136,137,138,139,140,141,142,143,144,145,146,147,148,149,150,151] σ).fr.set 11 (aA x.1),h:=[(5,aE1 x.2.1),(4,aGh ms),(3,.row 52 2 [.lit (.int .i64 0),.lit (.int .i64 0)] (aS [[.lit (.int .i64 25),.lit (.int .i64 1)],[.lit (.int .i64 24),.lit (.int .i64 1)],[.lit (.int .i64 30000),.lit (.int .i64 1001)]])),(2,.box [.own 4,.own 5]),(1,.box [.t (cM L),aA x.2.2]),(0,.box [.t (.lit (.slice none 0 0)),.t (.lit (.slice none 0 0))])],nx:=6 })
    (λx=>x.1<=N/\x.2.1.length=x.1/\x.2.2<=q+1000*x.1/\x.2.1++(nU L i (N-x.1) x.1 x.2.2).1=(nU L i N 0 q).1/\(nU L i (N-x.1) x.1 x.2.2).2=(nU L i N 0 q).2) (λx=>N-x.1) (0,[],q) (cA [(5,none),(4,some 4),(3,some 3),(2,some 2),(1,some 1),(0,some 0)] ?_) ⟨Nat.zero_le _,rfl,by simp only;omega,rfl,rfl⟩ ?_
   .simp only[go_sem,seval]<;>simp[aS]
   .rintro⟨j,ss,k⟩ ⟨hj,hss,hk,hg1,hg2⟩;simp only at hj hss hk hg1 hg2;refine aB _ ?_;simp only[go_sem,seval];refine⟨λhlt=>?_,λhge=>?_⟩
    .simp only[bxx]at hlt;unfold awS;simp only[go_sem,seval];refine aQ 12 .done (h:=?_);simp only[go_sem,seval];refine⟨_,Sc ⟨#[115]⟩ j (by omega) (by omega) (by decide),?_⟩;simp only[go_sem,seval];refine gZ (bR L k 3) rfl rfl rfl ?_;have c3:=aG (L:=L) (k:=k) (n:=3);simp only[go_sem,seval];refine⟨⟨by omega,by omega⟩,by omega,?_⟩;refine gZ (bR L (k+1) 3) rfl rfl rfl ?_;have d3:=aG (L:=L) (k:=k+1) (n:=3);simp only[go_sem,seval];refine⟨by kernel_rfl,?_⟩;refine aP (bR L (k+1+1) 2) rfl rfl rfl ?_;have c2:=aG (L:=L) (k:=k+1+1) (n:=2);simp only[go_sem,seval,wrap64 (x:=1+aD L (k+1+1) 2)];obtain⟨Vn,hV⟩:∃Vn:Nat,1+aD L (k+1+1) 2=Vn:=⟨(1+aD L (k+1+1) 2).toNat,by omega⟩
     rw[hV];refine aE (λ(x:Nat×List (List ClipR)×Nat) σ=>{ fr:=((aY [80,81,82,83,84,85,86,87,88,89,90,91,92,93,94,95,96,97,98,99,100,101,102,103,104,105,106,107,108,109,110,111,112,113,114,115,116,117,118,119,120,121,122,123,124,125,126,127,128,129,130,131,132,133,134,135,136,137,138,139,140,141,142,143,144,145,146,147,148,149,150,151] σ).fr.set 12 (.own 6)).set 13 (aA x.1),h:=[(7,aGg x.2.1),(6,.box [cF (gL ⟨#[115]⟩ j),aA (nH L k).num,aA (nH L k).den,aA 16,aA 16,.own 7,.t (.lit (.slice none 0 0)),.t (.lit (.slice none 0 0)),aA (aD L (k+1) 3)]),(5,aE1 ss),(4,aGh ms),(3,.row 52 2 [.lit (.int .i64 0),.lit (.int .i64 0)] (aS [[.lit (.int .i64 25),.lit (.int .i64 1)],[.lit (.int .i64 24),.lit (.int .i64 1)],[.lit (.int .i64 30000),.lit (.int .i64 1001)]])),(2,.box [.own 4,.own 5]),(1,.box [.t (cM L),aA x.2.2]),(0,.box [.t (.lit (.slice none 0 0)),.t (.lit (.slice none 0 0))])],nx:=8 })
      (λx=>x.2.1.length+x.1<=3/\x.2.2+150*x.1<=k+303/\x.2.1++(kH L i j x.1 x.2.2).1=(kH L i j Vn (k+3)).1/\(kH L i j x.1 x.2.2).2=(kH L i j Vn (k+3)).2) (λx=>x.1) (Vn,[],k+3) (cA [(7,none),(6,some 16),(5,some 5),(4,some 4),(3,some 3),(2,some 2),(1,some 1),(0,some 0)] ?_) ⟨by simp only[List.length_nil];omega,by simp only;omega,rfl,rfl⟩ ?_
     .simp only[go_sem,seval];simp[aS];exact⟨rfl,rfl⟩
     .rintro⟨c,vs,q'⟩ ⟨hc,hq',hf1,hf2⟩;simp only at hc hq' hf1 hf2;refine aB _ ?_;simp only[go_sem,seval];refine⟨λhlt2=>?_,λhge2=>?_⟩
      .simp only[bxx]at hlt2;obtain⟨c,rfl⟩:∃c',c=c'+1:=⟨c-1,by omega⟩
       simp only[kH]at hf1 hf2;have wc:IntKind.i64.wrap (((c+1:Nat):Int)-1)=(c:Int):=by rw[wrap64 (by omega) (by omega)];omega
       have hle:=aP0 L q' i j (by omega) (by omega);unfold awS;simp only[go_sem,seval];refine aQ 10 .done (h:=?_);simp only[go_sem,seval];refine gZ (cTrackB L q' i j 5 (by omega) (by omega) (by omega) (by omega) (by omega)) rfl rfl rfl ?_;simp only[go_sem,seval];refine⟨⟨by unfold maxLen;omega,by omega⟩,by kernel_rfl,(c,vs++[(rK L q' i j 5).1],(rK L q' i j 5).2),cA [(7,some 15),(6,some 6),(5,some 5),(4,some 4),(3,some 3),(2,some 2),(1,some 1),(0,some 0)] ?_,⟨by simp only[List.length_append,List.length_cons,List.length_nil];omega,by simp only;omega,by rw[<-hf1];simp,hf2⟩,by simp only;omega⟩;simp only[go_sem,seval,wc]<;>simp
       rfl
      .simp only[bxx]at hge2;have:c=0:=by omega
       subst this;simp only[kH,List.append_nil]at hf1 hf2;unfold awS;simp only[go_sem,seval];refine aP (bR L q' 3) rfl rfl rfl ?_;have s3:=aG (L:=L) (k:=q') (n:=3);simp only[go_sem,seval];obtain⟨Sn,hSn⟩:∃Sn:Nat,aD L q' 3=Sn:=⟨(aD L q' 3).toNat,by omega⟩
       rw[hSn];refine aE (λ(x:Nat×List (List ClipR)×Nat) σ=>{ fr:=((aY [15,16,97,98,99,100,101,102,103,104,105,106,107,108,109,110,111,112,113,114,115,116,117,118,119,120,121,122,123,124,125,126,127,128,129,130,131,132,133,134,135,136,137,138,139,140,141,142,143,144,145,146,147,148,149,150,151] σ).fr.set 12 (.own 6)).set 14 (aA x.1),h:=[(8,aGg x.2.1),(7,aGg vs),(6,.box [cF (gL ⟨#[115]⟩ j),aA (nH L k).num,aA (nH L k).den,aA 16,aA 16,.own 7,.own 8,.t (.lit (.slice none 0 0)),aA (aD L (k+1) 3)]),(5,aE1 ss),(4,aGh ms),(3,.row 52 2 [.lit (.int .i64 0),.lit (.int .i64 0)] (aS [[.lit (.int .i64 25),.lit (.int .i64 1)],[.lit (.int .i64 24),.lit (.int .i64 1)],[.lit (.int .i64 30000),.lit (.int .i64 1001)]])),(2,.box [.own 4,.own 5]),(1,.box [.t (cM L),aA x.2.2]),(0,.box [.t (.lit (.slice none 0 0)),.t (.lit (.slice none 0 0))])],nx:=9 })
        (λx=>x.2.1.length+x.1<=3/\x.2.2+60*x.1<=q'+200/\x.2.1++(nR L i j (aD L (k+1) 3) x.1 x.2.2).1=(nR L i j (aD L (k+1) 3) Sn (q'+1)).1/\(nR L i j (aD L (k+1) 3) x.1 x.2.2).2=(nR L i j (aD L (k+1) 3) Sn (q'+1)).2) (λx=>x.1) (Sn,[],q'+1) (cA [(8,none),(7,some 7),(6,some 6),(5,some 5),(4,some 4),(3,some 3),(2,some 2),(1,some 1),(0,some 0)] ?_) ⟨by simp only[List.length_nil];omega,by simp only;omega,rfl,rfl⟩ ?_
       .simp only[go_sem,seval]<;>simp[aS]
       .rintro⟨c,as1,q2⟩ ⟨hc,hq2,hh1,hh2⟩;simp only at hc hq2 hh1 hh2;refine aB _ ?_;simp only[go_sem,seval];refine⟨λhlt3=>?_,λhge3=>?_⟩
        .simp only[bxx]at hlt3;obtain⟨c,rfl⟩:∃c',c=c'+1:=⟨c-1,by omega⟩
         simp only[nR]at hh1 hh2;have wc:IntKind.i64.wrap (((c+1:Nat):Int)-1)=(c:Int):=by rw[wrap64 (by omega) (by omega)];omega
         unfold awS;simp only[go_sem,seval];refine aP (bR L q2 4) rfl rfl rfl ?_;have s4:=aG (L:=L) (k:=q2) (n:=4);simp only[go_sem,seval];obtain⟨Tn,hTn⟩:∃Tn:Nat,aD L q2 4=Tn:=⟨(aD L q2 4).toNat,by omega⟩
         have hstk:Nd L i j (aD L (k+1) 3) q2=gH L i j (aD L (k+1) 3) Tn (q2+1):=by unfold Nd;rw[hTn];rfl
         rw[hstk]at hh1 hh2;rw[hTn];refine aE (λ(x:Nat×List ClipR×Nat) σ=>{ fr:=(((aY [114,115,116,117,118,119,120,121,122,123,124,125,126,127,128,129,130,131,132,133,134,135,136,137,138,139,140,141,142,143,144,145,146,147,148,149,150,151] σ).fr.set 12 (.own 6)).set 15 (.own 9)).set 16 (aA x.1),h:=[(9,RowC x.2.1),(8,aGg as1),(7,aGg vs),(6,.box [cF (gL ⟨#[115]⟩ j),aA (nH L k).num,aA (nH L k).den,aA 16,aA 16,.own 7,.own 8,.t (.lit (.slice none 0 0)),aA (aD L (k+1) 3)]),(5,aE1 ss),(4,aGh ms),(3,.row 52 2 [.lit (.int .i64 0),.lit (.int .i64 0)] (aS [[.lit (.int .i64 25),.lit (.int .i64 1)],[.lit (.int .i64 24),.lit (.int .i64 1)],[.lit (.int .i64 30000),.lit (.int .i64 1001)]])),(2,.box [.own 4,.own 5]),(1,.box [.t (cM L),aA x.2.2]),(0,.box [.t (.lit (.slice none 0 0)),.t (.lit (.slice none 0 0))])],nx:=10 })
          (λx=>x.2.1.length+x.1<=4/\x.2.2+19*x.1<=q2+58/\x.2.1++(gH L i j (aD L (k+1) 3) x.1 x.2.2).1=(gH L i j (aD L (k+1) 3) Tn (q2+1)).1/\(gH L i j (aD L (k+1) 3) x.1 x.2.2).2=(gH L i j (aD L (k+1) 3) Tn (q2+1)).2) (λx=>x.1) (Tn,[],q2+1) (cA [(9,none),(8,some 8),(7,some 7),(6,some 6),(5,some 5),(4,some 4),(3,some 3),(2,some 2),(1,some 1),(0,some 0)] ?_) ⟨by simp only[List.length_nil];omega,by simp only;omega,rfl,rfl⟩ ?_
         .simp only[go_sem,seval]<;>simp[aS]
         .rintro⟨d,cs,q4⟩ ⟨hd,hq4,hk1,hk2⟩;simp only at hd hq4 hk1 hk2;refine aB _ ?_;simp only[go_sem,seval];refine⟨λhlt4=>?_,λhge4=>?_⟩
          .simp only[bxx]at hlt4;obtain⟨d,rfl⟩:∃d',d=d'+1:=⟨d-1,by omega⟩
           simp only[gH]at hk1 hk2;have wd:IntKind.i64.wrap (((d+1:Nat):Int)-1)=(d:Int):=by rw[wrap64 (by omega) (by omega)];omega
           have hle:=aKu L q4 i j (aD L (k+1) 3);unfold awS;simp only[go_sem,seval];refine aP (cSoundC L q4 i j (aD L (k+1) 3) (by omega) (by omega) (by omega) (by omega)) rfl rfl rfl ?_;simp only[go_sem,seval];refine⟨⟨by unfold maxLen;omega,by omega⟩,(d,cs++[(nQ L q4 i j (aD L (k+1) 3)).1],(nQ L q4 i j (aD L (k+1) 3)).2),cA [(9,some 11),(8,some 8),(7,some 7),(6,some 6),(5,some 5),(4,some 4),(3,some 3),(2,some 2),(1,some 1),(0,some 0)] ?_,⟨by simp only[List.length_append,List.length_cons,List.length_nil];omega,by simp only;omega,by rw[<-hk1];simp,hk2⟩,by simp only;omega⟩;simp only[go_sem,seval,wd]<;>simp
           rfl
          .simp only[bxx]at hge4;have:d=0:=by omega
           subst this;simp only[gH,List.append_nil]at hk1 hk2;unfold awS;simp only[go_sem,seval];refine⟨⟨by unfold maxLen;omega,by omega⟩,(c,as1++[cs],q4),cA [(8,some 11),(7,some 7),(6,some 6),(5,some 5),(4,some 4),(3,some 3),(2,some 2),(1,some 1),(0,some 0)] ?_,⟨by simp only[List.length_append,List.length_cons,List.length_nil];omega,by simp only;omega,by rw[<-hh1,<-hk1,hk2];simp,by rw[<-hh2,hk2]⟩,by simp only;omega⟩;simp only[go_sem,seval,wc];have e:List.map fJ as1++[[T.list 22 (ClipR.c default) (List.map ClipR.c cs)]]=List.map fJ (as1++[cs]):=by rw[List.map_append];rfl
           rw[e];simp
        .simp only[bxx]at hge3;have:c=0:=by omega
         subst this;simp only[nR,List.append_nil]at hh1 hh2;unfold awS;simp only[go_sem,seval];refine aP (bR L q2 3) rfl rfl rfl ?_;have u3:=aG (L:=L) (k:=q2) (n:=3);simp only[go_sem,seval];obtain⟨Qn,hQn⟩:∃Qn:Nat,aD L q2 3=Qn:=⟨(aD L q2 3).toNat,by omega⟩
         rw[hQn];refine aE (λ(x:Nat×List CueR×Nat) σ=>{ fr:=((aY [15,16,108,109,110,111,112,113,114,115,116,117,118,119,120,121,122,123,124,125,126,127,128,129,130,131,132,133,134,135,136,137,138,139,140,141,142,143,144,145,146,147,148,149,150,151] σ).fr.set 12 (.own 6)).set 17 (aA x.1),h:=[(9,RowQ x.2.1),(8,aGg as1),(7,aGg vs),(6,.box [cF (gL ⟨#[115]⟩ j),aA (nH L k).num,aA (nH L k).den,aA 16,aA 16,.own 7,.own 8,.own 9,aA (aD L (k+1) 3)]),(5,aE1 ss),(4,aGh ms),(3,.row 52 2 [.lit (.int .i64 0),.lit (.int .i64 0)] (aS [[.lit (.int .i64 25),.lit (.int .i64 1)],[.lit (.int .i64 24),.lit (.int .i64 1)],[.lit (.int .i64 30000),.lit (.int .i64 1001)]])),(2,.box [.own 4,.own 5]),(1,.box [.t (cM L),aA x.2.2]),(0,.box [.t (.lit (.slice none 0 0)),.t (.lit (.slice none 0 0))])],nx:=10 })
          (λx=>x.2.1.length+x.1<=3/\x.2.2+5*x.1<=q2+11/\x.2.1++(eY L x.1 x.2.2).1=(eY L Qn (q2+1)).1/\(eY L x.1 x.2.2).2=(eY L Qn (q2+1)).2) (λx=>x.1) (Qn,[],q2+1) (cA [(9,none),(8,some 8),(7,some 7),(6,some 6),(5,some 5),(4,some 4),(3,some 3),(2,some 2),(1,some 1),(0,some 0)] ?_) ⟨by simp only[List.length_nil];omega,by simp only;omega,rfl,rfl⟩ ?_
         .simp only[go_sem,seval]<;>simp[aS]
         .rintro⟨d,es,q4⟩ ⟨hd,hq4,hk1,hk2⟩;simp only at hd hq4 hk1 hk2;refine aB _ ?_;simp only[go_sem,seval];refine⟨λhlt4=>?_,λhge4=>?_⟩
          .simp only[bxx]at hlt4;obtain⟨d,rfl⟩:∃d',d=d'+1:=⟨d-1,by omega⟩
           simp only[eY]at hk1 hk2;have wd:IntKind.i64.wrap (((d+1:Nat):Int)-1)=(d:Int):=by rw[wrap64 (by omega) (by omega)];omega
           have hle:=aDc L q4;unfold awS;simp only[go_sem,seval];refine aQ 8 .done (h:=?_);simp only[go_sem,seval];refine gZ (cCue L q4 (by omega)) rfl rfl rfl ?_;simp only[go_sem,seval];refine⟨⟨by unfold maxLen;omega,by omega⟩,by kernel_rfl,(d,es++[(pH L q4).1],(pH L q4).2),cA [(9,some 15),(8,some 8),(7,some 7),(6,some 6),(5,some 5),(4,some 4),(3,some 3),(2,some 2),(1,some 1),(0,some 0)] ?_,⟨by simp only[List.length_append,List.length_cons,List.length_nil];omega,by simp only;omega,by rw[<-hk1];simp,hk2⟩,by simp only;omega⟩;simp only[go_sem,seval,wd]<;>simp
           rfl
          .simp only[bxx]at hge4;have:d=0:=by omega
           subst this;simp only[eY,List.append_nil]at hk1 hk2;have hseq:Ch L i j k=(⟨gL ⟨#[115]⟩ j,nH L k,16,16,vs,as1,es,(aD L (k+1) 3)⟩,q4):=by
            have e1:(1+aD L (k+2) 2).toNat=Vn:=by rw[show k+2=k+1+1 from rfl,hV];rfl
            unfold Ch;simp only[e1,<-hf1,<-hf2,hSn,Int.toNat_natCast,<-hh1,<-hh2,hQn,<-hk1,<-hk2]
           unfold awS;simp only[go_sem,seval];refine⟨⟨by unfold maxLen;omega,by omega⟩,(j+1,ss++[(Ch L i j k).1],q4),cA [(5,some 11),(4,some 4),(3,some 3),(2,some 2),(1,some 1),(0,some 0)] ?_,⟨by simp only;omega,by simp only[List.length_append,List.length_cons,List.length_nil];omega,by simp only;omega,?_,?_⟩,by simp only;omega⟩
           .simp only[go_sem,seval];rw[hseq];have e:List.map SequenceR.c ss++[[T.lit (Value.string (gL ⟨#[115]⟩ j)),T.lit (Value.int IntKind.i64 (nH L k).num),T.lit (Value.int IntKind.i64 (nH L k).den),T.lit (Value.int IntKind.i64 16),T.lit (Value.int IntKind.i64 16),T.list 1 (fJ []) (List.map fJ vs),T.list 1 (fJ []) (List.map fJ as1),T.list 3 (CueR.c default) (List.map CueR.c es),T.lit (Value.int IntKind.i64 (aD L (k+1) 3))]]=List.map SequenceR.c (ss++[⟨gL ⟨#[115]⟩ j,nH L k,16,16,vs,as1,es,aD L (k+1) 3⟩]):=by rw[List.map_append];rfl
            simp only;rw[e];simp[bJ (show j<9223372036854775807 by omega)]
           .have hN1:N-j=(N-(j+1))+1:=by omega
            rw[hN1]at hg1;simp only[nU]at hg1;simp only;rw[<-hg1,hseq];simp
           .have hN1:N-j=(N-(j+1))+1:=by omega
            rw[hN1]at hg2;simp only[nU,hseq]at hg2;simp only;rw[<-hg2]
    .simp only[bxx]at hge;have:j=N:=by omega
     subst this;simp only[Nat.sub_self,nU,List.append_nil]at hg1 hg2;unfold awS;simp only[go_sem,seval];have hp:rQ L=⟨ms,ss⟩:=by
      unfold rQ;simp only[hM,hN,Int.toNat_natCast,<-he1,<-he2,<-hg1]
     rw[hp]
def nmA:ByteArray:=⟨#[97]⟩
def nmB:ByteArray:=⟨#[98]⟩
def nmS:ByteArray:=⟨#[115]⟩
def prjM(nm:ByteArray)(r:RatR):MediumR:=⟨nm,0,⟨0,0,r,false,0,0,λ_=>0⟩,16777216,2,16777216,[]⟩
def prjQ(r:RatR)(m:Int)(ts:List (List ClipR)):SequenceR:=⟨nmS,r,16,16,[],ts,[],m⟩
def aQa(ra rb r:RatR)(m:Int)(ts:List (List ClipR)):ProjR:=⟨[prjM nmA ra,prjM nmB rb],[prjQ r m ts]⟩
theorem aRx(s:SeqR)(n:ByteArray)(f c g:Int):pT (λi=>[(0,1),(1,1),(2,135),(137,1),(138,1),(139,1),(140,1)][i]?) (pP Tryz.z58) [(0,.t (.lit (.string n))),(2,.agg (aKd s)),(3,.t (.lit (.int .i64 f))),(4,.t (.lit (.int .i64 c))),(5,.t (.lit (.int .i64 g)))]=some (gN ⟨n,0,s,f,c,g,[]⟩ (.t (.lit (.slice none 0 0)))):=by
 rfl
def zSeqT:List T:=[mW ⟨#[]⟩,ti 0,ti 0,ti 0,ti 0,.lit (.slice none 0 0),.lit (.slice none 0 0),.lit (.slice none 0 0),ti 0]
theorem Ze{a b:T}:∀l:List T,Imp a b->Tm (l++[a]) (l++[b])
 |[],h=>⟨h,trivial⟩
 |x::l,h=>⟨aM,Ze l h⟩
theorem Jm(n:Int):aL Tryz.prog 32 [aA n] (bV ⟨n,1⟩):=by
 refine aF Tryz.X32 Tryz.func32 rfl Tryz.ntmps32 (by rw[Tryz.results32]) (aB _ ?_);simp only[go_sem,seval]<;>rfl
theorem aTk(at0 sp:RatR)(n:Int):aL Tryz.prog 33 [bV at0,bV sp,aA n] (kJ (cutC nmA at0 sp n 4096 0)):=by
 refine aF Tryz.X33 Tryz.func33 rfl Tryz.ntmps33 (by rw[Tryz.results33]) (aB _ ?_);simp only[go_sem,seval]<;>rfl
theorem Sb(r:RatR)(ts:List (List ClipR)):aL Tryz.prog 31 [bV r,.t (gC ts)] (jY (aQa r r r 1 ts)):=by
 refine Jj Tryz.X31 Tryz.func31 rfl Tryz.ntmps31 (by rw[Tryz.results31]) (aB _ ?_);have ww1:IntKind.i64.wrap 1=1:=by decide
 have ww2:IntKind.i64.wrap 2=2:=by decide
 have w01:IntKind.i64.wrap (0+1)=1:=by decide
 have w11:IntKind.i64.wrap (1+1)=2:=by decide
 simp only[go_sem,seval];refine bC ?_;refine aK (aB _ ?_);simp only[go_sem,dtf,seval,↓fillA,↓aRx,ww1];refine⟨by decide,?_⟩;refine aK (aB _ ?_);simp only[go_sem,dtf,seval,↓fillA,↓aRx,ww2];refine⟨by decide,?_⟩;refine aK (aB _ ?_);simp only[go_sem,dtf,seval];refine aBn (r':=.agg [.t (.list 141 (Tryz.z58.map T.lit) [yJ (prjM nmA r)++[.lit (.slice none 0 0)],yJ (prjM nmB r)++[.lit (.slice none 0 0)]]),.t (.list 9 zSeqT [[mW nmS,ti r.num,ti r.den,ti 16,ti 16,.lit (.slice none 0 0),gC ts,.lit (.slice none 0 0),ti 1]])]) ?_ rfl ?_
 .simp only[go_sem,seval]<;>rfl
 .refine Xc (by exact⟨Js (fQ ⟨Ze _ rD,Ze _ rD,trivial⟩),Js (fQ (by exact⟨⟨aM,aM,aM,aM,aM,rD,aM,rD,aM,trivial⟩,trivial⟩)),trivial⟩)
theorem Um{P:Program}{ops:List Oper}{Q:Exit->St->Prop}{l:List Oper}{σ:St}(n:Nat)(h:tC P ops (l.take n) (sF P ops Q (l.drop n)) σ):sF P ops Q l σ:=by
 have:=Np (l2:=l.drop n) (l.take n) σ h;rwa[List.take_append_drop]at this
theorem Vt:∀(xs:List (List T)),Dy xs xs
 |[]=>trivial
 |x::xs=>by
  have h1:∀l:List T,Tm l l:=λl=>by
   induction l with
   |nil=>exact trivial
   |cons a l ih=>exact⟨aM,ih⟩
  exact⟨h1 x,Vt xs⟩
theorem aT2(r:RatR)(c:ClipR){d1 d2:List T}:aL Tryz.prog 31 [bV r,.t (.list 1 d1 [[.list 22 d2 [ClipR.c c]]])] (jY (aQa r r r 1 [[c]])):=
 wR (.cons sT (.cons (Js (fQ (by exact⟨⟨fQ (Vt _),trivial⟩,trivial⟩))) .nil)) (Sb r [[c]])
theorem aAw{f:Nat->Int}{n:Nat}(h:∀i,-32768<=f i/\f i<=32767):aN9 (aAx f n):=λz hz=>by
 unfold aAx at hz;obtain⟨k,_,rfl⟩:=List.mem_map.1 hz;exact h k
theorem aGx(x:Int): -32768<=x.tmod 20000/\x.tmod 20000<=32767:=by
 have:=vQ x (n:=20000) (by decide);omega
def pA:List Int:=((List.replicate 4000 0).set 3840 77).set 1 6
def audA:List AudioR:=[⟨nmA,[pA]⟩]
theorem pA_len:pA.length=4000:=by unfold pA;rw[List.length_set,List.length_set,List.length_replicate]
theorem aEf(xs:List (List T))(n:Nat)(t:T):(aS xs).set n [V.t t]=aS (xs.set n [t]):=by
 unfold aS;rw[List.map_set];rfl
theorem i64s{n:Int}(h : -1000000<=n/\n<=1000000):I64 n:=⟨by omega,by omega⟩
theorem aDb{nm:ByteArray}{at0 sp:RatR}{len gain ch:Int}(fa:at0.fit)(fs:sp.fit)(hl : -1000000<=len/\len<=1000000)(hg : -1000000<=gain/\gain<=1000000)(hc : -1000000<=ch/\ch<=1000000):(cutC nm at0 sp len gain ch).fit:=by
 have i0:I64 0:=⟨by decide,by decide⟩
 have r0:(⟨0,0⟩:RatR).fit:=⟨i0,i0⟩
 have i1:I64 1:=⟨by decide,by decide⟩
 exact⟨i64s hl,i1,⟨i1,fa,fs⟩,⟨i0,r0,r0⟩,i0,i0,i0,i64s hg⟩
theorem aGy{p:ProjR}{A:List AudioR}{i:Nat}{f:Nat->List Int}{fr0:Int}:∀k:Nat,(∀j:Nat,j<k->Cc p A (eQ p A i) (p.seqs.getD i default) (fr0+j)=.ok (f j))->dT p A i fr0 k=.ok ((List.range k).map f)
 |0,_=>rfl
 |k+1,h=>by
  unfold dT;rw[aGy k λj hj=>h j (by omega)];dsimp only;rw[sL,h k (by omega)];dsimp only;rw[List.range_succ,List.map_append];rfl
def okB(e:Ev (List Int))(l:List Int):Bool:=
 match e with
 | .ok x=>x==l
 | .error _=>false
theorem okB_eq{e:Ev (List Int)}{l:List Int}(h:okB e l=true):e=.ok l:=by
 unfold okB at h;split at h
 .rw[beq_iff_eq]at h;rw[h]
 .cases h
theorem aTz:AudF audA:=by
 have h:(pA.all λz=>decide (-32768<=z)&&decide (z<=32767))=true:=by kernel_rfl
 refine⟨by decide,λa ha=>?_,λa ha q hq=>?_⟩
 .rw[List.mem_singleton.1 ha];decide
 .rw[List.mem_singleton.1 ha]at hq;have hq:q ∈ [pA]:=hq;rw[List.mem_singleton.1 hq];refine⟨by rw[pA_len];decide,λz hz=>?_⟩;have:=List.all_eq_true.1 h z hz;rw[Bool.and_eq_true,decide_eq_true_eq,decide_eq_true_eq]at this;exact this
abbrev awP (ts:List (List ClipR)):ProjR:=aQa ⟨25,1⟩ ⟨25,1⟩ ⟨25,1⟩ 1 ts
theorem awP_fit{ts:List (List ClipR)}(ht:∀t∈ts,∀c∈t,c.fit):(awP ts).fit:=by
 have i0:I64 0:=⟨by decide,by decide⟩
 have i1:I64 1:=⟨by decide,by decide⟩
 have i2:I64 2:=⟨by decide,by decide⟩
 have i24:I64 16777216:=⟨by decide,by decide⟩
 have i16:I64 16:=⟨by decide,by decide⟩
 have fa:(⟨25,1⟩:RatR).fit:=⟨⟨by decide,by decide⟩,i1⟩
 refine⟨λy hy=>?_,λy hy=>?_⟩
 .simp only[awP,aQa,List.mem_cons,List.not_mem_nil,or_false]at hy;rcases hy with rfl|rfl
  .exact⟨⟨i0,i0,fa,i0,i0⟩,i24,i2,i24,λc hc=>by cases hc⟩
  .exact⟨⟨i0,i0,fa,i0,i0⟩,i24,i2,i24,λc hc=>by cases hc⟩
 .simp only[awP,aQa,List.mem_cons,List.not_mem_nil,or_false]at hy;subst hy;exact⟨fa,i16,i16,λt ht=>(by cases ht),ht,λc hc=>(by cases hc),i1⟩
theorem aGa{ts:List (List ClipR)}{A:List AudioR}(hf:∀t∈ts,∀c∈t,c.fit)(hA:AudF A)(n:Nat)(hn:n<=1000)(f:Nat->List Int)(h1:eN (awP ts)=0)(h2:gU (awP ts) nmS=0)(h3:A.all nK=true)(h4:∀j:Nat,j<n->okB (Cc (awP ts) A (eQ (awP ts) A 0) ((awP ts).seqs.getD 0 default) (0+(j:Int))) (f j)=true){d:List Int}(hd:((List.range n).map f).map (λl=>l.getD 0 0)=d):
  aL Tryz.prog 10 [jY (awP ts),cF nmS,aA 0,aA n,.t (uJ A)] (.tup [.t (pY [d]),aA 0]):=by
 have h:=aJs (awP_fit hf) hA nmS 0 n ⟨by decide,by decide⟩ ⟨by omega,by omega⟩;have e:pZ (awP ts) A nmS 0 n=.ok [d]:=by
  unfold pZ;rw[h1,h2,h3,if_neg (by decide),if_neg (by decide),if_neg (by decide),if_neg (by omega),if_neg (by omega)];have hau:bG ((awP ts).seqs.getD (0:Int).toNat default).rate=true:=by
   show bG ⟨25,1⟩=true
   kernel_rfl
  rw[hau,if_neg (by
   rintro(h|h|h)
   .omega
   .omega
   .cases h),Int.toNat_natCast]
  have hs:=aGy (p:=awP ts) (A:=A) (i:=0) (f:=f) (fr0:=0) n λj hj=>okB_eq (h4 j hj)
  rw[show(0:Int).toNat=0 from rfl,hs];dsimp only;rw[<-hd];rfl
 rw[e]at h;exact h
theorem cP0:aL Tryz.prog 31 [bV ⟨25,1⟩,.t (.lit (.slice none 0 0))] (jY (awP [])):=
 wR (.cons sT (.cons aK4 .nil)) (Sb ⟨25,1⟩ [])
theorem cS0:aL Tryz.prog 10 [jY (awP []),cF nmS,aA 0,aA 3,.t (.lit (.slice none 0 0))] (.tup [.t (pY [[0,0,0]]),aA 0]):=by
 have h:=aGa (ts:=[]) (A:=[]) (λt ht=>by cases ht) ⟨by decide,λa ha=>(by cases ha),λa ha=>(by cases ha)⟩ 3 (by decide) (λ_=>[0]) (of_decide_eq_true (by kernel_rfl)) (of_decide_eq_true (by kernel_rfl)) rfl (λj hj=>by
  obtain rfl|rfl|rfl:j=0\/j=1\/j=2:=by omega
  all_goals kernel_rfl) (d:=[0,0,0]) rfl
 exact wR (.cons sT (.cons sT (.cons sT (.cons sT (.cons aK4 .nil))))) h
theorem a2:audA.all nK=true:=by kernel_rfl
theorem aK3{c:ClipR}(h:c.fit):∀t ∈ [[c]],∀x∈t,x.fit:=λt ht x hx=>by
 rw[List.mem_singleton.1 ht]at hx;rw[List.mem_singleton.1 hx];exact h
set_option maxHeartbeats 4000000 in
theorem aTp:aL Tryz.prog 13 [] (aR true):=by
 have nvA:∀(d:List T) (x:List V) (l:List (List V)),pL d (x::l) 0=x:=λ_ _ _=>rfl
 refine aF Tryz.X13 Tryz.func13 rfl Tryz.ntmps13 (by rw[Tryz.results13]) ?_;refine aH (aB _ ?_);simp only[go_sem,seval];refine aH (aB _ ?_);simp only[go_sem,Nat.reduceGT,Nat.reducePow,Nat.reduceLT,↓reduceIte,Nat.reduceAdd,Nat.reduceMul,Nat.reduceLeDiff,reduceCtorEq];obtain⟨R,hR⟩:∃R,R=List.replicate (Int.toNat 4000) [T.lit (.int .i16 0)]:=⟨_,rfl⟩
 have hRl:R.length=4000:=by rw[hR,List.length_replicate];rfl
 rw[<-hR];refine⟨⟨by decide,by decide,by decide⟩,?_⟩;have e1:nth [T.lit (.int .i16 0)] R 3840=[T.lit (.int .i16 0)]:=by
  unfold nth;rw[hR,List.getElem?_replicate,if_pos (by decide)];rfl
 have e2:pL [T.lit (.int .i16 0)] (aS (R.set 3840 [T.lit (.int .i16 77)])) 1=[V.t (T.lit (.int .i16 0))]:=by
  unfold pL aS;rw[List.getElem?_map,List.getElem?_set,if_neg (by decide),hR,List.getElem?_replicate,if_pos (by decide)];rfl
 have e3:(R.set 3840 [T.lit (.int .i16 77)]).set 1 [T.lit (.int .i16 6)]=pA.map c16:=by
  unfold pA;rw[List.map_set,List.map_set,List.map_replicate,hR];rfl
 have f01:(⟨0,1⟩:RatR).fit:=⟨⟨by decide,by decide⟩,⟨by decide,by decide⟩⟩
 have f11:(⟨1,1⟩:RatR).fit:=⟨⟨by decide,by decide⟩,⟨by decide,by decide⟩⟩
 have f21:(⟨2,1⟩:RatR).fit:=⟨⟨by decide,by decide⟩,⟨by decide,by decide⟩⟩
 have f12:(⟨1,2⟩:RatR).fit:=⟨⟨by decide,by decide⟩,⟨by decide,by decide⟩⟩
 have s1:=aGa (aK3 (aDb (nm:=nmA) (len:=5) (gain:=4096) (ch:=0) f21 f11 (by decide) (by decide) (by decide))) aTz 1 (by decide) (λ_=>[77]) (of_decide_eq_true (by kernel_rfl)) (of_decide_eq_true (by kernel_rfl)) a2 (λj hj=>by
  obtain rfl:j=0:=by omega
  kernel_rfl) (d:=[77]) rfl
 have s2:=aGa (aK3 (aDb (nm:=nmA) (len:=5) (gain:=4096) (ch:=0) f01 f12 (by decide) (by decide) (by decide))) aTz 2 (by decide) (λj=>if j=0 then [0]else [3]) (of_decide_eq_true (by kernel_rfl)) (of_decide_eq_true (by kernel_rfl)) a2 (λj hj=>by
  obtain rfl|rfl:j=0\/j=1:=by omega
  all_goals kernel_rfl) (d:=[0,3]) rfl
 refine aH (aB _ ?_);simp only[go_sem,seval];refine aQ 16 .done (h:=?_);simp only[go_sem,seval,nvA,hRl,e1,aEf,e2,e3,List.length_set,List.drop_nil];refine⟨by kernel_rfl,?_⟩;refine aH (aB _ ?_);simp only[go_sem,seval];refine⟨_,Jm 25,?_⟩;simp only[go_sem,seval];refine⟨_,cP0,?_⟩;simp only[go_sem,seval];refine⟨_,cS0,?_⟩;simp only[go_sem,seval];refine aH (aB _ ?_);simp only[go_sem,seval];refine⟨_,Jm 25,?_⟩;simp only[go_sem,seval];refine⟨_,Jm 2,?_⟩;simp only[go_sem,seval];refine⟨_,Jm 1,?_⟩;simp only[go_sem,seval];refine⟨_,aTk ⟨2,1⟩ ⟨1,1⟩ 5,?_⟩;simp only[go_sem,seval];refine qQ ?_;simp only[go_sem,seval];refine⟨_,aT2 ⟨25,1⟩ (cutC nmA ⟨2,1⟩ ⟨1,1⟩ 5 4096 0),?_⟩;simp only[go_sem,seval];refine qQ ?_;simp only[go_sem,seval];refine⟨_,s1,?_⟩;simp only[go_sem,seval];refine aH (aB _ ?_);simp only[go_sem,seval];refine⟨_,Jm 25,?_⟩;simp only[go_sem,seval];refine⟨_,Jm 0,?_⟩;simp only[go_sem,seval];refine⟨_,aTk ⟨0,1⟩ ⟨1,2⟩ 5,?_⟩;simp only[go_sem,seval];refine qQ ?_;simp only[go_sem,seval];refine⟨_,aT2 ⟨25,1⟩ (cutC nmA ⟨0,1⟩ ⟨1,2⟩ 5 4096 0),?_⟩;simp only[go_sem,seval];refine qQ ?_;simp only[go_sem,seval];refine⟨_,s2,?_⟩;simp only[go_sem,seval];refine aH (aB _ ?_);simp only[go_sem,seval];have z3:=Mm [[0,0,0]] (by simp) (by simp);have z1:=Mm [[77]] (by simp) (by simp);have z2:=Mm [[0,3]] (by simp) (by simp);refine aH (aU 2 ?_);simp only[go_sem,seval,List.take,List.drop];refine gA rfl (by simp only[go_sem,seval]) ?_;simp only[go_sem,seval];refine gA rfl (by simp only[go_sem,seval]) ?_;simp only[go_sem,seval];refine gA rfl (by simp only[go_sem,seval]) ?_;simp only[go_sem,seval];refine gA rfl (by simp only[go_sem,seval]) ?_;simp only[go_sem,seval];refine xP ?_;simp only[go_sem,seval];refine⟨_,z3,rfl,?_⟩;try simp only[go_sem,seval,dtf]
 refine Um 2 ?_;simp only[go_sem,seval,List.take,List.drop];refine gA rfl (by simp only[go_sem,seval]) ?_;try simp only[go_sem,seval]
 refine gA rfl (by simp only[go_sem,seval]) ?_;try simp only[go_sem,seval]
 refine gA rfl (by simp only[go_sem,seval]) ?_;try simp only[go_sem,seval]
 refine gA rfl (by simp only[go_sem,seval]) ?_;try simp only[go_sem,seval]
 refine xP ?_;try simp only[go_sem,seval]
 refine⟨_,z1,rfl,?_⟩;try simp only[go_sem,seval,dtf]
 refine Um 2 ?_;simp only[go_sem,seval,List.take,List.drop];refine gA rfl (by simp only[go_sem,seval]) ?_;try simp only[go_sem,seval]
 refine gA rfl (by simp only[go_sem,seval]) ?_;try simp only[go_sem,seval]
 refine gA rfl (by simp only[go_sem,seval]) ?_;try simp only[go_sem,seval]
 refine gA rfl (by simp only[go_sem,seval]) ?_;try simp only[go_sem,seval]
 refine xP ?_;try simp only[go_sem,seval]
 refine⟨_,z2,rfl,?_⟩;try simp only[go_sem,seval,dtf]
 refine dC ?_;try simp only[go_sem,seval]
 refine aB _ ?_;simp only[go_sem,seval]
structure SrcIn (m s:Int) (x:SourceR):Prop where
 m1:x.kind=1 ->∃i:Nat,(i:Int)<m/\x.name=gL ⟨#[109]⟩ i
 s2:x.kind=2 ->∃i:Nat,(i:Int)<s/\x.name=gL ⟨#[115]⟩ i
theorem aM5(m s:Int):SrcIn m s zSource:=⟨λh=>absurd h (by decide),λh=>absurd h (by decide)⟩
theorem rL(L:List Int)(k:Nat)(m s:Int)(hm:m<=9)(hs:s<=9):SrcIn m s (bM L k m s).1:=by
 unfold bM;split
 .exact aM5 m s
 .split
  .rename_i h1;simp only[Bool.and_eq_true,decide_eq_true_eq]at h1;have:=aG (L:=L) (k:=k+5) (n:=s);exact⟨λh=>(by simp at h),λ_=>⟨(aD L (k+5) s).toNat,by omega,by simp only;rw[Int.toNat_of_nonneg this.1]⟩⟩
  .split
   .rename_i h1;have:=aG (L:=L) (k:=k+5) (n:=m);exact⟨λ_=>⟨(aD L (k+5) m).toNat,by omega,by simp only;rw[Int.toNat_of_nonneg this.1]⟩,λh=>(by simp at h)⟩
   .exact aM5 m s
structure VidOk (m s:Int) (c:ClipR):Prop where
 a:SrcIn m s c.a
 b:SrcIn m s c.b
 sil:kV c=true
theorem aG0(L:List Int)(k:Nat)(m s:Int)(hm:m<=9)(hs:s<=9):VidOk m s (cR L k m s).1:=by
 have h1:=rL L (k+2) m s hm hs;have h2:=rL L (bM L (k+2) m s).2 m s hm hs;have z:=aM5 m s;unfold cR;simp only;split
 .exact⟨z,z,rfl⟩
 .split
  .split<;>exact⟨h1,h2,rfl⟩
  .split
   .exact⟨h1,h2,rfl⟩
   .split<;>exact⟨h1,z,rfl⟩
theorem aKt{m s:Int}{c:ClipR}(h:VidOk m s c)(n:Int):VidOk m s (gM c n):=⟨⟨h.a.m1,h.a.s2⟩,h.b,h.sil⟩
theorem aA7(L:List Int)(k:Nat)(m s:Int)(hm:m<=9)(hs:s<=9):∀c∈(fB L k m s).1,VidOk m s c:=by
 have h1:=aG0 L k m s hm hs;unfold fB;split
 .split
  .intro c hc;simp only[List.mem_cons,List.not_mem_nil,or_false]at hc;rcases hc with rfl|rfl
   .exact h1
   .exact aKt h1 _
  .intro c hc;simp only[List.mem_cons,List.not_mem_nil,or_false]at hc;rw[hc];exact h1
 .intro c hc;simp only[List.mem_cons,List.not_mem_nil,or_false]at hc;rw[hc];exact h1
theorem Tx(L:List Int)(m s:Int)(hm:m<=9)(hs:s<=9):∀(n k:Nat),∀c∈(pR L m s n k).1,VidOk m s c
 |0,k=>λc hc=>by simp[pR]at hc
 |n+1,k=>λc hc=>by
  simp only[pR]at hc;rcases List.mem_append.1 hc with hc|hc
  .exact aA7 L k m s hm hs c hc
  .exact Tx L m s hm hs n _ c hc
structure SndOk (m s ch:Int) (c:ClipR):Prop where
 a:SrcIn m s c.a
 b:SrcIn m s c.b
 ok:cG c=true
 aud:uG ch c=true
 l9:c.len<=9
theorem vA{x:SourceR}(h:aT x=true):aT (gP x)=true:=by
 unfold aT at h⊢;rw[Bool.or_eq_true]at h⊢;rcases h with h|h
 .refine .inl ?_;unfold SourceR.isZ SourceR.eqb at h⊢;simp only[Bool.and_eq_true]at h⊢;exact⟨h.1,rfl⟩
 .exact .inr h
theorem Pd{m s:Int}{x:SourceR}(h:SrcIn m s x):SrcIn m s (gP x):=⟨h.m1,h.s2⟩
theorem Bu(i:Nat):0<=sGains.getD i 0/\sGains.getD i 0<=65536:=by
 rcases i with _|_|_|_|_|_|i<;>simp[sGains]
theorem snd0{m s ch len:Int}(hl:1<=len/\len<=9):SndOk m s ch ⟨len,0,zSource,zSource,0,0,0,⟨#[]⟩,0,[]⟩:=by
 have ez:zSource.isZ=true:=Xf;refine⟨aM5 m s,aM5 m s,?_,rfl,hl.2⟩;unfold cG nC;simp only[Zx,decide_eq_true hl.1,decide_eq_true (by omega:len<=2147483647),Bool.and_true];simp[cP,dR,emp,ez,fG]
theorem snd1{m s ch len g:Int}{C:List Int}{a:SourceR}(hl:1<=len/\len<=9)(hg:0<=g/\g<=65536)(hC:fG C=true)(va:aT a=true)(ia:SrcIn m s a)(hc:(C.length:Int)=ch):SndOk m s ch ⟨len,1,gP a,zSource,0,0,0,⟨#[]⟩,g,C⟩:=by
 have ez:zSource.isZ=true:=Xf;refine⟨Pd ia,aM5 m s,?_,?_,hl.2⟩
 .unfold cG nC;simp only[Zx,vA va,hC,decide_eq_true hl.1,decide_eq_true (by omega:len<=2147483647),decide_eq_true hg.1,decide_eq_true hg.2,Bool.and_true];simp[cP,dR,emp,ez]
 .unfold uG;simp[gP,hc]
theorem snd2{m s ch len g o t:Int}{C:List Int}{a b:SourceR}(hl:1<=len/\len<=9)(hg:0<=g/\g<=65536)(hC:fG C=true)(va:aT a=true)(vb:aT b=true)(ia:SrcIn m s a)(ib:SrcIn m s b)(hc:(C.length:Int)=ch)(h0:0<=o)(h1:o+len<=t)(h2:t<=1000):SndOk m s ch ⟨len,2,gP a,gP b,o,t,0,⟨#[]⟩,g,C⟩:=by
 refine⟨Pd ia,Pd ib,?_,?_,hl.2⟩
 .unfold cG nC;simp only[vA vb,vA va,hC,decide_eq_true hl.1,decide_eq_true (by omega:len<=2147483647),decide_eq_true hg.1,decide_eq_true hg.2,Bool.and_true];simp[cP,fS,emp];omega
 .unfold uG;simp[gP,hc]
theorem Xx(L:List Int)(k:Nat)(m s:Int)(hm:m<=9)(hs:s<=9):SndOk m s 0 (gG L k m s).1:=by
 have n9:=aG (L:=L) (k:=k) (n:=9);have n4:=aG (L:=L) (k:=k+1) (n:=4);obtain⟨kd,hkd⟩:∃kd,sKinds.getD (aD L (k+1) 4).toNat 0=kd:=⟨_,rfl⟩
 have hk5:kd=0\/kd=1\/kd=2:=by
  have:(aD L (k+1) 4).toNat=0\/(aD L (k+1) 4).toNat=1\/(aD L (k+1) 4).toNat=2\/(aD L (k+1) 4).toNat=3:=by omega
  unfold sKinds at hkd;rcases this with h|h|h|h<;>rw[h]at hkd<;>simp at hkd<;>omega
 obtain⟨len,hlen⟩:∃len,1+aD L k 9=len:=⟨_,rfl⟩
 have hl:1<=len/\len<=9:=by omega
 have va:=(gD L (k+2) m s hm hs).1;have vb:=(gD L (bM L (k+2) m s).2 m s hm hs).1;have ia:=rL L (k+2) m s hm hs;have ib:=rL L (bM L (k+2) m s).2 m s hm hs;generalize ha:bM L (k+2) m s=a at va vb ia ib;generalize hb:bM L a.2 m s=b at vb ib;have o3:=aG (L:=L) (k:=b.2) (n:=3);have p3:=aG (L:=L) (k:=b.2+1) (n:=3);unfold gG;simp only[hkd,hlen,ha,hb];rcases hk5 with rfl|rfl|rfl
 .exact snd0 hl
 .refine snd1 hl (Bu _) ?_ va ia ?_
  .simp[fG]<;>(have:= @aG L (a.2+1) 4;have:= @aG L (a.2+2) 4;omega)
  .rfl
 .refine snd2 hl (Bu _) ?_ va vb ia ib ?_ (by omega) (by omega) (by omega)
  .simp[fG]<;>(have:= @aG L (b.2+3) 4;have:= @aG L (b.2+4) 4;omega)
  .rfl
theorem Xv(L:List Int)(k:Nat)(m s:Int)(hm:m<=9)(hs:s<=9):SndOk m s 1 (gF L k m s).1:=by
 have n9:=aG (L:=L) (k:=k) (n:=9);have n4:=aG (L:=L) (k:=k+1) (n:=4);obtain⟨kd,hkd⟩:∃kd,sKinds.getD (aD L (k+1) 4).toNat 0=kd:=⟨_,rfl⟩
 have hk5:kd=0\/kd=1\/kd=2:=by
  have:(aD L (k+1) 4).toNat=0\/(aD L (k+1) 4).toNat=1\/(aD L (k+1) 4).toNat=2\/(aD L (k+1) 4).toNat=3:=by omega
  unfold sKinds at hkd;rcases this with h|h|h|h<;>rw[h]at hkd<;>simp at hkd<;>omega
 obtain⟨len,hlen⟩:∃len,1+aD L k 9=len:=⟨_,rfl⟩
 have hl:1<=len/\len<=9:=by omega
 have va:=(gD L (k+2) m s hm hs).1;have vb:=(gD L (bM L (k+2) m s).2 m s hm hs).1;have ia:=rL L (k+2) m s hm hs;have ib:=rL L (bM L (k+2) m s).2 m s hm hs;generalize ha:bM L (k+2) m s=a at va vb ia ib;generalize hb:bM L a.2 m s=b at vb ib;have o3:=aG (L:=L) (k:=b.2) (n:=3);have p3:=aG (L:=L) (k:=b.2+1) (n:=3);unfold gF;simp only[hkd,hlen,ha,hb];rcases hk5 with rfl|rfl|rfl
 .exact snd0 hl
 .refine snd1 hl (Bu _) ?_ va ia ?_
  .simp[fG]<;>(have:= @aG L (a.2+1) 4;have:= @aG L (a.2+2) 4;omega)
  .rfl
 .refine snd2 hl (Bu _) ?_ va vb ia ib ?_ (by omega) (by omega) (by omega)
  .simp[fG]<;>(have:= @aG L (b.2+3) 4;have:= @aG L (b.2+4) 4;omega)
  .rfl
theorem aAp(L:List Int)(k:Nat)(m s:Int)(hm:m<=9)(hs:s<=9):SndOk m s 2 (kC L k m s).1:=by
 have n9:=aG (L:=L) (k:=k) (n:=9);have n4:=aG (L:=L) (k:=k+1) (n:=4);obtain⟨kd,hkd⟩:∃kd,sKinds.getD (aD L (k+1) 4).toNat 0=kd:=⟨_,rfl⟩
 have hk5:kd=0\/kd=1\/kd=2:=by
  have:(aD L (k+1) 4).toNat=0\/(aD L (k+1) 4).toNat=1\/(aD L (k+1) 4).toNat=2\/(aD L (k+1) 4).toNat=3:=by omega
  unfold sKinds at hkd;rcases this with h|h|h|h<;>rw[h]at hkd<;>simp at hkd<;>omega
 obtain⟨len,hlen⟩:∃len,1+aD L k 9=len:=⟨_,rfl⟩
 have hl:1<=len/\len<=9:=by omega
 have va:=(gD L (k+2) m s hm hs).1;have vb:=(gD L (bM L (k+2) m s).2 m s hm hs).1;have ia:=rL L (k+2) m s hm hs;have ib:=rL L (bM L (k+2) m s).2 m s hm hs;generalize ha:bM L (k+2) m s=a at va vb ia ib;generalize hb:bM L a.2 m s=b at vb ib;have o3:=aG (L:=L) (k:=b.2) (n:=3);have p3:=aG (L:=L) (k:=b.2+1) (n:=3);unfold kC;simp only[hkd,hlen,ha,hb];rcases hk5 with rfl|rfl|rfl
 .exact snd0 hl
 .refine snd1 hl (Bu _) ?_ va ia ?_
  .simp[fG]<;>(have:= @aG L (a.2+1) 4;have:= @aG L (a.2+2) 4;omega)
  .rfl
 .refine snd2 hl (Bu _) ?_ va vb ia ib ?_ (by omega) (by omega) (by omega)
  .simp[fG]<;>(have:= @aG L (b.2+3) 4;have:= @aG L (b.2+4) 4;omega)
  .rfl
theorem aEk(L:List Int)(k:Nat)(m s ch:Int)(hm:m<=9)(hs:s<=9)(hc:0<=ch/\ch<=2):SndOk m s ch (nQ L k m s ch).1:=by
 unfold nQ;split
 .rename_i h;subst h;exact Xx L k m s hm hs
 .split
  .rename_i h;subst h;exact Xv L k m s hm hs
  .have:ch=2:=by omega
   subst this;exact aAp L k m s hm hs
theorem aS4:((List.range 4).all λi=>jZ (cueLines.getD i ⟨#[]⟩))=true:=by kernel_rfl
theorem Wj(L:List Int)(k:Nat):jZ (Rr L k)=true:=by
 have t:=aG (L:=L) (k:=k) (n:=4);exact List.all_eq_true.1 aS4 _ (List.mem_range.2 (by omega))
theorem aS5(L:List Int)(k:Nat):vK (pH L k).1=true/\(pH L k).1.fit:=by
 have t50:=aG (L:=L) (k:=k) (n:=50);have t20:=aG (L:=L) (k:=k+1) (n:=20);have l3:=Wj L (k+3);have l4:=Wj L (k+4);unfold pH;split
 .refine⟨?_,bU (by simp only;omega) (by simp only;omega),bU (by simp only;omega) (by simp only;omega)⟩;simp[vK,Kz,l3];omega
 .refine⟨?_,bU (by simp only;omega) (by simp only;omega),bU (by simp only;omega) (by simp only;omega)⟩;simp[vK,Kz,l3,l4];omega
theorem Jh(L:List Int):∀(n k:Nat),(eY L n k).1.length=n /\∀c∈(eY L n k).1,vK c=true/\c.fit
 |0,k=>⟨rfl,λc hc=>by cases hc⟩
 |n+1,k=>by
  obtain⟨h1,h2⟩:=Jh L n (pH L k).2;refine⟨by simp only[eY,List.length_cons,h1],λc hc=>?_⟩;simp only[eY]at hc;rcases List.mem_cons.1 hc with rfl|hc
  .exact aS5 L k
  .exact h2 c hc
theorem aBh(L:List Int)(k:Nat):tH (nH L k)=true/\(nH L k).fit:=by
 have t:=aG (L:=L) (k:=k) (n:=3);have:(aD L k 3).toNat=0\/(aD L k 3).toNat=1\/(aD L k 3).toNat=2:=by omega
 unfold nH;rcases this with h|h|h<;>rw[h]
 .exact⟨by decide,bU (by decide) (by decide),bU (by decide) (by decide)⟩
 .exact⟨by decide,bU (by decide) (by decide),bU (by decide) (by decide)⟩
 .exact⟨by decide,bU (by decide) (by decide),bU (by decide) (by decide)⟩
structure MedGood (i:Nat) (y:MediumR):Prop where
 name:y.name=gL ⟨#[109]⟩ i
 ok:eV y=true
 fit:y.fit
 small:fN y=true
theorem aFa(L:List Int)(i k:Nat)(hi:i<9):MedGood i (tR L i k).1:=by
 obtain⟨c1,c2⟩:=Jh L (aD L (k+5) 3).toNat (k+6);obtain⟨r1,r2⟩:=aBh L (k+1);have t40:=aG (L:=L) (k:=k+2) (n:=40);have t3:=aG (L:=L) (k:=k+3) (n:=3);have ts:=aG (L:=L) (k:=k+4) (n:=20000);have tc:=aG (L:=L) (k:=k+5) (n:=3);have i16:I64 16:=bU (by decide) (by decide);have i4:I64 400000:=bU (by decide) (by decide);refine⟨rfl,?_,⟨⟨i16,i16,r2,i4,i4⟩,bU (by simp only[tR];omega) (by simp only[tR];omega),bU (by simp only[tR];omega) (by simp only[tR];omega),bU (by simp only[tR];omega) (by simp only[tR];omega),λc hc=>(c2 c hc).2⟩,?_⟩
 .have e1:fF (gL ⟨#[109]⟩ (i:Int))=true:=(Aw (i:Int) (by omega) (by omega)).2;have e2:pG (eY L (aD L (k+5) 3).toNat (k+6)).1=true:=List.all_eq_true.2 λc hc=>(c2 c hc).1
  unfold eV Gh sJ;simp only[tR,Vw,e1,e2,r1,Bool.and_true,Bool.true_and,Bool.and_eq_true];exact⟨⟨⟨decide_eq_true (by omega),decide_eq_true (by omega)⟩,decide_eq_true (by omega),decide_eq_true (by omega)⟩,decide_eq_true (by omega),decide_eq_true (by omega)⟩
 .unfold fN;simp only[tR,c1,decide_eq_true_eq];omega
theorem Kn(L:List Int):∀(n i k:Nat),i+n<=9->(mK L n i k).1.length=n /\∀x,x<n->MedGood (i+x) ((mK L n i k).1.getD x default)
 |0,i,k,_=>⟨rfl,λx hx=>absurd hx (Nat.not_lt_zero _)⟩
 |n+1,i,k,h=>by
  obtain⟨h1,h2⟩:=Kn L n (i+1) (tR L i k).2 (by omega);refine⟨by simp only[mK,List.length_cons,h1],λx hx=>?_⟩;simp only[mK];rcases x with _|x
  .exact aFa L i k (by omega)
  .have:=h2 x (by omega);rw[show i+(x+1)=i+1+x by omega];simpa using this
structure SeqGood (m:Int) (j:Nat) (y:SequenceR):Prop where
 name:y.name=gL ⟨#[115]⟩ j
 ok:cY y=true
 fit:y.fit
 small:dX y=true
 src:∀t∈y.video++y.sound,∀c∈t,SrcIn m j c.a/\SrcIn m j c.b
theorem Tr(L:List Int)(m s:Int)(hm:m<=9)(hs:s<=9):∀(n k:Nat),(kH L m s n k).1.length=n /\∀t∈(kH L m s n k).1,cL t=true /\∀c∈t,c.fit/\VidOk m s c
 |0,k=>⟨rfl,λc hc=>by cases hc⟩
 |n+1,k=>by
  obtain⟨h1,h2⟩:=Tr L m s hm hs n (rK L k m s 5).2;refine⟨by simp only[kH,List.length_cons,h1],λt ht=>?_⟩;simp only[kH]at ht;rcases List.mem_cons.1 ht with rfl|ht
  .obtain⟨n1,n2⟩:=aA9 L k m s 5 hm hs (by omega) (by omega);exact⟨aA2 n1 (by omega),λc hc=>⟨(n1 c hc).fit,Tx L m s hm hs _ _ c hc⟩⟩
  .exact h2 t ht
theorem Kb(L:List Int)(m s ch:Int)(hm:m<=9)(hs:s<=9)(hc:0<=ch/\ch<=2):∀(n k:Nat),(gH L m s ch n k).1.length=n /\∀c∈(gH L m s ch n k).1,c.fit/\SndOk m s ch c
 |0,k=>⟨rfl,λc hc=>by cases hc⟩
 |n+1,k=>by
  obtain⟨h1,h2⟩:=Kb L m s ch hm hs hc n (nQ L k m s ch).2;refine⟨by simp only[gH,List.length_cons,h1],λc hcc=>?_⟩;simp only[gH]at hcc;rcases List.mem_cons.1 hcc with rfl|hcc
  .exact⟨aEm L k m s ch hm hs,aEk L k m s ch hm hs hc⟩
  .exact h2 c hcc
theorem aEa{t:List ClipR}{m s ch:Int}(h:∀c∈t,SndOk m s ch c)(hl:t.length<=64):cL t=true:=by
 have h1:=Hd t λc hc=>(h c hc).l9
 unfold cL;rw[decide_eq_true hl,decide_eq_true (by omega:cJ t<=2147483647),List.all_eq_true.2 λc hc=>(h c hc).ok];rfl
theorem Uf(L:List Int)(m s ch:Int)(hm:m<=9)(hs:s<=9)(hc:0<=ch/\ch<=2):∀(n k:Nat),(nR L m s ch n k).1.length=n /\∀t∈(nR L m s ch n k).1,cL t=true /\∀c∈t,c.fit/\SndOk m s ch c
 |0,k=>⟨rfl,λc hc=>by cases hc⟩
 |n+1,k=>by
  obtain⟨h1,h2⟩:=Uf L m s ch hm hs hc n (Nd L m s ch k).2;refine⟨by simp only[nR,List.length_cons,h1],λt ht=>?_⟩;simp only[nR]at ht;rcases List.mem_cons.1 ht with rfl|ht
  .obtain⟨n1,n2⟩:=Kb L m s ch hm hs hc (aD L k 4).toNat (k+1);have t4:=aG (L:=L) (k:=k) (n:=4);exact⟨aEa (λc hc=>(n2 c hc).2) (by unfold Nd;omega),n2⟩
  .exact h2 t ht
theorem aEu(L:List Int)(m:Int)(j k:Nat)(hm:m<=9)(hj:j<9):SeqGood m j (Ch L m j k).1:=by
 have t3:=aG (L:=L) (k:=k+1) (n:=3);have t2:=aG (L:=L) (k:=k+2) (n:=2);obtain⟨v1,v2⟩:=Tr L m j hm (by omega) (1+aD L (k+2) 2).toNat (k+3);have ta:=aG (L:=L) (k:=(kH L m j (1+aD L (k+2) 2).toNat (k+3)).2) (n:=3);obtain⟨a1,a2⟩:=Uf L m j (aD L (k+1) 3) hm (by omega) (by omega) (aD L (kH L m j (1+aD L (k+2) 2).toNat (k+3)).2 3).toNat ((kH L m j (1+aD L (k+2) 2).toNat (k+3)).2+1);generalize hV:kH L m j (1+aD L (k+2) 2).toNat (k+3)=V1 at v1 v2 ta a1 a2;generalize hA:nR L m j (aD L (k+1) 3) (aD L V1.2 3).toNat (V1.2+1)=A1 at a1 a2;have tc:=aG (L:=L) (k:=A1.2) (n:=3);obtain⟨c1,c2⟩:=Jh L (aD L A1.2 3).toNat (A1.2+1);generalize hC:eY L (aD L A1.2 3).toNat (A1.2+1)=C1 at c1 c2;obtain⟨r1,r2⟩:=aBh L k;have e:(Ch L m j k).1=⟨gL ⟨#[115]⟩ j,nH L k,16,16,V1.1,A1.1,C1.1,aD L (k+1) 3⟩:=by
  unfold Ch;simp only[hV,hA,hC]
 rw[e];have i16:I64 16:=bU (by decide) (by decide);refine⟨rfl,?_,⟨r2,i16,i16,λt ht c hc=>((v2 t ht).2 c hc).1,λt ht c hc=>((a2 t ht).2 c hc).1,λc hc=>(c2 c hc).2,bU (by simp only;omega) (by simp only;omega)⟩,?_,?_⟩
 .have e1:fF (gL ⟨#[115]⟩ (j:Int))=true:=(Aw (j:Int) (by omega) (by omega)).1;have e2:pG C1.1=true:=List.all_eq_true.2 λc hc=>(c2 c hc).1
  have e3:V1.1.all pQ=true:=List.all_eq_true.2 λt ht=>by
   unfold pQ;rw[(v2 t ht).1,List.all_eq_true.2 λc hc=>((v2 t ht).2 c hc).2.sil];rfl
  have e4:A1.1.all (rM (aD L (k+1) 3))=true:=List.all_eq_true.2 λt ht=>by
   unfold rM;rw[(a2 t ht).1,List.all_eq_true.2 λc hc=>((a2 t ht).2 c hc).2.aud];rfl
  have e5:sJ (aD L (k+1) 3)=true:=by
   unfold sJ;rw[decide_eq_true t3.1,decide_eq_true (by omega:aD L (k+1) 3<=4)];rfl
  have e6:nT 16=true:=by decide
  unfold cY uM;simp only[e1,e2,e3,e4,e5,e6,r1,Bool.and_true]
 .unfold dX;simp only[v1,a1,c1,Bool.and_eq_true,decide_eq_true_eq];omega
 .intro t ht c hc;rcases List.mem_append.1 ht with ht|ht
  .exact⟨((v2 t ht).2 c hc).2.a,((v2 t ht).2 c hc).2.b⟩
  .exact⟨((a2 t ht).2 c hc).2.a,((a2 t ht).2 c hc).2.b⟩
theorem Ka(L:List Int)(m:Int)(hm:m<=9):∀(n i k:Nat),i+n<=9->(nU L m n i k).1.length=n /\∀x,x<n->SeqGood m (i+x) ((nU L m n i k).1.getD x default)
 |0,i,k,_=>⟨rfl,λx hx=>absurd hx (Nat.not_lt_zero _)⟩
 |n+1,i,k,h=>by
  obtain⟨h1,h2⟩:=Ka L m hm n (i+1) (Ch L m i k).2 (by omega);refine⟨by simp only[nU,List.length_cons,h1],λx hx=>?_⟩;simp only[nU];rcases x with _|x
  .exact aEu L m i k hm (by omega)
  .have:=h2 x (by omega);rw[show i+(x+1)=i+1+x by omega];simpa using this
theorem Kh(L:List Int):∃M N:Nat,1<=M/\M<=3/\1<=N/\N<=3/\(rQ L).media.length=M/\(rQ L).seqs.length=N/\(∀x,x<M->MedGood x ((rQ L).media.getD x default)) /\∀x,x<N->SeqGood M x ((rQ L).seqs.getD x default):=by
 have n1:=aG (L:=L) (k:=0) (n:=3);have n2:=aG (L:=L) (k:=1) (n:=3);obtain⟨M,hM⟩:∃M:Nat,1+aD L 0 3=M:=⟨(1+aD L 0 3).toNat,by omega⟩
 obtain⟨N,hN⟩:∃N:Nat,1+aD L 1 3=N:=⟨(1+aD L 1 3).toNat,by omega⟩
 obtain⟨a1,a2⟩:=Kn L M 0 2 (by omega);obtain⟨b1,b2⟩:=Ka L M (by omega) N 0 (mK L M 0 2).2 (by omega);refine⟨M,N,by omega,by omega,by omega,by omega,?_⟩;unfold rQ;rw[hM,hN];simp only[Int.toNat_natCast];exact⟨a1,b1,λx hx=>by have:=a2 x hx;rwa[Nat.zero_add]at this,λx hx=>by have:=b2 x hx;rwa[Nat.zero_add]at this⟩
theorem aF9{α:Type}[Inhabited α]{l:List α}{x:α}(h:x∈l):∃i,i<l.length/\l.getD i default=x:=by
 obtain⟨i,hi,rfl⟩:=List.getElem_of_mem h;exact⟨i,hi,bB hi⟩
theorem aLa(L:List Int):(rQ L).fit:=by
 obtain⟨M,N,_,_,_,_,h1,h2,h3,h4⟩:=Kh L;refine⟨λy hy=>?_,λy hy=>?_⟩
 .obtain⟨i,hi,rfl⟩:=aF9 hy;exact(h3 i (by omega)).fit
 .obtain⟨i,hi,rfl⟩:=aF9 hy;exact(h4 i (by omega)).fit
theorem Nc:∀l:List T,Go.Proofs.YtkjdkbmfaamhaaaGreat.tCells (l.map V.t)=some l
 |[]=>rfl
 |x::l=>by simp only[List.map_cons,tCells,Nc l];rfl
@[go_sem] theorem vmed_tCells(m:MediumR):Go.Proofs.YtkjdkbmfaamhaaaGreat.tCells (mV m)=some (MediumR.c m):=by
 exact Nc _
@[go_sem] theorem vmed_get0(m:MediumR):(mV m)[0]?=some (cF m.name):=rfl
@[go_sem] theorem vmed_put0(m:MediumR)(n:ByteArray):List.take 0 (mV m)++[V.t (.lit (.string n))]++List.drop 1 (mV m)=mV { m with name:=n }:=rfl
@[go_sem] theorem vmed_put0'(m:MediumR)(n:ByteArray):V.t (.lit (.string n))::List.drop 1 (mV m)=mV { m with name:=n }:=rfl
@[go_sem] theorem vmed_put137(m:MediumR)(x:Int):List.take 137 (mV m)++[V.t (.lit (.int .i64 x))]++List.drop 138 (mV m)=mV { m with frames:=x }:=rfl
theorem aPm{α:Type}{l:List α}{k:Nat}{x:α}(h:k<l.length)(hx:l[k]=x):l.set k x=l:=by
 refine List.ext_getElem (by simp) λi h1 h2=>?_
 rw[List.getElem_set];split
 .rename_i e;subst e;exact hx.symm
 .rfl
def aEr(nm:ByteArray):ClipR:=⟨3,1,⟨2,nm,⟨0,1⟩,⟨1,1⟩,false⟩,zSource,0,0,0,⟨#[]⟩,0,[]⟩
def Uk(i:Int):SequenceR:=⟨gL ⟨#[115]⟩ i,⟨25,1⟩,16,16,[[aEr (gL ⟨#[115]⟩ (i-1))]],[],[],0⟩
def zH(L:List Int):Nat->Nat->List SequenceR->List SequenceR
 |0,_,s=>s
 |f+1,q,s=>if(s.length:Int)<4+aD L q 4 then zH L f (q+1) (s++[Uk s.length])else s
def zS(p:ProjR)(a:Nat):MediumR:=p.media.getD a default
def bX(p:ProjR)(b:Nat):SequenceR:=p.seqs.getD b default
def oddK(p:ProjR)(L:List Int)(a b:Nat)(k:Int):ProjR:=
 if k=0/\1<p.media.length then ⟨p.media.set a { zS p a with name:=(zS p ((a+1)%p.media.length)).name },p.seqs⟩
 else if k=1 then ⟨p.media.take a++p.media.drop (a+1),p.seqs⟩
 else if k=2 then ⟨p.media,p.seqs.set b { bX p b with name:=⟨#[66,105,103]⟩ }⟩
 else if k=3 then ⟨p.media,p.seqs.set b { bX p b with w:=20 }⟩
 else if k=4 then ⟨p.media,p.seqs.set b { bX p b with rate:=⟨2,2⟩ }⟩
 else if k=5 then ⟨p.media.set a { zS p a with frames:= -1 },p.seqs⟩
 else if k=6/\1<p.seqs.length then ⟨p.media,p.seqs.set b { bX p b with name:=(bX p ((b+1)%p.seqs.length)).name }⟩
 else if k=7 then ⟨p.media,p.seqs.set b { bX p b with video:=(bX p b).video++[[aEr (gL ⟨#[115]⟩ (aD L 3 4))]] }⟩
 else if k=8 then ⟨p.media,p.seqs.set b { bX p b with sound:=(bX p b).sound++[[(cR L 3 2 1).1]] }⟩
 else if k=9 then ⟨p.media,p.seqs.set b { bX p b with video:=(bX p b).video++List.replicate (9-(bX p b).video.length) [] }⟩
 else if k=10 then ⟨p.media,p.seqs.set b { bX p b with cues:=(bX p b).cues++[⟨5,5,[⟨#[120]⟩]⟩] }⟩
 else if k=11 then ⟨p.media,zH L 8 3 p.seqs⟩
 else p
def aQs(p:ProjR)(L:List Int):ProjR:=oddK p L (aD L 1 p.media.length).toNat (aD L 2 p.seqs.length).toNat (aD L 0 16)
theorem rF{α:Type}{P:α->Prop}{l:List α}{i:Nat}{x:α}(h:∀y∈l,P y)(hx:P x):∀y∈l.set i x,P y:=by
 intro y hy;rcases List.mem_or_eq_of_mem_set hy with h1|h1
 .exact h y h1
 .rw[h1];exact hx
theorem Nk(nm:ByteArray):(aEr nm).fit:=by
 have i0:I64 0:=⟨by decide,by decide⟩
 have i1:I64 1:=⟨by decide,by decide⟩
 have i2:I64 2:=⟨by decide,by decide⟩
 have i3:I64 3:=⟨by decide,by decide⟩
 exact⟨i3,i1,⟨i2,⟨i0,i1⟩,⟨i1,i1⟩⟩,⟨i0,⟨i0,i0⟩,⟨i0,i0⟩⟩,i0,i0,i0,i0⟩
theorem aL3(i:Int):(Uk i).fit:=by
 have i0:I64 0:=⟨by decide,by decide⟩
 have i1:I64 1:=⟨by decide,by decide⟩
 have i16:I64 16:=⟨by decide,by decide⟩
 have i25:I64 25:=⟨by decide,by decide⟩
 refine⟨⟨i25,i1⟩,i16,i16,λt ht c hc=>?_,λt ht=>(by cases ht),λc hc=>(by cases hc),i0⟩;simp only[Uk,List.mem_cons,List.not_mem_nil,or_false]at ht;subst ht;simp only[List.mem_cons,List.not_mem_nil,or_false]at hc;subst hc;exact Nk _
theorem Vf(L:List Int):∀(f q:Nat) (s:List SequenceR),(∀y∈s,y.fit) ->∀y∈zH L f q s,y.fit
 |0,q,s,h=>h
 |f+1,q,s,h=>by
  unfold zH;split
  .refine Vf L f (q+1) _ λy hy=>?_
   rcases List.mem_append.1 hy with hy|hy
   .exact h y hy
   .simp only[List.mem_cons,List.not_mem_nil,or_false]at hy;rw[hy];exact aL3 _
  .exact h
theorem mU{c:Prop}[Decidable c]{a b:ProjR}(h1:c->a.fit)(h2 : ¬c->b.fit):(if c then a else b).fit:=by
 by_cases h:c
 .rw[if_pos h];exact h1 h
 .rw[if_neg h];exact h2 h
theorem aQt{p:ProjR}(h:p.fit)(L:List Int){a b:Nat}(k:Int)(ha:a<p.media.length)(hb:b<p.seqs.length):(oddK p L a b k).fit:=by
 have fm:(zS p a).fit:=h.media _ (aW ha);have fs:(bX p b).fit:=h.seqs _ (aW hb);have im:I64 (-1):=⟨by decide,by decide⟩
 have i2:I64 2:=⟨by decide,by decide⟩
 have i5:I64 5:=⟨by decide,by decide⟩
 have i20:I64 20:=⟨by decide,by decide⟩
 have ho:=Vf L 8 3 _ h.seqs;unfold oddK;generalize zH L 8 3 p.seqs=O at*;refine mU (λ_=>?_) (λ_=>?_)
 .exact⟨rF h.media ⟨fm.seq,fm.frames,fm.channels,fm.samples,fm.cues⟩,h.seqs⟩
 .refine mU (λ_=>?_) (λ_=>?_)
  .refine⟨λy hy=>?_,h.seqs⟩;rcases List.mem_append.1 hy with hy|hy
   .exact h.media y (List.mem_of_mem_take hy)
   .exact h.media y (List.mem_of_mem_drop hy)
  .refine mU (λ_=>?_) (λ_=>?_)
   .exact⟨h.media,rF h.seqs ⟨fs.rate,fs.w,fs.h,fs.video,fs.sound,fs.cues,fs.channels⟩⟩
   .refine mU (λ_=>?_) (λ_=>?_)
    .exact⟨h.media,rF h.seqs ⟨fs.rate,i20,fs.h,fs.video,fs.sound,fs.cues,fs.channels⟩⟩
    .refine mU (λ_=>?_) (λ_=>?_)
     .exact⟨h.media,rF h.seqs ⟨⟨i2,i2⟩,fs.w,fs.h,fs.video,fs.sound,fs.cues,fs.channels⟩⟩
     .refine mU (λ_=>?_) (λ_=>?_)
      .exact⟨rF h.media ⟨fm.seq,im,fm.channels,fm.samples,fm.cues⟩,h.seqs⟩
      .refine mU (λ_=>?_) (λ_=>?_)
       .exact⟨h.media,rF h.seqs ⟨fs.rate,fs.w,fs.h,fs.video,fs.sound,fs.cues,fs.channels⟩⟩
       .refine mU (λ_=>?_) (λ_=>?_)
        .refine⟨h.media,rF h.seqs ⟨fs.rate,fs.w,fs.h,λt ht c hc=>?_,fs.sound,fs.cues,fs.channels⟩⟩;rcases List.mem_append.1 ht with ht|ht
         .exact fs.video t ht c hc
         .simp only[List.mem_cons,List.not_mem_nil,or_false]at ht;subst ht;simp only[List.mem_cons,List.not_mem_nil,or_false]at hc;subst hc;exact Nk _
        .refine mU (λ_=>?_) (λ_=>?_)
         .refine⟨h.media,rF h.seqs ⟨fs.rate,fs.w,fs.h,fs.video,λt ht c hc=>?_,fs.cues,fs.channels⟩⟩;rcases List.mem_append.1 ht with ht|ht
          .exact fs.sound t ht c hc
          .simp only[List.mem_cons,List.not_mem_nil,or_false]at ht;subst ht;simp only[List.mem_cons,List.not_mem_nil,or_false]at hc;subst hc;exact(Wn L 3 2 1 (by omega) (by omega)).2
         .refine mU (λ_=>?_) (λ_=>?_)
          .refine⟨h.media,rF h.seqs ⟨fs.rate,fs.w,fs.h,λt ht c hc=>?_,fs.sound,fs.cues,fs.channels⟩⟩;rcases List.mem_append.1 ht with ht|ht
           .exact fs.video t ht c hc
           .rw[List.eq_of_mem_replicate ht]at hc;cases hc
          .refine mU (λ_=>?_) (λ_=>?_)
           .refine⟨h.media,rF h.seqs ⟨fs.rate,fs.w,fs.h,fs.video,fs.sound,λc hc=>?_,fs.channels⟩⟩;rcases List.mem_append.1 hc with hc|hc
            .exact fs.cues c hc
            .simp only[List.mem_cons,List.not_mem_nil,or_false]at hc;subst hc;exact⟨i5,i5⟩
           .refine mU (λ_=>?_) (λ_=>?_)
            .exact⟨h.media,ho⟩
            .exact h
theorem aQr{p:ProjR}(h:p.fit)(L:List Int)(hm:1<=p.media.length)(hs:1<=p.seqs.length):(aQs p L).fit:=by
 have t1:=aG (L:=L) (k:=1) (n:=p.media.length);have t2:=aG (L:=L) (k:=2) (n:=p.seqs.length);exact aQt h L _ (by omega) (by omega)
theorem rTake(n:Nat)(X:List (List T)):List.take n (aS X)=aS (X.take n):=by unfold aS;rw[List.map_take]
theorem rDrop(n:Nat)(X:List (List T)):List.drop n (aS X)=aS (X.drop n):=by unfold aS;rw[List.map_drop]
theorem rApp(X Y:List (List T)):aS X++aS Y=aS (X++Y):=by unfold aS;rw[List.map_append]
theorem Qf{f:V->Option T}(hf:∀x,f (.t x)=some x){cs:List V}{ts:List T}(hc:Go.Proofs.YtkjdkbmfaamhaaaGreat.lendCs f cs=some ts):∀(X:List (List T)) (b:Nat),Go.Proofs.YtkjdkbmfaamhaaaGreat.lendRs f ((aS X).set b cs)=some (X.set b ts)
 |[],_=>by simp[aS,lendRs]
 |x::X,0=>by
  have:=Fq f hf X;unfold aS at this⊢;simp only[List.map_cons,List.set_cons_zero,lendRs,hc,this]
 |x::X,b+1=>by
  have:=Qf hf hc X b;unfold aS at this⊢;simp only[List.map_cons,List.set_cons_succ,lendRs,this,wH f hf]
@[go_sem] theorem lendRs_setC(h:Heap)(n:Nat)(X:List (List T))(b:Nat)(cs:List V)(hb:b<X.length):Go.Proofs.YtkjdkbmfaamhaaaGreat.lendRs (aX h n) ((aS X).set b cs)=match Go.Proofs.YtkjdkbmfaamhaaaGreat.lendCs (aX h n) cs with
  |some ts=>some (X.set b ts)
  |none=>none:=by
 cases e:Go.Proofs.YtkjdkbmfaamhaaaGreat.lendCs (aX h n) cs with
 |some ts=>exact Qf (kG h n) e X b
 |none=>
  simp only
  induction X generalizing b with
  |nil=>cases hb
  |cons x X ih=>
   cases b with
   |zero=>simp only[aS,List.map_cons,List.set_cons_zero,lendRs,e]
   |succ b=>
    have:=ih b (by simpa using hb);unfold aS at this⊢;simp only[List.map_cons,List.set_cons_succ,lendRs,this];cases lendCs (aX h n) (List.map V.t x)<;>rfl
@[go_sem] theorem reachRs_setC(h:Heap)(n:Nat)(X:List (List T))(b:Nat)(cs:List V)(hb:b<X.length):Go.Proofs.YtkjdkbmfaamhaaaGreat.reachRs (mR h n) ((aS X).set b cs)=Go.Proofs.YtkjdkbmfaamhaaaGreat.reachL (mR h n) cs:=by
 induction X generalizing b with
 |nil=>cases hb
 |cons x X ih=>
  cases b with
  |zero=>
   have:=Hn (mR h n) (Ex h n) X;unfold aS at this⊢;simp only[List.map_cons,List.set_cons_zero,reachRs,this,List.append_nil]
  |succ b=>
   have:=ih b (by simpa using hb);unfold aS at this⊢;simp only[List.map_cons,List.set_cons_succ,reachRs,this,Ey _ (Ex h n),List.nil_append]
theorem mB:∀l:List T,Tm l l
 |[]=>trivial
 |x::l=>⟨aM,mB l⟩
theorem cV:∀l:List (List T),Dy l l
 |[]=>trivial
 |x::l=>⟨mB x,cV l⟩
theorem aCu{c c':List T}(h:Tm c' c):∀(l:List (List T)) (b:Nat),Dy (l.set b c') (l.set b c)
 |[],_=>trivial
 |x::l,0=>⟨h,cV l⟩
 |x::l,b+1=>⟨mB x,aCu h l b⟩
theorem wL{a a':List (List T)}(h:Dy a' a):∀(l:List (List T)),Dy (l++a') (l++a)
 |[]=>h
 |x::l=>⟨mB x,wL h l⟩
theorem aCv:∀n:Nat,Dy (List.replicate n [T.lit (.slice none 0 0)]) (List.replicate n (fJ []))
 |0=>trivial
 |n+1=>⟨⟨rD,trivial⟩,aCv n⟩
def d9:Nat->List T
 |0=>fJ []
 |_+1=>[.lit (.slice none 0 0)]
def c9(s:SequenceR)(x:Nat):List T:=[mW s.name,ti s.rate.num,ti s.rate.den,ti s.w,ti s.h,.list 1 (d9 x) (List.map fJ s.video++List.replicate x [.lit (.slice none 0 0)]),gC s.sound,Cg s.cues,ti s.channels]
abbrev zCl:List T:=[ti 0,ti 0,ti 0,mW ⟨#[]⟩,ti 0,ti 0,ti 0,ti 0,.lit (.bool false),ti 0,mW ⟨#[]⟩,ti 0,ti 0,ti 0,ti 0,.lit (.bool false),ti 0,ti 0,ti 0,mW ⟨#[]⟩,ti 0,.lit (.slice none 0 0)]
def n11(i:Int):List T:=[mW (gL ⟨#[115]⟩ i),ti 25,ti 1,ti 16,ti 16,.list 1 [.lit (.slice none 0 0)] [[.list 22 zCl [[ti 3,ti 1,ti 2,mW (gL ⟨#[115]⟩ (i-1)),ti 0,ti 1,ti 1,ti 1,.lit (.bool false),ti 0,mW ⟨#[]⟩,ti 0,ti 0,ti 0,ti 0,.lit (.bool false),ti 0,ti 0,ti 0,mW ⟨#[]⟩,ti 0,.lit (.slice none 0 0)]]]],.lit (.slice none 0 0),.lit (.slice none 0 0),ti 0]
theorem n11_imp(i:Int):Tm (n11 i) (SequenceR.c (Uk i)):=
 ⟨aM,aM,aM,aM,aM,fQ ⟨⟨fQ ⟨⟨aM,aM,aM,aM,aM,aM,aM,aM,aM,aM,aM,aM,aM,aM,aM,aM,aM,aM,aM,aM,aM,rD,trivial⟩,trivial⟩,trivial⟩,trivial⟩,rD,rD,aM,trivial⟩
def x11(l:List SequenceR)(m:Nat):List (List T):=List.map SequenceR.c l++(List.range m).map λj=>n11 ((l.length+j:Nat):Int)
def s11(l:List SequenceR)(m:Nat):List SequenceR:=l++(List.range m).map λj=>Uk ((l.length+j:Nat):Int)
theorem x11_imp(l:List SequenceR)(m:Nat):Dy (x11 l m) (List.map SequenceR.c (s11 l m)):=by
 unfold x11 s11;rw[List.map_append,List.map_map];apply wL;generalize List.range m=r
 induction r with
 |nil=>trivial
 |cons a r ih=>exact⟨n11_imp _,ih⟩
theorem aNg(l:List SequenceR)(m:Nat):x11 l m++[n11 ((l.length+m:Nat):Int)]=x11 l (m+1):=by
 unfold x11;rw[List.range_succ,List.map_append,List.append_assoc];rfl
theorem x11_len(l:List SequenceR)(m:Nat):(x11 l m).length=l.length+m:=by unfold x11;simp
theorem aPu(l:List SequenceR)(m:Nat):s11 l m++[Uk ((l.length+m:Nat):Int)]=s11 l (m+1):=by
 unfold s11;rw[List.range_succ,List.map_append,List.append_assoc];rfl
theorem aH2(l:List SequenceR)(m:Nat):(s11 l m).length=l.length+m:=by unfold s11;simp
theorem kX{q:ProjR}{x:V}{h:Heap}{dm ds:List T}{M S:List (List T)}(e:x.lend h=.agg [.t (.list 141 dm M),.t (.list 9 ds S)])(h1:Dy M (List.map MediumR.c q.media))(h2:Dy S (List.map SequenceR.c q.seqs)):aHf (jY q) x h:=
 aBn e rfl (Xc (by exact⟨Js (fQ h1),Js (fQ h2),trivial⟩))
theorem rZ(b:Nat)(x:SequenceR){c:List T}(hc:Tm c (SequenceR.c x)){l:List SequenceR}:Dy ((List.map SequenceR.c l).set b c) (List.map SequenceR.c (l.set b x)):=by
 rw[List.map_set];exact aCu hc _ b
theorem Wb(b:Nat)(x:MediumR){l:List MediumR}:Dy ((List.map MediumR.c l).set b (MediumR.c x)) (List.map MediumR.c (l.set b x)):=by
 rw[List.map_set];exact cV _
set_option maxHeartbeats 16000000 in
theorem cOdd(p:ProjR)(L:List Int)(hm:1<=p.media.length)(hm2:p.media.length<=16)(hs:1<=p.seqs.length)(hs2:p.seqs.length<=16)(hv:∀s∈p.seqs,s.video.length<=64/\s.sound.length<=64/\s.cues.length<=64):
  aL Tryz.prog 6 [jY p,.t (cM L)] (jY (aQs p L)):=by
 refine Jj Tryz.X6 Tryz.func6 rfl Tryz.ntmps6 (by rw[Tryz.results6]) (aB _ ?_);simp only[go_sem,Nat.reduceGT,↓reduceIte,Nat.reduceAdd,Nat.reduceSub,reduceCtorEq];refine aQ 10 .done (h:=?_);simp only[go_sem,Nat.reducePow,Nat.reduceLT,↓reduceIte,Nat.reduceAdd,Nat.reduceMul,Nat.reduceLeDiff,Nat.reduceEqDiff,reduceCtorEq];refine⟨⟨by unfold maxLen;omega,by omega⟩,⟨by unfold maxLen;omega,by omega⟩,by kernel_rfl,?_⟩;refine aP (bR L 0 16) rfl rfl rfl ?_;have n0:=aG (L:=L) (k:=0) (n:=16);simp only[go_sem,↓reduceIte,Nat.reduceEqDiff];refine aP (bR L 1 p.media.length) rfl rfl rfl ?_;have n1:=aG (L:=L) (k:=1) (n:=p.media.length);simp only[go_sem,↓reduceIte,Nat.reduceAdd,Nat.reduceEqDiff];refine aP (bR L 2 p.seqs.length) rfl rfl rfl ?_;have n2:=aG (L:=L) (k:=2) (n:=p.seqs.length);simp only[go_sem,↓reduceIte,Nat.reduceAdd,Nat.reduceEqDiff];obtain⟨a,ha⟩:∃a:Nat,aD L 1 p.media.length=a:=⟨(aD L 1 p.media.length).toNat,by omega⟩
 obtain⟨b,hb⟩:∃b:Nat,aD L 2 p.seqs.length=b:=⟨(aD L 2 p.seqs.length).toNat,by omega⟩
 unfold aQs;rw[ha]at n1⊢;rw[hb]at n2⊢;rw[Int.toNat_natCast,Int.toNat_natCast];generalize aD L 0 16=k at*;have hal:a<p.media.length:=by omega
 have hbl:b<p.seqs.length:=by omega
 have nm:∀d,nth d (p.media.map MediumR.c) a=MediumR.c (zS p a):=λd=>by
  unfold nth zS;rw[List.getElem?_map,List.getElem?_eq_getElem hal,bB hal];rfl
 have ns:∀d,nth d (p.seqs.map SequenceR.c) b=SequenceR.c (bX p b):=λd=>by
  unfold nth bX;rw[List.getElem?_map,List.getElem?_eq_getElem hbl,bB hbl];rfl
 have hmod:(((a:Int)+1).tmod (p.media.length:Int))=(((a+1)%p.media.length:Nat):Int):=by
  rw[show((a:Int)+1)=((a+1:Nat):Int) by omega,gT]
 have hmods:(((b:Int)+1).tmod (p.seqs.length:Int))=(((b+1)%p.seqs.length:Nat):Int):=by
  rw[show((b:Int)+1)=((b+1:Nat):Int) by omega,gT]
 have nm2:∀d,nth d (p.media.map MediumR.c) ((a+1)%p.media.length)=MediumR.c (zS p ((a+1)%p.media.length)):=λd=>by
  have hal:=Nat.mod_lt (a+1) (show 0<p.media.length by omega);unfold nth zS;rw[List.getElem?_map,List.getElem?_eq_getElem hal,bB hal];rfl
 have ns2:∀d,nth d (p.seqs.map SequenceR.c) ((b+1)%p.seqs.length)=SequenceR.c (bX p ((b+1)%p.seqs.length)):=λd=>by
  have hal:=Nat.mod_lt (b+1) (show 0<p.seqs.length by omega);unfold nth bX;rw[List.getElem?_map,List.getElem?_eq_getElem hal,bB hal];rfl
 have hvb:=hv _ (show bX p b∈p.seqs from aW hbl);have hmm:=Nat.mod_lt (a+1) (show 0<p.media.length by omega);have hms:=Nat.mod_lt (b+1) (show 0<p.seqs.length by omega);unfold oddK;refine brW (b:=decide (k=0/\1<p.media.length)) ?_ ⟨λh0=>?_,λh0=>?_⟩
 .rw[Bool.eq_iff_iff,Bool.and_eq_true,beq_iff_eq,decide_eq_true_eq,decide_eq_true_eq];omega
 .rw[if_pos (of_decide_eq_true h0)];have k0:=of_decide_eq_true h0;unfold awS;simp only[go_sem,Nat.reduceGT,↓reduceIte,Nat.reduceAdd,Nat.reduceLeDiff,Nat.reduceEqDiff,reduceCtorEq,wrap64 (x:=(a:Int)+1),hmod,nm,nm2];refine⟨by omega,⟨by omega,by omega⟩,by omega,⟨by omega,by omega⟩,by omega,kX (by simp only[go_sem,↓reduceIte,Nat.reduceEqDiff];exact rfl) (Wb a _) (cV _)⟩
 .rw[if_neg (of_decide_eq_false h0)];unfold awS;simp only[go_sem,↓reduceIte,Nat.reduceEqDiff];refine brW (b:=decide (k=1)) ?_ ⟨λh1=>?_,λh1=>?_⟩
  .rw[Bool.eq_iff_iff,Bool.and_eq_true,beq_iff_eq,decide_eq_true_eq,decide_eq_true_eq];omega
  .rw[if_pos (of_decide_eq_true h1)];have k1:=of_decide_eq_true h1;unfold awS;refine aQ 9 .done (h:=?_);simp only[go_sem,Nat.reduceGT,Nat.reduceLT,↓reduceIte,Nat.reduceAdd,Nat.reduceLeDiff,Nat.reduceEqDiff,reduceCtorEq,wrap64 (x:=(a:Int)+1),rTake,rDrop,rApp];have ea:((a:Int)+1).toNat=a+1:=by omega
   refine⟨⟨by omega,by omega,by omega⟩,⟨by omega,by omega,by omega⟩,⟨rfl,by simp only[List.length_drop,List.length_take,List.length_map];unfold maxLen;omega,by simp only[List.length_drop,List.length_take,List.length_map];omega⟩,by kernel_rfl,kX (by simp only[go_sem,↓reduceIte,Nat.reduceEqDiff];exact rfl) ?_ (cV _)⟩;rw[ea,List.take_of_length_le (i:=p.media.length) (by simp),<-List.map_take,<-List.map_drop,<-List.map_append];exact cV _
  .rw[if_neg (of_decide_eq_false h1)];unfold awS;simp only[go_sem,↓reduceIte];refine brW (b:=decide (k=2)) ?_ ⟨λh2=>?_,λh2=>?_⟩
   .rw[Bool.eq_iff_iff,Bool.and_eq_true,beq_iff_eq,decide_eq_true_eq,decide_eq_true_eq];omega
   .rw[if_pos (of_decide_eq_true h2)];have k2:=of_decide_eq_true h2;unfold awS;simp only[go_sem,Nat.reduceGT,↓reduceIte,Nat.reduceAdd,Nat.reduceLeDiff,Nat.reduceEqDiff,reduceCtorEq,ns];refine⟨⟨by omega,by omega⟩,by omega,kX (by simp only[go_sem,↓reduceIte,Nat.reduceEqDiff];exact rfl) (cV _) (rZ b _ (mB _))⟩
   .rw[if_neg (of_decide_eq_false h2)];unfold awS;simp only[go_sem,↓reduceIte];refine brW (b:=decide (k=3)) ?_ ⟨λh3=>?_,λh3=>?_⟩
    .rw[Bool.eq_iff_iff,Bool.and_eq_true,beq_iff_eq,decide_eq_true_eq,decide_eq_true_eq];omega
    .rw[if_pos (of_decide_eq_true h3)];have k3:=of_decide_eq_true h3;unfold awS;simp only[go_sem,Nat.reduceGT,↓reduceIte,Nat.reduceAdd,Nat.reduceLeDiff,Nat.reduceEqDiff,reduceCtorEq,ns];refine⟨⟨by omega,by omega⟩,by omega,kX (by simp only[go_sem,↓reduceIte,Nat.reduceEqDiff];exact rfl) (cV _) (rZ b _ (mB _))⟩
    .rw[if_neg (of_decide_eq_false h3)];unfold awS;simp only[go_sem,↓reduceIte];refine brW (b:=decide (k=4)) ?_ ⟨λh4=>?_,λh4=>?_⟩
     .rw[Bool.eq_iff_iff,Bool.and_eq_true,beq_iff_eq,decide_eq_true_eq,decide_eq_true_eq];omega
     .rw[if_pos (of_decide_eq_true h4)];have k4:=of_decide_eq_true h4;unfold awS;simp only[go_sem,Nat.reduceGT,↓reduceIte,Nat.reduceAdd,Nat.reduceLeDiff,Nat.reduceEqDiff,reduceCtorEq,ns];refine⟨⟨by omega,by omega⟩,by omega,kX (by simp only[go_sem,↓reduceIte,Nat.reduceEqDiff];exact rfl) (cV _) (rZ b _ (mB _))⟩
     .rw[if_neg (of_decide_eq_false h4)];unfold awS;simp only[go_sem,↓reduceIte,Nat.reduceEqDiff];refine brW (b:=decide (k=5)) ?_ ⟨λh5=>?_,λh5=>?_⟩
      .rw[Bool.eq_iff_iff,Bool.and_eq_true,beq_iff_eq,decide_eq_true_eq,decide_eq_true_eq];omega
      .rw[if_pos (of_decide_eq_true h5)];have k5:=of_decide_eq_true h5;unfold awS;simp only[go_sem,Nat.reduceGT,↓reduceIte,Nat.reduceAdd,Nat.reduceLeDiff,Nat.reduceEqDiff,reduceCtorEq,nm];refine⟨⟨by omega,by omega⟩,by omega,kX (by simp only[go_sem,↓reduceIte,Nat.reduceEqDiff];exact rfl) (Wb a _) (cV _)⟩
      .rw[if_neg (of_decide_eq_false h5)];unfold awS;simp only[go_sem,↓reduceIte];refine brW (b:=decide (k=6/\1<p.seqs.length)) ?_ ⟨λh6=>?_,λh6=>?_⟩
       .rw[Bool.eq_iff_iff,Bool.and_eq_true,beq_iff_eq,decide_eq_true_eq,decide_eq_true_eq];omega
       .rw[if_pos (of_decide_eq_true h6)];have k6:=of_decide_eq_true h6;unfold awS;simp only[go_sem,Nat.reduceGT,↓reduceIte,Nat.reduceAdd,Nat.reduceLeDiff,Nat.reduceEqDiff,reduceCtorEq,wrap64 (x:=(b:Int)+1),hmods,ns,ns2];refine⟨by omega,⟨by omega,by omega⟩,by omega,⟨by omega,by omega⟩,by omega,kX (by simp only[go_sem,↓reduceIte,Nat.reduceEqDiff];exact rfl) (cV _) (rZ b _ (mB _))⟩
       .rw[if_neg (of_decide_eq_false h6)];unfold awS;simp only[go_sem,↓reduceIte];refine brW (b:=decide (k=7)) ?_ ⟨λh7=>?_,λh7=>?_⟩
        .rw[Bool.eq_iff_iff,Bool.and_eq_true,beq_iff_eq,decide_eq_true_eq,decide_eq_true_eq];omega
        .rw[if_pos (of_decide_eq_true h7)];have k7:=of_decide_eq_true h7;unfold awS;simp only[go_sem,Nat.reducePow,Nat.reduceLT,↓reduceIte,Nat.reduceAdd,Nat.reduceMul,Nat.reduceLeDiff,Nat.reduceEqDiff,reduceCtorEq,ns];refine⟨⟨by omega,by omega⟩,by omega,⟨by unfold maxLen;omega,by omega⟩,?_⟩;refine aP (bR L 3 4) rfl rfl rfl ?_;have n3:=aG (L:=L) (k:=3) (n:=4);simp only[go_sem,↓reduceIte,Nat.reduceAdd,Nat.reduceEqDiff];refine⟨_,Sc ⟨#[115]⟩ (aD L 3 4) (by omega) (by omega) (by decide),?_⟩;simp only[go_sem,Nat.reduceGT,Nat.reducePow,Nat.reduceLT,↓reduceIte,Nat.reduceAdd,Nat.reduceMul,Nat.reduceLeDiff,Nat.reduceEqDiff,reduceCtorEq,ns];refine⟨⟨by unfold maxLen;omega,by omega⟩,⟨by omega,by omega⟩,by omega,kX (by simp only[go_sem,↓reduceIte,Nat.reduceEqDiff,hbl];exact rfl) (cV _) (rZ b _ ?_)⟩;exact⟨aM,aM,aM,aM,aM,fQ (by rw[List.map_append];apply wL;exact⟨⟨fQ ⟨⟨aM,aM,aM,aM,aM,aM,aM,aM,aM,aM,aM,aM,aM,aM,aM,aM,aM,aM,aM,aM,aM,rD,trivial⟩,trivial⟩,trivial⟩,trivial⟩),aM,aM,aM,trivial⟩
        .rw[if_neg (of_decide_eq_false h7)];unfold awS;simp only[go_sem,↓reduceIte];refine brW (b:=decide (k=8)) ?_ ⟨λh8=>?_,λh8=>?_⟩
         .rw[Bool.eq_iff_iff,Bool.and_eq_true,beq_iff_eq,decide_eq_true_eq,decide_eq_true_eq];omega
         .rw[if_pos (of_decide_eq_true h8)];have k8:=of_decide_eq_true h8;unfold awS;simp only[go_sem,Nat.reducePow,Nat.reduceLT,↓reduceIte,Nat.reduceAdd,Nat.reduceMul,Nat.reduceLeDiff,Nat.reduceEqDiff,reduceCtorEq,ns];refine⟨⟨by omega,by omega⟩,by omega,⟨by unfold maxLen;omega,by omega⟩,?_⟩;refine aP (cClip L 3 2 1 (by omega) (by omega) (by omega)) rfl rfl rfl ?_;simp only[go_sem,Nat.reduceGT,Nat.reducePow,Nat.reduceLT,↓reduceIte,Nat.reduceAdd,Nat.reduceMul,Nat.reduceLeDiff,Nat.reduceEqDiff,reduceCtorEq,ns];refine⟨⟨by unfold maxLen;omega,by omega⟩,⟨by omega,by omega⟩,by omega,kX (by simp only[go_sem,↓reduceIte,Nat.reduceEqDiff,hbl];exact rfl) (cV _) (rZ b _ ?_)⟩;exact⟨aM,aM,aM,aM,aM,aM,fQ (by rw[List.map_append];apply wL;exact⟨⟨fQ ⟨mB _,trivial⟩,trivial⟩,trivial⟩),aM,aM,trivial⟩
         .rw[if_neg (of_decide_eq_false h8)];unfold awS;simp only[go_sem,↓reduceIte];refine brW (b:=decide (k=9)) ?_ ⟨λh9=>?_,λh9=>?_⟩
          .rw[Bool.eq_iff_iff,Bool.and_eq_true,beq_iff_eq,decide_eq_true_eq,decide_eq_true_eq];omega
          .rw[if_pos (of_decide_eq_true h9)];have k9:=of_decide_eq_true h9;unfold awS;simp only[go_sem];obtain⟨V9,hV9⟩:∃f:Nat->List (List T),f=λx=>(List.map SequenceR.c p.seqs).set b (c9 (bX p b) x):=⟨_,rfl⟩
           have vn:∀x d,nth d (V9 x) b=[mW (bX p b).name,ti (bX p b).rate.num,ti (bX p b).rate.den,ti (bX p b).w,ti (bX p b).h,.list 1 (d9 x) (List.map fJ (bX p b).video++List.replicate x [.lit (.slice none 0 0)]),gC (bX p b).sound,Cg (bX p b).cues,ti (bX p b).channels]:=λx d=>by
            rw[hV9];unfold nth;rw[List.getElem?_set_self (by simpa using hbl)];rfl
           have v0:List.map SequenceR.c p.seqs=V9 0:=by
            rw[hV9];refine(aPm (by simpa using hbl) ?_).symm;rw[List.getElem_map];unfold c9 bX;rw[bB hbl];simp[d9];rfl
           have vl:∀x,(V9 x).length=p.seqs.length:=λx=>by rw[hV9];simp
           have vs:∀x c,(V9 x).set b c=(List.map SequenceR.c p.seqs).set b c:=λx c=>by rw[hV9];simp
           have vstep:∀x,(V9 x).set b [mW (bX p b).name,ti (bX p b).rate.num,ti (bX p b).rate.den,ti (bX p b).w,ti (bX p b).h,.list 1 [.lit (.slice none 0 0)] (List.map fJ (bX p b).video++List.replicate x [.lit (.slice none 0 0)]++[[.lit (.slice none 0 0)]]),gC (bX p b).sound,Cg (bX p b).cues,ti (bX p b).channels]=V9 (x+1):=λx=>by
            rw[vs,hV9,List.append_assoc,<-List.replicate_succ'];rfl
           refine aE (λ(x:Nat) σ=>{ (bE σ)with h:= σ.h.set 10 (.row 61 9 (SequenceR.c default) (aS (V9 x))) }) (λx=>(bX p b).video.length+x<=max 9 (bX p b).video.length) (λx=>max 9 (bX p b).video.length-((bX p b).video.length+x)) 0 (aC ?_) (by omega) ?_
           .simp only[go_sem,Nat.reduceLT,↓reduceIte,Nat.reduceLeDiff,Nat.reduceEqDiff,reduceCtorEq];rw[v0];simp
           .intro x hx;refine aB _ ?_;simp only[go_sem,↓reduceIte,Nat.reduceEqDiff,reduceCtorEq,vn,vl,List.length_append,List.length_map,List.length_replicate];refine⟨⟨by omega,by omega⟩,by omega,λhlt=>?_,λhge=>?_⟩
            .simp only[decide_eq_true_eq]at hlt;unfold awS;simp only[go_sem,Nat.reducePow,Nat.reduceLT,↓reduceIte,Nat.reduceAdd,Nat.reduceMul,Nat.reduceLeDiff,Nat.reduceEqDiff,reduceCtorEq,vn,vl,List.length_append,List.length_map,List.length_replicate];refine⟨⟨by omega,by omega⟩,by omega,⟨by unfold maxLen;omega,by omega⟩,⟨by unfold maxLen;omega,by omega⟩,⟨by omega,by omega⟩,by omega,x+1,aC ?_,by omega,by omega⟩;simp only[go_sem,Nat.reduceLT,↓reduceIte,Nat.reduceLeDiff,Nat.reduceEqDiff,reduceCtorEq,vl,hbl,vstep]<;>simp
            .simp only[decide_eq_false_iff_not]at hge;unfold awS;simp only[go_sem,Nat.reduceGT,↓reduceIte,Nat.reduceAdd,Nat.reduceLeDiff,Nat.reduceEqDiff,reduceCtorEq];refine kX (by simp only[go_sem,↓reduceIte,Nat.reduceEqDiff];exact rfl) (cV _) ?_;have hxx:x=9-(bX p b).video.length:=by omega
             rw[hV9];subst hxx;refine rZ b _ ?_;have hI:Imp (.list 1 (d9 (9-(bX p b).video.length)) (List.map fJ (bX p b).video++List.replicate (9-(bX p b).video.length) [.lit (.slice none 0 0)])) (.list 1 (fJ []) (List.map fJ ((bX p b).video++List.replicate (9-(bX p b).video.length) []))):=fQ (by
              rw[List.map_append,List.map_replicate];apply wL;exact aCv _)
             exact⟨aM,aM,aM,aM,aM,hI,aM,aM,aM,trivial⟩
          .rw[if_neg (of_decide_eq_false h9)];unfold awS;simp only[go_sem,↓reduceIte];refine brW (b:=decide (k=10)) ?_ ⟨λh10=>?_,λh10=>?_⟩
           .rw[Bool.eq_iff_iff,Bool.and_eq_true,beq_iff_eq,decide_eq_true_eq,decide_eq_true_eq];omega
           .rw[if_pos (of_decide_eq_true h10)];have k10:=of_decide_eq_true h10;unfold awS;simp only[go_sem,Nat.reduceGT,Nat.reducePow,Nat.reduceLT,↓reduceIte,Nat.reduceAdd,Nat.reduceMul,Nat.reduceLeDiff,Nat.reduceEqDiff,reduceCtorEq,ns];refine⟨⟨by omega,by omega⟩,by omega,⟨by unfold maxLen;omega,by omega⟩,⟨by unfold maxLen;omega,by omega⟩,⟨by omega,by omega⟩,by omega,kX (by simp only[go_sem,↓reduceIte,Nat.reduceEqDiff,hbl];exact rfl) (cV _) (rZ b _ ?_)⟩;exact⟨aM,aM,aM,aM,aM,aM,aM,fQ (by rw[List.map_append];apply wL;exact⟨⟨aM,aM,fQ (cV _),trivial⟩,trivial⟩),aM,trivial⟩
           .rw[if_neg (of_decide_eq_false h10)];unfold awS;simp only[go_sem,↓reduceIte];refine brW (b:=decide (k=11)) ?_ ⟨λh11=>?_,λh11=>?_⟩
            .rw[Bool.eq_iff_iff,beq_iff_eq,decide_eq_true_eq]
            .rw[if_pos (of_decide_eq_true h11)];have k11:=of_decide_eq_true h11;unfold awS;simp only[go_sem,↓reduceIte];refine aE (λ(m:Nat) σ=>bP 11 (aA ((p.seqs.length+m:Nat):Int)) { (aY [24,32,76,88,100,125,146,175,199,227,249] (bE σ))with h:=[(10,.row 61 9 (SequenceR.c default) (aS (x11 p.seqs m))),(6,.row 58 141 (MediumR.c default) (aS (List.map MediumR.c p.media))),(2,.box [.t (cM L),aA ((3+m:Nat):Int)]),(1,.box [.t (.lit (.slice none 0 0)),.t (.lit (.slice none 0 0))]),(0,.box [.t (hZ p.media),.t (nP p.seqs)])] })
              (λm=>m<=7/\zH L (8-m) (3+m) (s11 p.seqs m)=zH L 8 3 p.seqs) (λm=>8-m) 0 (aC ?_) ⟨by omega,by simp[s11]⟩ ?_
             .simp only[go_sem,Nat.reduceLT,↓reduceIte,Nat.reduceAdd,Nat.reduceLeDiff,Nat.reduceEqDiff,reduceCtorEq]<;>simp[x11]
             .rintro m ⟨hm7,hod⟩;refine aB _ ?_;simp only[go_sem,↓reduceIte,Nat.reduceEqDiff,reduceCtorEq];refine aP (bR L (3+m) 4) rfl rfl rfl ?_;have n4:=aG (L:=L) (k:=3+m) (n:=4);simp only[go_sem,↓reduceIte,Nat.reduceEqDiff,wrap64 (x:=4+aD L (3+m) 4)];refine⟨λhlt=>?_,λhge=>?_⟩
              .simp only[decide_eq_true_eq]at hlt;have hm6:m<=6:=by omega
               have w1:IntKind.i64.wrap (((p.seqs.length+m:Nat):Int)-1)=((p.seqs.length+m:Nat):Int)-1:=wrap64;unfold awS;simp only[go_sem,↓reduceIte,w1];refine⟨_,Sc ⟨#[115]⟩ (((p.seqs.length+m:Nat):Int)-1) (by omega) (by omega) (by decide),?_⟩;simp only[go_sem,Nat.reduceGT,↓reduceIte,Nat.reduceAdd,Nat.reduceLeDiff,reduceCtorEq];refine aQ 11 .done (h:=?_);simp only[go_sem,↓reduceIte,Nat.reduceAdd];refine⟨_,Sc ⟨#[115]⟩ ((p.seqs.length+m:Nat):Int) (by omega) (by omega) (by decide),?_⟩;simp only[go_sem,Nat.reduceGT,Nat.reducePow,Nat.reduceLT,↓reduceIte,Nat.reduceAdd,Nat.reduceMul,Nat.reduceLeDiff,Nat.reduceEqDiff,reduceCtorEq];have hl:=x11_len p.seqs m;have w2:IntKind.i64.wrap (((p.seqs.length+m:Nat):Int)+1)=((p.seqs.length+(m+1):Nat):Int):=by rw[wrap64 (by omega) (by omega)];omega
               refine⟨⟨by unfold maxLen;omega,by omega⟩,by kernel_rfl,m+1,cA [(10,some 23),(6,some 6),(2,some 2),(1,some 1),(0,some 0)] ?_,⟨by omega,?_⟩,by omega⟩
               .simp only[go_sem,Nat.reduceLT,↓reduceIte,Nat.reduceLeDiff,Nat.reduceEqDiff,reduceCtorEq,w2];have e:=aNg p.seqs m;unfold n11 at e;rw[e];simp;omega
               .have e8:8-m=(8-(m+1))+1:=by omega
                rw[<-hod,e8]
                conv=>rhs;unfold zH
                rw[aH2,if_pos hlt,aPu];rfl
              .simp only[decide_eq_false_iff_not]at hge;unfold awS;simp only[go_sem,Nat.reduceGT,↓reduceIte,Nat.reduceAdd,Nat.reduceLeDiff,Nat.reduceEqDiff,reduceCtorEq];refine kX (by simp only[go_sem,↓reduceIte,Nat.reduceEqDiff];exact rfl) (cV _) ?_;have e8:8-m=(7-m)+1:=by omega
               have hfin:zH L 8 3 p.seqs=s11 p.seqs m:=by
                rw[<-hod,e8];unfold zH;rw[aH2,if_neg (by omega)]
               show Dy (x11 p.seqs m) (List.map SequenceR.c (zH L 8 3 p.seqs))
               rw[hfin];exact x11_imp _ _
            .rw[if_neg (of_decide_eq_false h11)];unfold awS;simp only[go_sem,Nat.reduceGT,↓reduceIte,Nat.reduceAdd,Nat.reduceLeDiff,Nat.reduceEqDiff,reduceCtorEq];exact kX (by simp only[go_sem,↓reduceIte,Nat.reduceEqDiff];exact rfl) (cV _) (cV _)
theorem Kg(L:List Int):1<=(rQ L).media.length/\(rQ L).media.length<=3/\1<=(rQ L).seqs.length/\(rQ L).seqs.length<=3 /\∀s∈(rQ L).seqs,s.video.length<=8/\s.sound.length<=8/\s.cues.length<=64:=by
 obtain⟨M,N,m1,m3,s1,s3,h1,h2,h3,h4⟩:=Kh L;refine⟨by omega,by omega,by omega,by omega,λs hs=>?_⟩;obtain⟨i,hi,rfl⟩:=aF9 hs;have:=(h4 i (by omega)).small;unfold dX at this;simp only[Bool.and_eq_true,decide_eq_true_eq]at this;omega
theorem cOddT(L K:List Int):aL Tryz.prog 6 [jY (rQ L),.t (cM K)] (jY (aQs (rQ L) K)):=by
 obtain⟨h1,h2,h3,h4,h5⟩:=Kg L;exact cOdd _ K h1 (by omega) h3 (by omega) λs hs=>by have:=h5 s hs;omega
theorem aQq(L K:List Int):(aQs (rQ L) K).fit:=by
 obtain⟨h1,h2,h3,h4,h5⟩:=Kg L;exact aQr (aLa L) K h1 h3
theorem sndA_ok(L:List Int)(m b:Nat)(hb:b<2)(hm:m<=10000):((Ej L m).getD b default).chs.length=2 /\∀q∈((Ej L m).getD b default).chs,q.length<=10000/\aN9 q:=by
 have l:∀f,(aAx f m).length=m:=λf=>by unfold aAx;simp
 obtain rfl|rfl:b=0\/b=1:=by omega
 all_goals
  refine⟨rfl,λq hq=>?_⟩;rcases List.mem_cons.1 hq with rfl|hq
  .exact⟨by rw[l];exact hm,aAw λi=>aGx _⟩
  .rw[List.mem_singleton.1 hq];exact⟨by rw[l];exact hm,aAw λi=>aGx _⟩
theorem aN2{M:List AudioR}(hM:AudF M)(hl:M.length<=100){a:AudioR}(h1:a.chs.length<=100)(h2:∀q∈a.chs,q.length<=10000/\aN9 q):AudF (M++[a]):=by
 refine⟨by rw[List.length_append];simp;omega,λx hx=>?_,λx hx q hq=>?_⟩
 .rcases List.mem_append.1 hx with hx|hx
  .exact hM.chs x hx
  .rw[List.mem_singleton.1 hx];omega
 .rcases List.mem_append.1 hx with hx|hx
  .exact hM.pcm x hx q hq
  .rw[List.mem_singleton.1 hx]at hq;exact⟨by have:=(h2 q hq).1;omega,(h2 q hq).2⟩
set_option maxHeartbeats 4000000 in
theorem sounds3(L K:List Int)(fr0 n:Int)(name:ByteArray)(hf:I64 fr0)(hn:I64 n):aL Tryz.prog 3 [.t (cM L),.t (cM K),aA fr0,aA n,cF name] (aR true):=by
 have h:=aQq L K;have cpj:=aT1 L;have cod:=cOddT L K;refine aF Tryz.X3 Tryz.func3 rfl Tryz.ntmps3 (by rw[Tryz.results3]) ?_;refine aH (aB _ ?_);simp only[go_sem,seval];refine aH (aB _ ?_);simp only[go_sem,seval];refine⟨_,cpj,?_⟩;simp only[go_sem,seval];refine⟨_,cod,?_⟩;simp only[go_sem,seval];refine aH (aB _ ?_);simp only[go_sem,seval];refine aH (aB _ ?_);simp only[go_sem,seval];refine aH ?_;refine aH (aB _ ?_);simp only[go_sem,seval];refine aB _ ?_;simp only[go_sem,seval];refine jN (aNn 13 35 2 [mW ⟨#[]⟩,.lit (.slice none 0 0)] (Nat.zero_le _) rfl) ?_;simp only[go_sem,seval];refine aE (λ(x:Nat×List AudioR) σ=>mY 2 (.row 35 2 [mW ⟨#[]⟩,.lit (.slice none 0 0)] (aS (x.2.map AudioR.c))) (mY 1 (.box [.t (cM K),aA ((4*x.1:Nat):Int)]) (bP 14 (aA x.1) (aY [15,31,32,33,34,35,36,37,38,39,40,41,42,43,44,45,46,47,48,49,50,51,52,53,54,55,56,57,58,59,60,61,62,63] (bE σ))))) (λx=>x.1<=4/\x.2.length<=x.1/\AudF x.2) (λx=>4-x.1) (0,[]) (aC ?_) ⟨Nat.zero_le _,Nat.le_refl _,⟨by simp,λa ha=>absurd ha (by simp),λa ha=>absurd ha (by simp)⟩⟩ ?_
 .simp only[go_sem,seval];simp
 rintro⟨i,M⟩ ⟨hi,hM,hA⟩;simp only at hi hM hA;have hnx:=λ(k:Nat) (n:Int) (hk:k<=100) (h1:1<=n) (h2:n<=1048576)=>bR K k n (by omega) h1 h2
 refine aB _ ?_;simp only[go_sem,seval];refine⟨λhlt=>?_,λhge=>?_⟩
 .simp only[bxx]at hlt;unfold awS;simp only[go_sem,seval];have tb0:=aG (L:=K) (k:=4*i) (n:=4000) (by decide);have tb1:=aG (L:=K) (k:=4*i+1) (n:=2) (by decide);have hwi:IntKind.i64.wrap ((i:Int)+1)=((i+1:Nat):Int):=by rw[bJ (by omega)];omega
  obtain⟨m,hm⟩:=eF (n:=300+aD K (4*i) 4000) (by omega);obtain⟨b,hb⟩:=eF (n:=aD K (4*i+1) 2) (by omega);have wm:IntKind.i64.wrap (300+aD K (4*i) 4000)=(m:Int):=by rw[wrap64 (by omega) (by omega)];exact hm
  have hbl:b<(Ej L m).length:=by show b<2;omega
  refine aP (hnx (4*i) 4000 (by omega) (by decide) (by decide)) rfl rfl rfl ?_;simp only[go_sem,seval,wm];refine⟨_,cSounds L m (by omega),?_⟩;simp only[go_sem,seval];refine aP (hnx (4*i+1) 2 (by omega) (by decide) (by decide)) rfl rfl rfl ?_;simp only[go_sem,seval,hb,Zv hbl];have hsz:(Utf8.encode (IntKind.i32.wrap (IntKind.i64.wrap (48+(i:Int))))).size=1:=by
   obtain rfl|rfl|rfl|rfl:i=0\/i=1\/i=2\/i=3:=by omega
   all_goals rfl
  have mx:(IntKind.i64.max:Int)=9223372036854775807:=by decide
  refine⟨⟨by omega,by omega⟩,by rw[hsz,mx];decide,?_⟩;generalize Utf8.encode (IntKind.i32.wrap (IntKind.i64.wrap (48+(i:Int))))=nm at*;have tb2:=aG (L:=K) (k:=4*i+2) (n:=2) (by decide);obtain⟨e,he⟩:=eF (n:=1+aD K (4*i+2) 2) (by omega);have we:IntKind.i64.wrap (1+aD K (4*i+2) 2)=(e:Int):=by rw[wrap64 (by omega) (by omega)];exact he
  obtain⟨hc2,hcq⟩:=sndA_ok L m b (by omega) (by omega);generalize((Ej L m).getD b default).chs=C at*;refine aQ 8 .done (h:=?_);simp only[go_sem,seval];refine gZ (hnx (4*i+2) 2 (by omega) (by decide) (by decide)) rfl rfl rfl ?_;simp only[go_sem,seval,we,pY,List.length_map,hc2];refine⟨⟨by omega,by omega⟩,by kernel_rfl,?_⟩;refine aP (hnx (4*i+3) 9 (by omega) (by decide) (by decide)) rfl rfl rfl ?_;simp only[go_sem,seval];refine⟨λh9=>?_,λh9=>?_⟩
  .unfold awS;simp only[go_sem,seval];refine⟨⟨by unfold maxLen;omega,by omega⟩,(i+1,M++[⟨⟨#[109]⟩++nm,C.take e⟩]),cA [(2,some 13),(1,some 1),(0,some 0)] ?_,⟨by show i+1<=4;omega,by rw[List.length_append];show M.length+1<=i+1;omega,aN2 hA (by omega) (by rw[List.length_take];show min e C.length<=100;omega) (λq hq=>hcq q (List.mem_of_mem_take hq))⟩,by show 4-(i+1)<4-i;omega⟩;simp only[go_sem,seval,hwi];refine⟨by simp,?_,by simp,rfl,by simp⟩;rw[List.map_append,<-List.map_take];rfl
  .unfold awS;simp only[go_sem,seval];refine⟨(i+1,M),cA [(2,some 2),(1,some 1),(0,some 0)] ?_,⟨by show i+1<=4;omega,by show M.length<=i+1;omega,hA⟩,by show 4-(i+1)<4-i;omega⟩;simp only[go_sem,seval,hwi];exact⟨by simp,by simp,rfl,by simp⟩
 .simp only[bxx]at hge;have:i=4:=by omega
  subst this;have hn7:I64 (bits .and .i64 n 7):=Ea _;have hf1:I64 (bits .and .i64 fr0 4095):=Ea _;have hf2:I64 (IntKind.i64.wrap (bits .and .i64 fr0 1023-100)):=Ea _;have cs:=λnm k hk=>aJs h hA nm k _ hk hn7
  have cr:=λnm k hk=>aSn h hA nm k _ hk hn7
  have cm:=λnm k=>cSameR h M nm k (bits .and .i64 n 7)
  simp only[resR_eq]at cs cr;unfold awS;simp only[go_sem,dtf,seval];refine aTx [2] ?_;simp only[go_sem,seval];have ww1:IntKind.i64.wrap 1=1:=by decide
  have ww2:IntKind.i64.wrap 2=2:=by decide
  have ww3:IntKind.i64.wrap 3=3:=by decide
  have ww4:IntKind.i64.wrap 4=4:=by decide
  have w01:IntKind.i64.wrap (0+1)=1:=by decide
  have w11:IntKind.i64.wrap (1+1)=2:=by decide
  have w21:IntKind.i64.wrap (2+1)=3:=by decide
  have w31:IntKind.i64.wrap (3+1)=4:=by decide
  refine aH (aB _ ?_);simp only[go_sem,seval];refine bC ?_
  iterate 4
   refine aK (aB _ ?_);simp only[go_sem,dtf,seval,jR,rU,wB,De];refine bC ?_
   iterate 3
    refine aK (aB _ ?_);simp only[go_sem,dtf,seval,jR,rU,wB];refine⟨_,cs _ _ (by assumption),?_⟩;simp only[go_sem,seval];refine⟨_,cr _ _ (by assumption),?_⟩;simp only[go_sem,seval,bne_self_eq_false];refine⟨_,cm _ _,?_⟩;simp only[go_sem,seval,ww1,ww2,ww3]
   refine aK (aB _ ?_);simp only[go_sem,dtf,seval,ww1,ww2,ww3,ww4]
  refine aK (aB _ ?_);simp only[go_sem,dtf,seval];refine aB _ ?_;simp only[go_sem,seval];refine⟨_,aTp,?_⟩;simp only[go_sem,seval]
