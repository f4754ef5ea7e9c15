/- Proved here: 'MediaShows' returns true; conditions stand in each theorem. -/
import Derived.Test.YtbfnemkngoaeeaaGreatQ52
import Derived.Test.YtbfnemkngoaeeaaGreatQ49
set_option linter.unusedSimpArgs false
set_option linter.unusedVariables false
set_option linter.unusedSectionVars false
set_option linter.unnecessarySimpa false
namespace Go.Proofs.YtbfnemkngoaeeaaGreat
open Go.RowKit
set_option maxRecDepth 4000
set_option maxHeartbeats 4000000 in
theorem shows36 (L1 L2:List Int) (x:Int) (hx : 0≤x∧x≤255):aM Tryz.prog 9 [.t (bY L1), .t (bY L2), .t (.lit (.int .u8 x))] (aS true):=by
 obtain ⟨hok,hlk⟩:=aU9 L2;obtain ⟨M,N,hp⟩:=aQ4 L1;have hnf:=hok.nf;have hnl:=hok.nl;have hpf:=hp.fit;have cm:=cMadeS L2 14 (by decide) (by decide);have cp:=cProj36 L1;have c1:=aW7 (uX L2) (fZ L1) s0N (by unfold maxLen;omega) (by unfold maxLen;omega) hp.fit;obtain ⟨z1,z2,z3⟩:=aAq hok hp;obtain ⟨m,hm⟩:∃ m,m=x % 40:=⟨_,rfl⟩
 have hmI:I64 m:=bG (by omega) (by omega);obtain ⟨w1,w2,w3,w4,w5,w6,w7,w8,w9⟩:=aPr hok hp m z2 z3;have hUu:=wP (p:=fZ L1) (name:=s0N) hp.fit hp.uses0;have hKn:(cU (qQ (uX L2) (dN (fZ L1) s0N).1)).Nodup:=(cK _).nodup_iff.2 (hUu.2.1.filter _);have hKl:(cU (qQ (uX L2) (dN (fZ L1) s0N).1)).length≤16:=by
  rw [(cK _).length_eq];exact Nat.le_trans (List.length_filter_le _ _) hUu.2.2.2
 have hrl:(cU (qC (uX L2) (fZ L1) (cU (qQ (uX L2) (dN (fZ L1) s0N).1))).2).length≤16:=by
  have h1:=Dy (s:=uX L2) (p:=fZ L1) hKn _ (Nat.le_refl _);have h2:=vS (uX L2) (fZ L1) (cU (qQ (uX L2) (dN (fZ L1) s0N).1)) _ (Nat.le_refl _);rw [List.take_length] at h1 h2;rw [(cK _).length_eq];exact Nat.le_trans (Gg h1 h2) hKl
 rw [← z3] at hrl;obtain ⟨r,hr⟩:∃ r,r=jS (uX L2) (fZ L1) s0N:=⟨_,rfl⟩
 rw [← hr] at c1 z1 w1 w2 w4 w7 w8 w9 hrl;have cl1:=aH6 r.1 w1 s0N;have cl2:=aH6 (fZ L1) hpf s0N;have cf1:=aNk r.1 w1 s0N m hmI;have cf2:=aNk (fZ L1) hpf s0N m hmI;rw [w2] at cl1;rw [w3] at cl1 cl2;rw [w4] at cf1;rw [w5] at cf2;have ci:=aWk (uX L2) r.2.1 (by unfold maxLen;omega) (by unfold maxLen;omega) (by unfold maxLen;omega) _ w6;have cs:=cSimple _ w8;rw [w9] at cf1;obtain ⟨E0,hE0⟩:∃ E0,E0=(gQ (fZ L1) s0N m).1:=⟨_,rfl⟩
 rw [← hE0] at cf2 ci cs cf1;obtain ⟨E1,hE1⟩:∃ E1,E1=renE (xR (uX L2) r.2.1) E0:=⟨_,rfl⟩
 rw [← hE1] at ci cs cf1;obtain ⟨E2,hE2⟩:∃ E2,E2=aDf E1:=⟨_,rfl⟩
 rw [← hE2] at cs cf1;have cq:=cRSameE E2 E2;rw [xY.2 rfl] at cq;obtain ⟨n,hn⟩:∃ n,n=(fF (fZ L1) s0N).1:=⟨_,rfl⟩
 rw [← hn] at cl1 cl2;obtain ⟨S,hS⟩:∃ S,S=uX L2:=⟨_,rfl⟩
 obtain ⟨P,hP⟩:∃ P,P=fZ L1:=⟨_,rfl⟩
 have eS:(bP ⟨[],[]⟩ (My L2 0 14).1).1=S:=hS.symm;rw [eS] at cm;rw [← hS] at c1 ci;rw [← hP] at cp c1 cl2 cf2;clear hE0 hE1 hE2 hn hr hP hS eS w1 w2 w3 w4 w5 w6 w7 w8 w9 hKl hKn hUu z2 z3;obtain ⟨o0,m0,fr0,nu0,de0,pa0,te0,ar0⟩:=E0;obtain ⟨o1,m1,fr1,nu1,de1,pa1,te1,ar1⟩:=E1;obtain ⟨o2,m2,fr2,nu2,de2,pa2,te2,ar2⟩:=E2;simp only [jQ] at cf1 cf2 ci cs cq;refine aH Tryz.X9 Tryz.func9 rfl Tryz.ntmps9 (by rw [Tryz.results9]) (aD _ ?_);simp only [go_sem,simprocAttr,dtf];refine aV0 cm rfl ?_;simp only [go_sem,simprocAttr,dtf];refine ⟨_,cp,?_⟩;simp only [go_sem,simprocAttr,dtf];refine ⟨_,c1,?_⟩;simp only [go_sem,simprocAttr,dtf];rw [z1];simp only [go_sem,simprocAttr,dtf];refine ⟨fun h=>h.elim,?_⟩;unfold awS;simp only [go_sem,simprocAttr,dtf];have hw:IntKind.i64.wrap (x.tmod 40)=m:=by
  have e:x.tmod 40=m:=by rw [hm];exact Int.tmod_eq_emod_of_nonneg hx.1
  rw [e];exact wrap64 (by omega) (by omega)
 rw [hw];refine ⟨_,cl1,?_⟩;simp only [go_sem,simprocAttr,dtf];refine ⟨_,cl2,?_⟩;simp only [go_sem,simprocAttr,dtf];refine ⟨_,cf1,?_⟩;simp only [go_sem,simprocAttr,dtf];refine ⟨_,cf2,?_⟩;simp only [go_sem,simprocAttr,dtf];refine aK 19 .done rfl (by kernel_rfl) (by kernel_rfl) (by decide) ?_;simp only [go_sem,simprocAttr,dtf];refine ⟨_,ci,?_⟩;simp only [go_sem,simprocAttr,dtf];refine ⟨_,cs,?_⟩;simp only [go_sem,simprocAttr,dtf];refine ⟨_,cq,?_⟩;simp only [go_sem,simprocAttr,dtf];refine ⟨_,aWv,?_⟩;simp only [go_sem,simprocAttr,dtf];exact chkQ (by kernel_rfl)
end Go.Proofs.YtbfnemkngoaeeaaGreat
