/- Proved: 'ConformSounds' returns true for every input, and its arguments read as they did; no condition is laid on them. -/
import Derived.Test.YtkjdkbmfaamhaaaGreatRows
import Derived.Test.YtkjdkbmfaamhaaaGreatQ11
set_option linter.unusedSimpArgs false
set_option linter.unusedVariables false
set_option linter.unnecessarySimpa false
namespace Go.Proofs.YtkjdkbmfaamhaaaGreat.conformSounds
open Go.ChangeShapes Go.WideShapes Go.ChangeAt Go.RowKit
theorem own:ownKnob Tryz.prog.godebug=none:=by kernel_rfl
theorem laidOut:laidOutB Tryz.prog=true:=by kernel_rfl
theorem opens:Mr Tryz.prog [22,22,2,3,9] λa:List Int×List Int×aE2×aE2×ByteArray×Unit=>[.t (cM a.1),.t (cM a.2.1),aA a.2.2.1.1,aA a.2.2.2.1.1,cF a.2.2.2.2.1]:=nY aInts (nY aInts (nY aI64 (nY aInt (nY aStr aC0))))
theorem aS8 (a:List Int×List Int×aE2×aE2×ByteArray×Unit):aL Tryz.prog 3 [.t (cM a.1),.t (cM a.2.1),aA a.2.2.1.1,aA a.2.2.2.1.1,cF a.2.2.2.2.1] (aR true):=sounds3 _ _ _ _ _ a.2.2.1.2 a.2.2.2.1.2
set_option maxRecDepth 100000 in
theorem lifted (os:Os) (started:os.Started) (H:Type) (enc:TypeId×Value->H) :
  ReturnsInHanded {} Tryz.checked os 3 .any (Rows.conformSoundsSpec.pre6 enc Tryz.prog Tryz.f3 Rows.conformSoundsRow.domain false) (Rows.conformSoundsSpec.post enc Tryz.prog Tryz.f3 false true false false):=by
 refine returnsInHanded_of_change (C:=Tryz.checked) own started (by kernel_rfl) Tryz.func3
  (ChangeSpec.witness6 (enc:=enc) (C:=Tryz.checked) false ⟨#[],#[.slice none 0 0,.slice none 0 0,.int .i64 0,.int .i64 0,.string ⟨#[]⟩],[]⟩ 8 (by kernel_rfl) (by kernel_rfl) (by kernel_rfl) (by kernel_rfl)) ?_
 intro W base args ds gs before hval0 hW hcnd _;have hval:∀(j:Nat) t v,Tryz.f3.params[j]?=some t->args[j]?=some v->Value.okWide Tryz.prog W .any base t v:=hval0;have hW':=hW;obtain⟨p,q,hA0,hV,rfl,hfz,hnd⟩:=hW;have hA:DataW.TrodAll enc Tryz.prog W 0 (λ_=>true) true Tryz.f3.params.toList args.toList ds p:=hA0;rw[Tryz.params3]at hA hval;have hopen:=opens enc W (λ_=>true) true _ ds p (λj t v h1 h2=>hval j t v (by simpa using h1) (by simpa using h2)) hA;have hkeep:=λW' (hb:Below W.heap.size W W')=>Ec laidOut hb (of_decide_eq_true (by kernel_rfl)) hA
 obtain⟨v0,vs0,d0,ds0,p0,q0,hargs0,rfl,rfl,h0,r0⟩:=trodAll_cons hA;obtain⟨v1,vs1,d1,ds1,p1,q1,hargs1,rfl,rfl,h1,r1⟩:=trodAll_cons r0;obtain⟨v2,vs2,d2,ds2,p2,q2,hargs2,rfl,rfl,h2,r2⟩:=trodAll_cons r1;obtain⟨v3,vs3,d3,ds3,p3,q3,hargs3,rfl,rfl,h3,r3⟩:=trodAll_cons r2;obtain⟨v4,vs4,d4,ds4,p4,q4,hargs4,rfl,rfl,h4,r4⟩:=trodAll_cons r3;obtain⟨rfl,rfl,rfl⟩:=trodAll_nil r4;obtain⟨rfl,rfl⟩:=trodVars_none hV;obtain⟨a,ha⟩:=hopen;clear hA0 hval0;refine((aS8 a).2 W (aGe W) args.toList (λ_ h=>h) ha).mono λe W'=>?_
 rintro⟨v,S',rfl,_,_,_,hv,bel⟩;obtain rfl:v=.bool true:=(aJ hv).1;exact⟨_,rfl,_,_,_,[],_,[],hW',trodAll_mk1 (shut_bool Tryz.underlying4 _),hkeep W' bel,rfl,bel.frame _,λh=>by cases h⟩
theorem named:Tryz.pinned.checked.prog.funcNamed Rows.conformSoundsRow.func=some 3:=by kernel_rfl
theorem k1:Rows.conformSoundsRow.wf (OpenSpec.ofChange Rows.conformSoundsSpec)=true:=by kernel_rfl
theorem k2:laidOutB Tryz.pinned.checked.prog=true:=by kernel_rfl
theorem k3:mapsRowed Tryz.pinned.checked.prog=true:=by kernel_rfl
theorem k4:Tryz.f3.params.all ((Tryz.pinned.checked.prog).readableRec ·)=true:=by kernel_rfl
theorem k5:namedTie Tryz.pinned.checked.prog Rows.conformSoundsRow.named Rows.conformSoundsSpec.vars=true:=by kernel_rfl
theorem k6:(Rows.conformSoundsRow.inPlace==(Tryz.pinned.checked.prog).inPlace 3)=true:=by kernel_rfl
theorem k7:(Rows.conformSoundsRow.unfollowed==(Tryz.pinned.checked.prog).unfollowed 3)=true:=by kernel_rfl
theorem k8:(Rows.conformSoundsRow.recurses==(Tryz.pinned.checked.prog).recurses 3)=true:=by kernel_rfl
theorem k9:(Rows.conformSoundsRow.named==(Tryz.pinned.checked.prog).varsNamed 3)=true:=by kernel_rfl
theorem k10:(Rows.conformSoundsRow.plainKeys==(Tryz.pinned.checked.prog).plainKeys)=true:=by kernel_rfl
theorem k11:(Tryz.pinned.checked.prog).stopsHeard=true:=by kernel_rfl
theorem k12:(Tryz.pinned.checked.prog).mayEnter=true:=by kernel_rfl
theorem k13:(Rows.conformSoundsRow.lifted==(Tryz.pinned.checked.prog).liftsFinal)=true:=by kernel_rfl
theorem k14:((Tryz.pinned.checked.prog).make==some Rows.conformSoundsRow.make)=true:=by kernel_rfl
theorem k15:(Rows.conformSoundsRow.pinned==Rows.conformSoundsRow.pinnedBy)=true:=by kernel_rfl
theorem joined:joinedFacts Tryz.pinned.checked.prog 3 Tryz.f3 Rows.conformSoundsSpec Rows.conformSoundsRow=true:=aM2 k1 k2 k3 k4 k5 k6 k7 k8 k9 k10 k11 k12 k13 k14 k15 (by kernel_rfl) (by kernel_rfl) (by kernel_rfl) (by kernel_rfl) (by kernel_rfl) (by kernel_rfl) (by kernel_rfl) (by kernel_rfl) (by kernel_rfl) (by kernel_rfl) (by kernel_rfl) (by kernel_rfl) (by kernel_rfl) (by kernel_rfl)
theorem inst:Tryz.f3.isInstance Tryz.pinned.checked.prog Rows.conformSoundsRow.origin Rows.conformSoundsRow.targs:=of_decide_eq_true (by kernel_rfl)
theorem over:Rows.conformSoundsRow.holds Tryz.pinned (OpenSpec.ofChange Rows.conformSoundsSpec):=
 OpenClaim.holds_of_wide 3 Tryz.f3 rfl rfl rfl rfl rfl rfl rfl ⟨rfl,rfl,rfl,rfl,rfl⟩ rfl rfl rfl rfl rfl named Tryz.func3 joined
  inst (by unfold Func.isWrapper;first|(rw[if_pos (by decide+kernel)];kernel_rfl)|(rw[if_neg (by decide+kernel)];exact⟨rfl,rfl⟩))
  (λos started H enc _=>lifted os started H enc)
theorem proved:Rows.ConformSoundsSaid:=over
end Go.Proofs.YtkjdkbmfaamhaaaGreat.conformSounds
