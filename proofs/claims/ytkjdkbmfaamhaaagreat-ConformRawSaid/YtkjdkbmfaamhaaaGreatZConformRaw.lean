/- Proved: 'ConformRaw' returns true for every input, and its arguments read as they did; no condition is laid on them. -/
import Derived.Test.YtkjdkbmfaamhaaaGreatRows
import Derived.Test.YtkjdkbmfaamhaaaGreatQ11
set_option linter.unusedSimpArgs false
set_option linter.unusedVariables false
set_option linter.unnecessarySimpa false
namespace Go.Proofs.YtkjdkbmfaamhaaaGreat.conformRaw
open Go.ChangeShapes Go.WideShapes Go.ChangeAt Go.RowKit
theorem own:ownKnob Tryz.prog.godebug=none:=by kernel_rfl
theorem laidOut:laidOutB Tryz.prog=true:=by kernel_rfl
theorem opens:Jx Tryz.prog [26,32,9,2,3] fun a:aB0×Em×ByteArray×kX×kX×Unit=>[jZ a.1.1, .t (gC a.2.1.1),cA a.2.2.1,aA a.2.2.2.1.1,aA a.2.2.2.2.1.1]:=mQ aProj (mQ aAudios (mQ aStr (mQ aI64 (mQ aInt Yx))))
theorem aNp (a:aB0×Em×ByteArray×kX×kX×Unit):aJ Tryz.prog 4 [jZ a.1.1, .t (gC a.2.1.1),cA a.2.2.1,aA a.2.2.2.1.1,aA a.2.2.2.2.1.1] (aL true):=raw4 _ _ _ _ _ a.1.2 a.2.1.2 a.2.2.2.1.2 a.2.2.2.2.1.2
set_option maxRecDepth 100000 in
theorem lifted (os:Os) (started:os.Started) (H:Type) (enc:TypeId×Value→H) :
  ReturnsInHanded {} Tryz.checked os 4 .any (Rows.conformRawSpec.pre6 enc Tryz.prog Tryz.f4 Rows.conformRawRow.domain false) (Rows.conformRawSpec.post enc Tryz.prog Tryz.f4 false true false false):=by
 refine returnsInHanded_of_change (C:=Tryz.checked) own started (by kernel_rfl) Tryz.func4
  (ChangeSpec.witness6 (enc:=enc) (C:=Tryz.checked) false ⟨#[], #[.agg #[.slice none 0 0, .slice none 0 0], .slice none 0 0, .string ⟨#[]⟩, .int .i64 0, .int .i64 0],[]⟩ 8 (by kernel_rfl) (by kernel_rfl) (by kernel_rfl) (by kernel_rfl)) ?_
 intro W base args ds gs before hval0 hW hcnd _;have hval:∀ (j:Nat) t v,Tryz.f4.params[j]? = some t→args[j]? = some v→Value.okWide Tryz.prog W .any base t v:=hval0;have hW':=hW;obtain ⟨p,q,hA0,hV,rfl,hfz,hnd⟩:=hW;have hA:DataW.TrodAll enc Tryz.prog W 0 (fun _=>true) true Tryz.f4.params.toList args.toList ds p:=hA0;rw [Tryz.params4] at hA hval;have hopen:=opens enc W (fun _=>true) true _ ds p (fun j t v h1 h2=>hval j t v (by simpa using h1) (by simpa using h2)) hA;have hkeep:=fun W' (hb:Below W.heap.size W W')=>By laidOut hb (of_decide_eq_true (by kernel_rfl)) hA
 obtain ⟨v0,vs0,d0,ds0,p0,q0,hargs0,rfl,rfl,h0,r0⟩:=trodAll_cons hA;obtain ⟨v1,vs1,d1,ds1,p1,q1,hargs1,rfl,rfl,h1,r1⟩:=trodAll_cons r0;obtain ⟨v2,vs2,d2,ds2,p2,q2,hargs2,rfl,rfl,h2,r2⟩:=trodAll_cons r1;obtain ⟨v3,vs3,d3,ds3,p3,q3,hargs3,rfl,rfl,h3,r3⟩:=trodAll_cons r2;obtain ⟨v4,vs4,d4,ds4,p4,q4,hargs4,rfl,rfl,h4,r4⟩:=trodAll_cons r3;obtain ⟨rfl,rfl,rfl⟩:=trodAll_nil r4;obtain ⟨rfl,rfl⟩:=trodVars_none hV;obtain ⟨a,ha⟩:=hopen;clear hA0 hval0;refine ((aNp a).2 W (Wb W) args.toList (fun _ h=>h) ha).mono fun e W'=>?_
 rintro ⟨v,S',rfl,_,_,_,hv,bel⟩;obtain rfl:v = .bool true:=(aG hv).1;exact ⟨_,rfl,_,_,_,[],_,[],hW',trodAll_mk1 (shut_bool Tryz.underlying4 _),hkeep W' bel,rfl,bel.frame _,fun h=>by cases h⟩
theorem named:Tryz.pinned.checked.prog.funcNamed Rows.conformRawRow.func=some 4:=by kernel_rfl
theorem k1:Rows.conformRawRow.wf (OpenSpec.ofChange Rows.conformRawSpec)=true:=by kernel_rfl
theorem k2:laidOutB Tryz.pinned.checked.prog=true:=by kernel_rfl
theorem k3:mapsRowed Tryz.pinned.checked.prog=true:=by kernel_rfl
theorem k4:Tryz.f4.params.all ((Tryz.pinned.checked.prog).readableRec ·)=true:=by kernel_rfl
theorem k5:namedTie Tryz.pinned.checked.prog Rows.conformRawRow.named Rows.conformRawSpec.vars=true:=by kernel_rfl
theorem k6:(Rows.conformRawRow.inPlace==(Tryz.pinned.checked.prog).inPlace 4)=true:=by kernel_rfl
theorem k7:(Rows.conformRawRow.unfollowed==(Tryz.pinned.checked.prog).unfollowed 4)=true:=by kernel_rfl
theorem k8:(Rows.conformRawRow.recurses==(Tryz.pinned.checked.prog).recurses 4)=true:=by kernel_rfl
theorem k9:(Rows.conformRawRow.named==(Tryz.pinned.checked.prog).varsNamed 4)=true:=by kernel_rfl
theorem k10:(Rows.conformRawRow.plainKeys==(Tryz.pinned.checked.prog).plainKeys)=true:=by kernel_rfl
theorem k11:(Tryz.pinned.checked.prog).stopsHeard=true:=by kernel_rfl
theorem k12:(Tryz.pinned.checked.prog).mayEnter=true:=by kernel_rfl
theorem k13:(Rows.conformRawRow.lifted==(Tryz.pinned.checked.prog).liftsFinal)=true:=by kernel_rfl
theorem k14:((Tryz.pinned.checked.prog).make==some Rows.conformRawRow.make)=true:=by kernel_rfl
theorem k15:(Rows.conformRawRow.pinned==Rows.conformRawRow.pinnedBy)=true:=by kernel_rfl
theorem joined:joinedFacts Tryz.pinned.checked.prog 4 Tryz.f4 Rows.conformRawSpec Rows.conformRawRow=true:=aHr k1 k2 k3 k4 k5 k6 k7 k8 k9 k10 k11 k12 k13 k14 k15 (by kernel_rfl) (by kernel_rfl) (by kernel_rfl) (by kernel_rfl) (by kernel_rfl) (by kernel_rfl) (by kernel_rfl) (by kernel_rfl) (by kernel_rfl) (by kernel_rfl) (by kernel_rfl) (by kernel_rfl) (by kernel_rfl) (by kernel_rfl)
theorem inst:Tryz.f4.isInstance Tryz.pinned.checked.prog Rows.conformRawRow.origin Rows.conformRawRow.targs:=of_decide_eq_true (by kernel_rfl)
theorem over:Rows.conformRawRow.holds Tryz.pinned (OpenSpec.ofChange Rows.conformRawSpec) :=
 OpenClaim.holds_of_wide 4 Tryz.f4 rfl rfl rfl rfl rfl rfl rfl ⟨rfl,rfl,rfl,rfl,rfl⟩ rfl rfl rfl rfl rfl named Tryz.func4 joined
  inst (by unfold Func.isWrapper;first | (rw [if_pos (by decide +kernel)];kernel_rfl) | (rw [if_neg (by decide +kernel)];exact ⟨rfl,rfl⟩))
  (fun os started H enc _=>lifted os started H enc)
theorem proved:Rows.ConformRawSaid:=over
end Go.Proofs.YtkjdkbmfaamhaaaGreat.conformRaw
