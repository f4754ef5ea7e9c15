/- Proved: 'DenoteMixes' returns true for every input, and its arguments read as they did; no condition is laid on them. -/
import Derived.Test.YtmbmmijdmdoalaaRows
import Derived.Test.YtmbmmijdmdoalaaZG
import Derived.Test.YtmbmmijdmdoalaaYB
import Derived.Test.YtmbmmijdmdoalaaZSP5
set_option linter.unusedSimpArgs false
set_option linter.unusedVariables false
set_option linter.unusedSectionVars false
set_option linter.unnecessarySimpa false
namespace Go.Proofs.Ytmbmmijdmdoalaa.denoteMixes
open Go.ChangeShapes Go.WideShapes Go.ChangeAt Go.RowKit
theorem own:ownKnob Try.prog.godebug=none:=by kernel_rfl
theorem laidOut:laidOutB Try.prog=true:=by kernel_rfl
theorem opens:OpensVs Try.prog [5,5,5,4] fun a:IntK .u8×IntK .u8×IntK .u8×Bool×Unit=>[.t (.lit (.int .u8 a.1.1)), .t (.lit (.int .u8 a.2.1.1)), .t (.lit (.int .u8 a.2.2.1.1)),vbool a.2.2.2.1]:=opensVs_cons aU8 (opensVs_cons aU8 (opensVs_cons aU8 (opensVs_cons aBool opensVs_nil)))
theorem contract (a:IntK .u8×IntK .u8×IntK .u8×Bool×Unit):CPure Try.prog 4 [.t (.lit (.int .u8 a.1.1)), .t (.lit (.int .u8 a.2.1.1)), .t (.lit (.int .u8 a.2.2.1.1)),vbool a.2.2.2.1] (vbool true):=mixes13 _ _ _ _ (u8_b a.1) (u8_b a.2.1) (u8_b a.2.2.1)
set_option maxRecDepth 100000 in
theorem lifted (os:Os) (started:os.Started) (H:Type) (enc:TypeId×Value→H) :
  ReturnsInHanded {} Try.checked os 4 .any (Rows.denoteMixesSpec.pre6 enc Try.prog Try.f4 Rows.denoteMixesRow.domain false) (Rows.denoteMixesSpec.post enc Try.prog Try.f4 false true false false):=by
 refine returnsInHanded_of_change (C:=Try.checked) own started (by kernel_rfl) Try.func4
  (ChangeSpec.witness6 (enc:=enc) (C:=Try.checked) false ⟨#[], #[.int .u8 0, .int .u8 0, .int .u8 0, .bool false],[]⟩ 8 (by kernel_rfl) (by kernel_rfl) (by kernel_rfl) (by kernel_rfl)) ?_
 intro W base args ds gs before hval0 hW hcnd _
 have hval:∀ (j:Nat) t v,Try.f4.params[j]? = some t→args[j]? = some v→Value.okWide Try.prog W .any base t v:=hval0
 have hW':=hW
 obtain ⟨p,q,hA0,hV,rfl,hfz,hnd⟩:=hW
 have hA:DataW.TrodAll enc Try.prog W 0 (fun _=>true) true Try.f4.params.toList args.toList ds p:=hA0
 rw [Try.params4] at hA hval
 have hopen:=opens enc W (fun _=>true) true _ ds p (fun j t v h1 h2=>hval j t v (by simpa using h1) (by simpa using h2)) hA
 have hkeep:=fun W' (hb:Below W.heap.size W W')=>trodAll_keep laidOut hb (of_decide_eq_true (by kernel_rfl)) hA
 obtain ⟨v0,vs0,d0,ds0,p0,q0,hargs0,rfl,rfl,h0,r0⟩:=trodAll_cons hA
 obtain ⟨v1,vs1,d1,ds1,p1,q1,hargs1,rfl,rfl,h1,r1⟩:=trodAll_cons r0
 obtain ⟨v2,vs2,d2,ds2,p2,q2,hargs2,rfl,rfl,h2,r2⟩:=trodAll_cons r1
 obtain ⟨v3,vs3,d3,ds3,p3,q3,hargs3,rfl,rfl,h3,r3⟩:=trodAll_cons r2
 obtain ⟨rfl,rfl,rfl⟩:=trodAll_nil r3
 obtain ⟨rfl,rfl⟩:=trodVars_none hV
 obtain ⟨a,ha⟩:=hopen
 clear hA0 hval0
 refine ((contract a).2 W (allS W) args.toList (fun _ h=>h) ha).mono fun e W'=>?_
 rintro ⟨v,S',rfl,_,_,_,hv,bel⟩
 obtain rfl:v = .bool true:=(rdV_lit_inv hv).1
 exact ⟨_,rfl,_,_,_,[],_,[],hW',trodAll_mk1 (shut_bool Try.underlying4 _),hkeep W' bel,rfl,bel.frame _,fun h=>by cases h⟩
theorem named:Try.pinned.checked.prog.funcNamed Rows.denoteMixesRow.func=some 4:=by kernel_rfl
theorem k1:Rows.denoteMixesRow.wf (OpenSpec.ofChange Rows.denoteMixesSpec)=true:=by kernel_rfl
theorem k2:laidOutB Try.pinned.checked.prog=true:=by kernel_rfl
theorem k3:mapsRowed Try.pinned.checked.prog=true:=by kernel_rfl
theorem k4:Try.f4.params.all ((Try.pinned.checked.prog).readableRec ·)=true:=by kernel_rfl
theorem k5:namedTie Try.pinned.checked.prog Rows.denoteMixesRow.named Rows.denoteMixesSpec.vars=true:=by kernel_rfl
theorem k6:(Rows.denoteMixesRow.inPlace==(Try.pinned.checked.prog).inPlace 4)=true:=by kernel_rfl
theorem k7:(Rows.denoteMixesRow.unfollowed==(Try.pinned.checked.prog).unfollowed 4)=true:=by kernel_rfl
theorem k8:(Rows.denoteMixesRow.recurses==(Try.pinned.checked.prog).recurses 4)=true:=by kernel_rfl
theorem k9:(Rows.denoteMixesRow.named==(Try.pinned.checked.prog).varsNamed 4)=true:=by kernel_rfl
theorem k10:(Rows.denoteMixesRow.plainKeys==(Try.pinned.checked.prog).plainKeys)=true:=by kernel_rfl
theorem k11:(Try.pinned.checked.prog).stopsHeard=true:=by kernel_rfl
theorem k12:(Try.pinned.checked.prog).mayEnter=true:=by kernel_rfl
theorem k13:(Rows.denoteMixesRow.lifted==(Try.pinned.checked.prog).liftsFinal)=true:=by kernel_rfl
theorem k14:((Try.pinned.checked.prog).make==some Rows.denoteMixesRow.make)=true:=by kernel_rfl
theorem k15:(Rows.denoteMixesRow.pinned==Rows.denoteMixesRow.pinnedBy)=true:=by kernel_rfl
theorem joined:joinedFacts Try.pinned.checked.prog 4 Try.f4 Rows.denoteMixesSpec Rows.denoteMixesRow=true:=joined_mk k1 k2 k3 k4 k5 k6 k7 k8 k9 k10 k11 k12 k13 k14 k15 (by kernel_rfl) (by kernel_rfl) (by kernel_rfl) (by kernel_rfl) (by kernel_rfl) (by kernel_rfl) (by kernel_rfl) (by kernel_rfl) (by kernel_rfl) (by kernel_rfl) (by kernel_rfl) (by kernel_rfl) (by kernel_rfl) (by kernel_rfl)
theorem inst:Try.f4.isInstance Try.pinned.checked.prog Rows.denoteMixesRow.origin Rows.denoteMixesRow.targs:=of_decide_eq_true (by kernel_rfl)
theorem over:Rows.denoteMixesRow.holds Try.pinned (OpenSpec.ofChange Rows.denoteMixesSpec) :=
 OpenClaim.holds_of_wide 4 Try.f4 rfl rfl rfl rfl rfl rfl rfl ⟨rfl,rfl,rfl,rfl,rfl⟩ rfl rfl rfl rfl rfl named Try.func4 joined
  inst (by unfold Func.isWrapper;first | (rw [if_pos (by decide +kernel)];kernel_rfl) | (rw [if_neg (by decide +kernel)];exact ⟨rfl,rfl⟩))
  (fun os started H enc _=>lifted os started H enc)
theorem proved:Rows.DenoteMixesSaid:=over
end Go.Proofs.Ytmbmmijdmdoalaa.denoteMixes
