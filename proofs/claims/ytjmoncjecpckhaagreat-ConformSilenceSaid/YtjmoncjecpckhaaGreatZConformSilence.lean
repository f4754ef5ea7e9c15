/- Proved: 'ConformSilence' returns true for every input, and its arguments read as they did; no condition is laid on them. -/
import Derived.Test.YtjmoncjecpckhaaGreatRows
import Derived.Test.YtjmoncjecpckhaaGreatZG
import Derived.Test.YtjmoncjecpckhaaGreatYB
import Derived.Test.YtjmoncjecpckhaaGreatZLAB
set_option linter.unusedSimpArgs false
set_option linter.unusedVariables false
set_option linter.unusedSectionVars false
set_option linter.unnecessarySimpa false
namespace Go.Proofs.YtjmoncjecpckhaaGreat.conformSilence
open Go.ChangeShapes Go.WideShapes Go.ChangeAt Go.RowKit
theorem own:ownKnob Tryz.prog.godebug=none:=by kernel_rfl
theorem laidOut:laidOutB Tryz.prog=true:=by kernel_rfl
theorem opens:OpensVs Tryz.prog [21,5] fun a:IntK .i32×IntK .u8×Unit=>[.t (.lit (.int .i32 a.1.1)), .t (.lit (.int .u8 a.2.1.1))]:=opensVs_cons aI32 (opensVs_cons aU8 opensVs_nil)
theorem contract (a:IntK .i32×IntK .u8×Unit):CPure Tryz.prog 12 [.t (.lit (.int .i32 a.1.1)), .t (.lit (.int .u8 a.2.1.1))] (vbool true):=silence12 _ _ (i32_b a.1) (u8_b a.2.1)
set_option maxRecDepth 100000 in
theorem lifted (os:Os) (started:os.Started) (H:Type) (enc:TypeId×Value→H) :
  ReturnsInHanded {} Tryz.checked os 12 .any (Rows.conformSilenceSpec.pre6 enc Tryz.prog Tryz.f12 Rows.conformSilenceRow.domain false) (Rows.conformSilenceSpec.post enc Tryz.prog Tryz.f12 false true false false):=by
 refine returnsInHanded_of_change (C:=Tryz.checked) own started (by kernel_rfl) Tryz.func12
  (ChangeSpec.witness6 (enc:=enc) (C:=Tryz.checked) false ⟨#[], #[.int .i32 0, .int .u8 0],[]⟩ 8 (by kernel_rfl) (by kernel_rfl) (by kernel_rfl) (by kernel_rfl)) ?_
 intro W base args ds gs before hval0 hW hcnd _
 have hval:∀ (j:Nat) t v,Tryz.f12.params[j]? = some t→args[j]? = some v→Value.okWide Tryz.prog W .any base t v:=hval0
 have hW':=hW
 obtain ⟨p,q,hA0,hV,rfl,hfz,hnd⟩:=hW
 have hA:DataW.TrodAll enc Tryz.prog W 0 (fun _=>true) true Tryz.f12.params.toList args.toList ds p:=hA0
 rw [Tryz.params12] at hA hval
 have hopen:=opens enc W (fun _=>true) true _ ds p (fun j t v h1 h2=>hval j t v (by simpa using h1) (by simpa using h2)) hA
 have hkeep:=fun W' (hb:Below W.heap.size W W')=>trodAll_keep laidOut hb (of_decide_eq_true (by kernel_rfl)) hA
 obtain ⟨v0,vs0,d0,ds0,p0,q0,hargs0,rfl,rfl,h0,r0⟩:=trodAll_cons hA
 obtain ⟨v1,vs1,d1,ds1,p1,q1,hargs1,rfl,rfl,h1,r1⟩:=trodAll_cons r0
 obtain ⟨rfl,rfl,rfl⟩:=trodAll_nil r1
 obtain ⟨rfl,rfl⟩:=trodVars_none hV
 obtain ⟨a,ha⟩:=hopen
 clear hA0 hval0
 refine ((contract a).2 W (allS W) args.toList (fun _ h=>h) ha).mono fun e W'=>?_
 rintro ⟨v,S',rfl,_,_,_,hv,bel⟩
 obtain rfl:v = .bool true:=(rdV_lit_inv hv).1
 exact ⟨_,rfl,_,_,_,[],_,[],hW',trodAll_mk1 (shut_bool Tryz.underlying4 _),hkeep W' bel,rfl,bel.frame _,fun h=>by cases h⟩
theorem named:Tryz.pinned.checked.prog.funcNamed Rows.conformSilenceRow.func=some 12:=by kernel_rfl
theorem k1:Rows.conformSilenceRow.wf (OpenSpec.ofChange Rows.conformSilenceSpec)=true:=by kernel_rfl
theorem k2:laidOutB Tryz.pinned.checked.prog=true:=by kernel_rfl
theorem k3:mapsRowed Tryz.pinned.checked.prog=true:=by kernel_rfl
theorem k4:Tryz.f12.params.all ((Tryz.pinned.checked.prog).readableRec ·)=true:=by kernel_rfl
theorem k5:namedTie Tryz.pinned.checked.prog Rows.conformSilenceRow.named Rows.conformSilenceSpec.vars=true:=by kernel_rfl
theorem k6:(Rows.conformSilenceRow.inPlace==(Tryz.pinned.checked.prog).inPlace 12)=true:=by kernel_rfl
theorem k7:(Rows.conformSilenceRow.unfollowed==(Tryz.pinned.checked.prog).unfollowed 12)=true:=by kernel_rfl
theorem k8:(Rows.conformSilenceRow.recurses==(Tryz.pinned.checked.prog).recurses 12)=true:=by kernel_rfl
theorem k9:(Rows.conformSilenceRow.named==(Tryz.pinned.checked.prog).varsNamed 12)=true:=by kernel_rfl
theorem k10:(Rows.conformSilenceRow.plainKeys==(Tryz.pinned.checked.prog).plainKeys)=true:=by kernel_rfl
theorem k11:(Tryz.pinned.checked.prog).stopsHeard=true:=by kernel_rfl
theorem k12:(Tryz.pinned.checked.prog).mayEnter=true:=by kernel_rfl
theorem k13:(Rows.conformSilenceRow.lifted==(Tryz.pinned.checked.prog).liftsFinal)=true:=by kernel_rfl
theorem k14:((Tryz.pinned.checked.prog).make==some Rows.conformSilenceRow.make)=true:=by kernel_rfl
theorem k15:(Rows.conformSilenceRow.pinned==Rows.conformSilenceRow.pinnedBy)=true:=by kernel_rfl
theorem joined:joinedFacts Tryz.pinned.checked.prog 12 Tryz.f12 Rows.conformSilenceSpec Rows.conformSilenceRow=true:=joined_mk k1 k2 k3 k4 k5 k6 k7 k8 k9 k10 k11 k12 k13 k14 k15 (by kernel_rfl) (by kernel_rfl) (by kernel_rfl) (by kernel_rfl) (by kernel_rfl) (by kernel_rfl) (by kernel_rfl) (by kernel_rfl) (by kernel_rfl) (by kernel_rfl) (by kernel_rfl) (by kernel_rfl) (by kernel_rfl) (by kernel_rfl)
theorem inst:Tryz.f12.isInstance Tryz.pinned.checked.prog Rows.conformSilenceRow.origin Rows.conformSilenceRow.targs:=of_decide_eq_true (by kernel_rfl)
theorem over:Rows.conformSilenceRow.holds Tryz.pinned (OpenSpec.ofChange Rows.conformSilenceSpec) :=
 OpenClaim.holds_of_wide 12 Tryz.f12 rfl rfl rfl rfl rfl rfl rfl ⟨rfl,rfl,rfl,rfl,rfl⟩ rfl rfl rfl rfl rfl named Tryz.func12 joined
  inst (by unfold Func.isWrapper;first | (rw [if_pos (by decide +kernel)];kernel_rfl) | (rw [if_neg (by decide +kernel)];exact ⟨rfl,rfl⟩))
  (fun os started H enc _=>lifted os started H enc)
theorem proved:Rows.ConformSilenceSaid:=over
end Go.Proofs.YtjmoncjecpckhaaGreat.conformSilence
