/- Proved: 'ConformNested' returns true for every input, and its arguments read as they did; no condition is laid on them. -/
import Derived.Test.YtjmoncjecpckhaaGreatRows
import Derived.Test.YtjmoncjecpckhaaGreatZG
import Derived.Test.YtjmoncjecpckhaaGreatYB
import Derived.Test.YtjmoncjecpckhaaGreatVQ
set_option linter.unusedSimpArgs false
set_option linter.unusedVariables false
set_option linter.unusedSectionVars false
set_option linter.unnecessarySimpa false
namespace Go.Proofs.YtjmoncjecpckhaaGreat.conformNested
open Go.ChangeShapes Go.WideShapes Go.ChangeAt Go.RowKit
theorem own:ownKnob Tryz.prog.godebug=none:=by kernel_rfl
theorem laidOut:laidOutB Tryz.prog=true:=by kernel_rfl
theorem opens:OpensVs Tryz.prog [22,23,5] fun a:List Int×IntK .u16×IntK .u8×Unit=>[.t (tints a.1), .t (.lit (.int .u16 a.2.1.1)), .t (.lit (.int .u8 a.2.2.1.1))]:=opensVs_cons aInts (opensVs_cons aU16 (opensVs_cons aU8 opensVs_nil))
theorem contract (a:List Int×IntK .u16×IntK .u8×Unit):CPure Tryz.prog 11 [.t (tints a.1), .t (.lit (.int .u16 a.2.1.1)), .t (.lit (.int .u8 a.2.2.1.1))] (vbool true):=nested11 _ _ _ (u16_b a.2.1) (u8_b a.2.2.1)
set_option maxRecDepth 100000 in
theorem lifted (os:Os) (started:os.Started) (H:Type) (enc:TypeId×Value→H) :
  ReturnsInHanded {} Tryz.checked os 11 .any (Rows.conformNestedSpec.pre6 enc Tryz.prog Tryz.f11 Rows.conformNestedRow.domain false) (Rows.conformNestedSpec.post enc Tryz.prog Tryz.f11 false true false false):=by
 refine returnsInHanded_of_change (C:=Tryz.checked) own started (by kernel_rfl) Tryz.func11
  (ChangeSpec.witness6 (enc:=enc) (C:=Tryz.checked) false ⟨#[], #[.slice none 0 0, .int .u16 0, .int .u8 0],[]⟩ 8 (by kernel_rfl) (by kernel_rfl) (by kernel_rfl) (by kernel_rfl)) ?_
 intro W base args ds gs before hval0 hW hcnd _
 have hval:∀ (j:Nat) t v,Tryz.f11.params[j]? = some t→args[j]? = some v→Value.okWide Tryz.prog W .any base t v:=hval0
 have hW':=hW
 obtain ⟨p,q,hA0,hV,rfl,hfz,hnd⟩:=hW
 have hA:DataW.TrodAll enc Tryz.prog W 0 (fun _=>true) true Tryz.f11.params.toList args.toList ds p:=hA0
 rw [Tryz.params11] at hA hval
 have hopen:=opens enc W (fun _=>true) true _ ds p (fun j t v h1 h2=>hval j t v (by simpa using h1) (by simpa using h2)) hA
 have hkeep:=fun W' (hb:Below W.heap.size W W')=>trodAll_keep laidOut hb (of_decide_eq_true (by kernel_rfl)) hA
 obtain ⟨v0,vs0,d0,ds0,p0,q0,hargs0,rfl,rfl,h0,r0⟩:=trodAll_cons hA
 obtain ⟨v1,vs1,d1,ds1,p1,q1,hargs1,rfl,rfl,h1,r1⟩:=trodAll_cons r0
 obtain ⟨v2,vs2,d2,ds2,p2,q2,hargs2,rfl,rfl,h2,r2⟩:=trodAll_cons r1
 obtain ⟨rfl,rfl,rfl⟩:=trodAll_nil r2
 obtain ⟨rfl,rfl⟩:=trodVars_none hV
 obtain ⟨a,ha⟩:=hopen
 clear hA0 hval0
 refine ((contract a).2 W (allS W) args.toList (fun _ h=>h) ha).mono fun e W'=>?_
 rintro ⟨v,S',rfl,_,_,_,hv,bel⟩
 obtain rfl:v = .bool true:=(rdV_lit_inv hv).1
 exact ⟨_,rfl,_,_,_,[],_,[],hW',trodAll_mk1 (shut_bool Tryz.underlying4 _),hkeep W' bel,rfl,bel.frame _,fun h=>by cases h⟩
theorem named:Tryz.pinned.checked.prog.funcNamed Rows.conformNestedRow.func=some 11:=by kernel_rfl
theorem k1:Rows.conformNestedRow.wf (OpenSpec.ofChange Rows.conformNestedSpec)=true:=by kernel_rfl
theorem k2:laidOutB Tryz.pinned.checked.prog=true:=by kernel_rfl
theorem k3:mapsRowed Tryz.pinned.checked.prog=true:=by kernel_rfl
theorem k4:Tryz.f11.params.all ((Tryz.pinned.checked.prog).readableRec ·)=true:=by kernel_rfl
theorem k5:namedTie Tryz.pinned.checked.prog Rows.conformNestedRow.named Rows.conformNestedSpec.vars=true:=by kernel_rfl
theorem k6:(Rows.conformNestedRow.inPlace==(Tryz.pinned.checked.prog).inPlace 11)=true:=by kernel_rfl
theorem k7:(Rows.conformNestedRow.unfollowed==(Tryz.pinned.checked.prog).unfollowed 11)=true:=by kernel_rfl
theorem k8:(Rows.conformNestedRow.recurses==(Tryz.pinned.checked.prog).recurses 11)=true:=by kernel_rfl
theorem k9:(Rows.conformNestedRow.named==(Tryz.pinned.checked.prog).varsNamed 11)=true:=by kernel_rfl
theorem k10:(Rows.conformNestedRow.plainKeys==(Tryz.pinned.checked.prog).plainKeys)=true:=by kernel_rfl
theorem k11:(Tryz.pinned.checked.prog).stopsHeard=true:=by kernel_rfl
theorem k12:(Tryz.pinned.checked.prog).mayEnter=true:=by kernel_rfl
theorem k13:(Rows.conformNestedRow.lifted==(Tryz.pinned.checked.prog).liftsFinal)=true:=by kernel_rfl
theorem k14:((Tryz.pinned.checked.prog).make==some Rows.conformNestedRow.make)=true:=by kernel_rfl
theorem k15:(Rows.conformNestedRow.pinned==Rows.conformNestedRow.pinnedBy)=true:=by kernel_rfl
theorem joined:joinedFacts Tryz.pinned.checked.prog 11 Tryz.f11 Rows.conformNestedSpec Rows.conformNestedRow=true:=joined_mk k1 k2 k3 k4 k5 k6 k7 k8 k9 k10 k11 k12 k13 k14 k15 (by kernel_rfl) (by kernel_rfl) (by kernel_rfl) (by kernel_rfl) (by kernel_rfl) (by kernel_rfl) (by kernel_rfl) (by kernel_rfl) (by kernel_rfl) (by kernel_rfl) (by kernel_rfl) (by kernel_rfl) (by kernel_rfl) (by kernel_rfl)
theorem inst:Tryz.f11.isInstance Tryz.pinned.checked.prog Rows.conformNestedRow.origin Rows.conformNestedRow.targs:=of_decide_eq_true (by kernel_rfl)
theorem over:Rows.conformNestedRow.holds Tryz.pinned (OpenSpec.ofChange Rows.conformNestedSpec) :=
 OpenClaim.holds_of_wide 11 Tryz.f11 rfl rfl rfl rfl rfl rfl rfl ⟨rfl,rfl,rfl,rfl,rfl⟩ rfl rfl rfl rfl rfl named Tryz.func11 joined
  inst (by unfold Func.isWrapper;first | (rw [if_pos (by decide +kernel)];kernel_rfl) | (rw [if_neg (by decide +kernel)];exact ⟨rfl,rfl⟩))
  (fun os started H enc _=>lifted os started H enc)
theorem proved:Rows.ConformNestedSaid:=over
end Go.Proofs.YtjmoncjecpckhaaGreat.conformNested
