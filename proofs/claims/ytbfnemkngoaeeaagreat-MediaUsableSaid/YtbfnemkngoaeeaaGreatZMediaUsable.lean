/- Proved: 'MediaUsable' returns true for every input, and its arguments read as they did; no condition is laid on them. -/
import Derived.Test.YtbfnemkngoaeeaaGreatRows
import Derived.Test.YtbfnemkngoaeeaaGreatZG
import Derived.Test.YtbfnemkngoaeeaaGreatZP
import Derived.Test.YtbfnemkngoaeeaaGreatZMW6
set_option linter.unusedSimpArgs false
set_option linter.unusedVariables false
set_option linter.unusedSectionVars false
set_option linter.unnecessarySimpa false
namespace Go.Proofs.YtbfnemkngoaeeaaGreat.mediaUsable
open Go.ChangeShapes Go.WideShapes Go.ChangeAt Go.RowKit
theorem own:ownKnob Tryz.prog.godebug=none:=by kernel_rfl
theorem laidOut:laidOutB Tryz.prog=true:=by kernel_rfl
theorem opens:OpensVs Tryz.prog [22,22] fun a:List Int×List Int×Unit=>[.t (tints a.1), .t (tints a.2.1)]:=opensVs_cons aInts (opensVs_cons aInts opensVs_nil)
theorem contract (a:List Int×List Int×Unit):CPure Tryz.prog 5 [.t (tints a.1), .t (tints a.2.1)] (vbool true):=usable36 _ _
set_option maxRecDepth 100000 in
theorem lifted (os:Os) (started:os.Started) (H:Type) (enc:TypeId×Value→H) :
  ReturnsInHanded {} Tryz.checked os 5 .any (Rows.mediaUsableSpec.pre6 enc Tryz.prog Tryz.f5 Rows.mediaUsableRow.domain false) (Rows.mediaUsableSpec.post enc Tryz.prog Tryz.f5 false true false false):=by
 refine returnsInHanded_of_change (C:=Tryz.checked) own started (by kernel_rfl) Tryz.func5
  (ChangeSpec.witness6 (enc:=enc) (C:=Tryz.checked) false ⟨#[], #[.slice none 0 0, .slice none 0 0],[]⟩ 8 (by kernel_rfl) (by kernel_rfl) (by kernel_rfl) (by kernel_rfl)) ?_
 intro W base args ds gs before hval0 hW hcnd _
 have hval:∀ (j:Nat) t v,Tryz.f5.params[j]? = some t→args[j]? = some v→Value.okWide Tryz.prog W .any base t v:=hval0
 have hW':=hW
 obtain ⟨p,q,hA0,hV,rfl,hfz,hnd⟩:=hW
 have hA:DataW.TrodAll enc Tryz.prog W 0 (fun _=>true) true Tryz.f5.params.toList args.toList ds p:=hA0
 rw [Tryz.params5] at hA hval
 have hopen:=opens enc W (fun _=>true) true _ ds p (fun j t v h1 h2=>hval j t v (by simpa using h1) (by simpa using h2)) hA
 have hkeep:=fun W' (hb:Below W.heap.size W W')=>trodAll_keep laidOut hb (of_decide_eq_true (by kernel_rfl)) hA
 obtain ⟨v0,vs0,d0,ds0,p0,q0,hargs0,rfl,rfl,h0,r0⟩:=trodAll_cons hA
 obtain ⟨v1,vs1,d1,ds1,p1,q1,hargs1,rfl,rfl,h1,r1⟩:=trodAll_cons r0
 obtain ⟨rfl,rfl,rfl⟩:=trodAll_nil r1
 obtain ⟨rfl,rfl⟩:=trodVars_none hV
 obtain ⟨a,ha⟩:=hopen
 clear hA0 hval0
 refine ((contract a).2 W (allS W) args.toList (fun _ h=>h) ha).mono fun e W'=>?_
 rintro ⟨v,S',rfl,_,_,_,hv,bel⟩
 obtain rfl:v = .bool true:=(rdV_lit_inv hv).1
 exact ⟨_,rfl,_,_,_,[],_,[],hW',trodAll_mk1 (shut_bool Tryz.underlying4 _),hkeep W' bel,rfl,bel.frame _,fun h=>by cases h⟩
theorem named:Tryz.pinned.checked.prog.funcNamed Rows.mediaUsableRow.func=some 5:=by kernel_rfl
theorem k1:Rows.mediaUsableRow.wf (OpenSpec.ofChange Rows.mediaUsableSpec)=true:=by kernel_rfl
theorem k2:laidOutB Tryz.pinned.checked.prog=true:=by kernel_rfl
theorem k3:mapsRowed Tryz.pinned.checked.prog=true:=by kernel_rfl
theorem k4:Tryz.f5.params.all ((Tryz.pinned.checked.prog).readableRec ·)=true:=by kernel_rfl
theorem k5:namedTie Tryz.pinned.checked.prog Rows.mediaUsableRow.named Rows.mediaUsableSpec.vars=true:=by kernel_rfl
theorem k6:(Rows.mediaUsableRow.inPlace==(Tryz.pinned.checked.prog).inPlace 5)=true:=by kernel_rfl
theorem k7:(Rows.mediaUsableRow.unfollowed==(Tryz.pinned.checked.prog).unfollowed 5)=true:=by kernel_rfl
theorem k8:(Rows.mediaUsableRow.recurses==(Tryz.pinned.checked.prog).recurses 5)=true:=by kernel_rfl
theorem k9:(Rows.mediaUsableRow.named==(Tryz.pinned.checked.prog).varsNamed 5)=true:=by kernel_rfl
theorem k10:(Rows.mediaUsableRow.plainKeys==(Tryz.pinned.checked.prog).plainKeys)=true:=by kernel_rfl
theorem k11:(Tryz.pinned.checked.prog).stopsHeard=true:=by kernel_rfl
theorem k12:(Tryz.pinned.checked.prog).mayEnter=true:=by kernel_rfl
theorem k13:(Rows.mediaUsableRow.lifted==(Tryz.pinned.checked.prog).liftsFinal)=true:=by kernel_rfl
theorem k14:((Tryz.pinned.checked.prog).make==some Rows.mediaUsableRow.make)=true:=by kernel_rfl
theorem k15:(Rows.mediaUsableRow.pinned==Rows.mediaUsableRow.pinnedBy)=true:=by kernel_rfl
theorem joined:joinedFacts Tryz.pinned.checked.prog 5 Tryz.f5 Rows.mediaUsableSpec Rows.mediaUsableRow=true:=joined_mk k1 k2 k3 k4 k5 k6 k7 k8 k9 k10 k11 k12 k13 k14 k15 (by kernel_rfl) (by kernel_rfl) (by kernel_rfl) (by kernel_rfl) (by kernel_rfl) (by kernel_rfl) (by kernel_rfl) (by kernel_rfl) (by kernel_rfl) (by kernel_rfl) (by kernel_rfl) (by kernel_rfl) (by kernel_rfl) (by kernel_rfl)
theorem inst:Tryz.f5.isInstance Tryz.pinned.checked.prog Rows.mediaUsableRow.origin Rows.mediaUsableRow.targs:=of_decide_eq_true (by kernel_rfl)
theorem over:Rows.mediaUsableRow.holds Tryz.pinned (OpenSpec.ofChange Rows.mediaUsableSpec) :=
 OpenClaim.holds_of_wide 5 Tryz.f5 rfl rfl rfl rfl rfl rfl rfl ⟨rfl,rfl,rfl,rfl,rfl⟩ rfl rfl rfl rfl rfl named Tryz.func5 joined
  inst (by unfold Func.isWrapper;first | (rw [if_pos (by decide +kernel)];kernel_rfl) | (rw [if_neg (by decide +kernel)];exact ⟨rfl,rfl⟩))
  (fun os started H enc _=>lifted os started H enc)
theorem proved:Rows.MediaUsableSaid:=over
end Go.Proofs.YtbfnemkngoaeeaaGreat.mediaUsable
