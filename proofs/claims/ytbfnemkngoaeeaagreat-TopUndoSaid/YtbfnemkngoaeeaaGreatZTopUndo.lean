/- Proved: 'TopUndo' returns true for every input, and its arguments read as they did; no condition is laid on them. -/
import Derived.Test.YtbfnemkngoaeeaaGreatRows
import Derived.Test.YtbfnemkngoaeeaaGreatQ11
set_option linter.unusedSimpArgs false
set_option linter.unusedVariables false
set_option linter.unnecessarySimpa false
namespace Go.Proofs.YtbfnemkngoaeeaaGreat.topUndo
open Go.ChangeShapes Go.WideShapes Go.ChangeAt Go.RowKit
theorem own:ownKnob Tryz.prog.godebug=none:=by kernel_rfl
theorem laidOut:laidOutB Tryz.prog=true:=by kernel_rfl
theorem opens:Lg Tryz.prog [22,22] fun a:List Int×List Int×Unit=>[.t (bS a.1), .t (bS a.2.1)]:=Dw aInts (Dw aInts aC4)
theorem aS7 (a:List Int×List Int×Unit):aK Tryz.prog 3 [.t (bS a.1), .t (bS a.2.1)] (aX true):=aKj _ _
set_option maxRecDepth 100000 in
theorem lifted (os:Os) (started:os.Started) (H:Type) (enc:TypeId×Value→H) :
  ReturnsInHanded {} Tryz.checked os 3 .any (Rows.topUndoSpec.pre6 enc Tryz.prog Tryz.f3 Rows.topUndoRow.domain false) (Rows.topUndoSpec.post enc Tryz.prog Tryz.f3 false true false false):=by
 refine returnsInHanded_of_change (C:=Tryz.checked) own started (by kernel_rfl) Tryz.func3
  (ChangeSpec.witness6 (enc:=enc) (C:=Tryz.checked) false ⟨#[], #[.slice none 0 0, .slice none 0 0],[]⟩ 8 (by kernel_rfl) (by kernel_rfl) (by kernel_rfl) (by kernel_rfl)) ?_
 intro W base args ds gs before hval0 hW hcnd _;have hval:∀ (j:Nat) t v,Tryz.f3.params[j]? = some t→args[j]? = some v→Value.okWide Tryz.prog W .any base t v:=hval0;have hW':=hW;obtain ⟨p,q,hA0,hV,rfl,hfz,hnd⟩:=hW;have hA:DataW.TrodAll enc Tryz.prog W 0 (fun _=>true) true Tryz.f3.params.toList args.toList ds p:=hA0;rw [Tryz.params3] at hA hval;have hopen:=opens enc W (fun _=>true) true _ ds p (fun j t v h1 h2=>hval j t v (by simpa using h1) (by simpa using h2)) hA;have hkeep:=fun W' (hb:Below W.heap.size W W')=>Dc laidOut hb (of_decide_eq_true (by kernel_rfl)) hA
 obtain ⟨v0,vs0,d0,ds0,p0,q0,hargs0,rfl,rfl,h0,r0⟩:=trodAll_cons hA;obtain ⟨v1,vs1,d1,ds1,p1,q1,hargs1,rfl,rfl,h1,r1⟩:=trodAll_cons r0;obtain ⟨rfl,rfl,rfl⟩:=trodAll_nil r1;obtain ⟨rfl,rfl⟩:=trodVars_none hV;obtain ⟨a,ha⟩:=hopen;clear hA0 hval0;refine ((aS7 a).2 W (aGf W) args.toList (fun _ h=>h) ha).mono fun e W'=>?_
 rintro ⟨v,S',rfl,_,_,_,hv,bel⟩;obtain rfl:v = .bool true:=(aF hv).1;exact ⟨_,rfl,_,_,_,[],_,[],hW',trodAll_mk1 (shut_bool Tryz.underlying4 _),hkeep W' bel,rfl,bel.frame _,fun h=>by cases h⟩
theorem named:Tryz.pinned.checked.prog.funcNamed Rows.topUndoRow.func=some 3:=by kernel_rfl
theorem k1:Rows.topUndoRow.wf (OpenSpec.ofChange Rows.topUndoSpec)=true:=by kernel_rfl
theorem k2:laidOutB Tryz.pinned.checked.prog=true:=by kernel_rfl
theorem k3:mapsRowed Tryz.pinned.checked.prog=true:=by kernel_rfl
theorem k4:Tryz.f3.params.all ((Tryz.pinned.checked.prog).readableRec ·)=true:=by kernel_rfl
theorem k5:namedTie Tryz.pinned.checked.prog Rows.topUndoRow.named Rows.topUndoSpec.vars=true:=by kernel_rfl
theorem k6:(Rows.topUndoRow.inPlace==(Tryz.pinned.checked.prog).inPlace 3)=true:=by kernel_rfl
theorem k7:(Rows.topUndoRow.unfollowed==(Tryz.pinned.checked.prog).unfollowed 3)=true:=by kernel_rfl
theorem k8:(Rows.topUndoRow.recurses==(Tryz.pinned.checked.prog).recurses 3)=true:=by kernel_rfl
theorem k9:(Rows.topUndoRow.named==(Tryz.pinned.checked.prog).varsNamed 3)=true:=by kernel_rfl
theorem k10:(Rows.topUndoRow.plainKeys==(Tryz.pinned.checked.prog).plainKeys)=true:=by kernel_rfl
theorem k11:(Tryz.pinned.checked.prog).stopsHeard=true:=by kernel_rfl
theorem k12:(Tryz.pinned.checked.prog).mayEnter=true:=by kernel_rfl
theorem k13:(Rows.topUndoRow.lifted==(Tryz.pinned.checked.prog).liftsFinal)=true:=by kernel_rfl
theorem k14:((Tryz.pinned.checked.prog).make==some Rows.topUndoRow.make)=true:=by kernel_rfl
theorem k15:(Rows.topUndoRow.pinned==Rows.topUndoRow.pinnedBy)=true:=by kernel_rfl
theorem joined:joinedFacts Tryz.pinned.checked.prog 3 Tryz.f3 Rows.topUndoSpec Rows.topUndoRow=true:=aLv k1 k2 k3 k4 k5 k6 k7 k8 k9 k10 k11 k12 k13 k14 k15 (by kernel_rfl) (by kernel_rfl) (by kernel_rfl) (by kernel_rfl) (by kernel_rfl) (by kernel_rfl) (by kernel_rfl) (by kernel_rfl) (by kernel_rfl) (by kernel_rfl) (by kernel_rfl) (by kernel_rfl) (by kernel_rfl) (by kernel_rfl)
theorem inst:Tryz.f3.isInstance Tryz.pinned.checked.prog Rows.topUndoRow.origin Rows.topUndoRow.targs:=of_decide_eq_true (by kernel_rfl)
theorem over:Rows.topUndoRow.holds Tryz.pinned (OpenSpec.ofChange Rows.topUndoSpec) :=
 OpenClaim.holds_of_wide 3 Tryz.f3 rfl rfl rfl rfl rfl rfl rfl ⟨rfl,rfl,rfl,rfl,rfl⟩ rfl rfl rfl rfl rfl named Tryz.func3 joined
  inst (by unfold Func.isWrapper;first | (rw [if_pos (by decide +kernel)];kernel_rfl) | (rw [if_neg (by decide +kernel)];exact ⟨rfl,rfl⟩))
  (fun os started H enc _=>lifted os started H enc)
theorem proved:Rows.TopUndoSaid:=over
end Go.Proofs.YtbfnemkngoaeeaaGreat.topUndo
