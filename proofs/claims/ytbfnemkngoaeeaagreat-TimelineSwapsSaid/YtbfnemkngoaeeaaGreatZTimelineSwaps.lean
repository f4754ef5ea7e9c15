/- Proved: 'TimelineSwaps' returns true for every input, and its arguments read as they did; no condition is laid on them. -/
import Derived.Test.YtbfnemkngoaeeaaGreatRows
import Derived.Test.YtbfnemkngoaeeaaGreatQ06
import Derived.Test.YtbfnemkngoaeeaaGreatQ12
import Derived.Test.YtbfnemkngoaeeaaGreatQ50
set_option linter.unusedSimpArgs false
set_option linter.unusedVariables false
set_option linter.unusedSectionVars false
set_option linter.unnecessarySimpa false
namespace Go.Proofs.YtbfnemkngoaeeaaGreat.timelineSwaps
open Go.ChangeShapes Go.WideShapes Go.ChangeAt Go.RowKit
theorem own:ownKnob Tryz.prog.godebug=none:=by kernel_rfl
theorem laidOut:laidOutB Tryz.prog=true:=by kernel_rfl
theorem opens:Gn Tryz.prog [38,22,22,9,9] fun a:aAf×List Int×List Int×ByteArray×ByteArray×Unit=>[eD a.1.1, .t (bN a.2.1), .t (bN a.2.2.1),bP a.2.2.2.1,bP a.2.2.2.2.1]:=jV aProj (jV aInts (jV aInts (jV aStr (jV aStr Xu))))
theorem aMd (a:aAf×List Int×List Int×ByteArray×ByteArray×Unit):aN Tryz.prog 7 [eD a.1.1, .t (bN a.2.1), .t (bN a.2.2.1),bP a.2.2.2.1,bP a.2.2.2.2.1] (aP true):=swaps36 _ _ _ _ _ a.1.2
set_option maxRecDepth 100000 in
theorem lifted (os:Os) (started:os.Started) (H:Type) (enc:TypeId×Value→H) :
  ReturnsInHanded {} Tryz.checked os 7 .any (Rows.timelineSwapsSpec.pre6 enc Tryz.prog Tryz.f7 Rows.timelineSwapsRow.domain false) (Rows.timelineSwapsSpec.post enc Tryz.prog Tryz.f7 false true false false):=by
 refine returnsInHanded_of_change (C:=Tryz.checked) own started (by kernel_rfl) Tryz.func7
  (ChangeSpec.witness6 (enc:=enc) (C:=Tryz.checked) false ⟨#[], #[.agg #[.slice none 0 0, .slice none 0 0], .slice none 0 0, .slice none 0 0, .string ⟨#[]⟩, .string ⟨#[]⟩],[]⟩ 8 (by kernel_rfl) (by kernel_rfl) (by kernel_rfl) (by kernel_rfl)) ?_
 intro W base args ds gs before hval0 hW hcnd _;have hval:∀ (j:Nat) t v,Tryz.f7.params[j]? = some t→args[j]? = some v→Value.okWide Tryz.prog W .any base t v:=hval0;have hW':=hW;obtain ⟨p,q,hA0,hV,rfl,hfz,hnd⟩:=hW;have hA:DataW.TrodAll enc Tryz.prog W 0 (fun _=>true) true Tryz.f7.params.toList args.toList ds p:=hA0;rw [Tryz.params7] at hA hval;have hopen:=opens enc W (fun _=>true) true _ ds p (fun j t v h1 h2=>hval j t v (by simpa using h1) (by simpa using h2)) hA;have hkeep:=fun W' (hb:Below W.heap.size W W')=>zX laidOut hb (of_decide_eq_true (by kernel_rfl)) hA
 obtain ⟨v0,vs0,d0,ds0,p0,q0,hargs0,rfl,rfl,h0,r0⟩:=trodAll_cons hA;obtain ⟨v1,vs1,d1,ds1,p1,q1,hargs1,rfl,rfl,h1,r1⟩:=trodAll_cons r0;obtain ⟨v2,vs2,d2,ds2,p2,q2,hargs2,rfl,rfl,h2,r2⟩:=trodAll_cons r1;obtain ⟨v3,vs3,d3,ds3,p3,q3,hargs3,rfl,rfl,h3,r3⟩:=trodAll_cons r2;obtain ⟨v4,vs4,d4,ds4,p4,q4,hargs4,rfl,rfl,h4,r4⟩:=trodAll_cons r3;obtain ⟨rfl,rfl,rfl⟩:=trodAll_nil r4;obtain ⟨rfl,rfl⟩:=trodVars_none hV;obtain ⟨a,ha⟩:=hopen;clear hA0 hval0;refine ((aMd a).2 W (Uy W) args.toList (fun _ h=>h) ha).mono fun e W'=>?_
 rintro ⟨v,S',rfl,_,_,_,hv,bel⟩;obtain rfl:v = .bool true:=(aG hv).1;exact ⟨_,rfl,_,_,_,[],_,[],hW',trodAll_mk1 (shut_bool Tryz.underlying4 _),hkeep W' bel,rfl,bel.frame _,fun h=>by cases h⟩
theorem named:Tryz.pinned.checked.prog.funcNamed Rows.timelineSwapsRow.func=some 7:=by kernel_rfl
theorem k1:Rows.timelineSwapsRow.wf (OpenSpec.ofChange Rows.timelineSwapsSpec)=true:=by kernel_rfl
theorem k2:laidOutB Tryz.pinned.checked.prog=true:=by kernel_rfl
theorem k3:mapsRowed Tryz.pinned.checked.prog=true:=by kernel_rfl
theorem k4:Tryz.f7.params.all ((Tryz.pinned.checked.prog).readableRec ·)=true:=by kernel_rfl
theorem k5:namedTie Tryz.pinned.checked.prog Rows.timelineSwapsRow.named Rows.timelineSwapsSpec.vars=true:=by kernel_rfl
theorem k6:(Rows.timelineSwapsRow.inPlace==(Tryz.pinned.checked.prog).inPlace 7)=true:=by kernel_rfl
theorem k7:(Rows.timelineSwapsRow.unfollowed==(Tryz.pinned.checked.prog).unfollowed 7)=true:=by kernel_rfl
theorem k8:(Rows.timelineSwapsRow.recurses==(Tryz.pinned.checked.prog).recurses 7)=true:=by kernel_rfl
theorem k9:(Rows.timelineSwapsRow.named==(Tryz.pinned.checked.prog).varsNamed 7)=true:=by kernel_rfl
theorem k10:(Rows.timelineSwapsRow.plainKeys==(Tryz.pinned.checked.prog).plainKeys)=true:=by kernel_rfl
theorem k11:(Tryz.pinned.checked.prog).stopsHeard=true:=by kernel_rfl
theorem k12:(Tryz.pinned.checked.prog).mayEnter=true:=by kernel_rfl
theorem k13:(Rows.timelineSwapsRow.lifted==(Tryz.pinned.checked.prog).liftsFinal)=true:=by kernel_rfl
theorem k14:((Tryz.pinned.checked.prog).make==some Rows.timelineSwapsRow.make)=true:=by kernel_rfl
theorem k15:(Rows.timelineSwapsRow.pinned==Rows.timelineSwapsRow.pinnedBy)=true:=by kernel_rfl
theorem joined:joinedFacts Tryz.pinned.checked.prog 7 Tryz.f7 Rows.timelineSwapsSpec Rows.timelineSwapsRow=true:=aGs k1 k2 k3 k4 k5 k6 k7 k8 k9 k10 k11 k12 k13 k14 k15 (by kernel_rfl) (by kernel_rfl) (by kernel_rfl) (by kernel_rfl) (by kernel_rfl) (by kernel_rfl) (by kernel_rfl) (by kernel_rfl) (by kernel_rfl) (by kernel_rfl) (by kernel_rfl) (by kernel_rfl) (by kernel_rfl) (by kernel_rfl)
theorem inst:Tryz.f7.isInstance Tryz.pinned.checked.prog Rows.timelineSwapsRow.origin Rows.timelineSwapsRow.targs:=of_decide_eq_true (by kernel_rfl)
theorem over:Rows.timelineSwapsRow.holds Tryz.pinned (OpenSpec.ofChange Rows.timelineSwapsSpec) :=
 OpenClaim.holds_of_wide 7 Tryz.f7 rfl rfl rfl rfl rfl rfl rfl ⟨rfl,rfl,rfl,rfl,rfl⟩ rfl rfl rfl rfl rfl named Tryz.func7 joined
  inst (by unfold Func.isWrapper;first | (rw [if_pos (by decide +kernel)];kernel_rfl) | (rw [if_neg (by decide +kernel)];exact ⟨rfl,rfl⟩))
  (fun os started H enc _=>lifted os started H enc)
theorem proved:Rows.TimelineSwapsSaid:=over
end Go.Proofs.YtbfnemkngoaeeaaGreat.timelineSwaps
