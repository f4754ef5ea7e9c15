/- Proved: 'MediaShows' returns true for every input, and its arguments read as they did; no condition is laid on them. -/
import Derived.Test.YtbfnemkngoaeeaaGreatRows
import Derived.Test.YtbfnemkngoaeeaaGreatQ06
import Derived.Test.YtbfnemkngoaeeaaGreatQ09
import Derived.Test.YtbfnemkngoaeeaaGreatQ53
set_option linter.unusedSimpArgs false
set_option linter.unusedVariables false
set_option linter.unusedSectionVars false
set_option linter.unnecessarySimpa false
namespace Go.Proofs.YtbfnemkngoaeeaaGreat.mediaShows
open Go.ChangeShapes Go.WideShapes Go.ChangeAt Go.RowKit
theorem own:ownKnob Tryz.prog.godebug=none:=by kernel_rfl
theorem laidOut:laidOutB Tryz.prog=true:=by kernel_rfl
theorem opens:Ns Tryz.prog [22,22,5] fun a:List Int×List Int×aRr .u8×Unit=>[.t (bY a.1), .t (bY a.2.1), .t (.lit (.int .u8 a.2.2.1.1))]:=xC aInts (xC aInts (xC aU8 aEp))
theorem aVw (a:List Int×List Int×aRr .u8×Unit):aM Tryz.prog 9 [.t (bY a.1), .t (bY a.2.1), .t (.lit (.int .u8 a.2.2.1.1))] (aS true):=shows36 _ _ _ (u8_b a.2.2.1)
set_option maxRecDepth 100000 in
theorem lifted (os:Os) (started:os.Started) (H:Type) (enc:TypeId×Value→H) :
  ReturnsInHanded {} Tryz.checked os 9 .any (Rows.mediaShowsSpec.pre6 enc Tryz.prog Tryz.f9 Rows.mediaShowsRow.domain false) (Rows.mediaShowsSpec.post enc Tryz.prog Tryz.f9 false true false false):=by
 refine returnsInHanded_of_change (C:=Tryz.checked) own started (by kernel_rfl) Tryz.func9
  (ChangeSpec.witness6 (enc:=enc) (C:=Tryz.checked) false ⟨#[], #[.slice none 0 0, .slice none 0 0, .int .u8 0],[]⟩ 8 (by kernel_rfl) (by kernel_rfl) (by kernel_rfl) (by kernel_rfl)) ?_
 intro W base args ds gs before hval0 hW hcnd _;have hval:∀ (j:Nat) t v,Tryz.f9.params[j]? = some t→args[j]? = some v→Value.okWide Tryz.prog W .any base t v:=hval0;have hW':=hW;obtain ⟨p,q,hA0,hV,rfl,hfz,hnd⟩:=hW;have hA:DataW.TrodAll enc Tryz.prog W 0 (fun _=>true) true Tryz.f9.params.toList args.toList ds p:=hA0;rw [Tryz.params9] at hA hval;have hopen:=opens enc W (fun _=>true) true _ ds p (fun j t v h1 h2=>hval j t v (by simpa using h1) (by simpa using h2)) hA;have hkeep:=fun W' (hb:Below W.heap.size W W')=>Fd laidOut hb (of_decide_eq_true (by kernel_rfl)) hA
 obtain ⟨v0,vs0,d0,ds0,p0,q0,hargs0,rfl,rfl,h0,r0⟩:=trodAll_cons hA;obtain ⟨v1,vs1,d1,ds1,p1,q1,hargs1,rfl,rfl,h1,r1⟩:=trodAll_cons r0;obtain ⟨v2,vs2,d2,ds2,p2,q2,hargs2,rfl,rfl,h2,r2⟩:=trodAll_cons r1;obtain ⟨rfl,rfl,rfl⟩:=trodAll_nil r2;obtain ⟨rfl,rfl⟩:=trodVars_none hV;obtain ⟨a,ha⟩:=hopen;clear hA0 hval0;refine ((aVw a).2 W (aC8 W) args.toList (fun _ h=>h) ha).mono fun e W'=>?_
 rintro ⟨v,S',rfl,_,_,_,hv,bel⟩;obtain rfl:v = .bool true:=(aG hv).1;exact ⟨_,rfl,_,_,_,[],_,[],hW',trodAll_mk1 (shut_bool Tryz.underlying4 _),hkeep W' bel,rfl,bel.frame _,fun h=>by cases h⟩
theorem named:Tryz.pinned.checked.prog.funcNamed Rows.mediaShowsRow.func=some 9:=by kernel_rfl
theorem k1:Rows.mediaShowsRow.wf (OpenSpec.ofChange Rows.mediaShowsSpec)=true:=by kernel_rfl
theorem k2:laidOutB Tryz.pinned.checked.prog=true:=by kernel_rfl
theorem k3:mapsRowed Tryz.pinned.checked.prog=true:=by kernel_rfl
theorem k4:Tryz.f9.params.all ((Tryz.pinned.checked.prog).readableRec ·)=true:=by kernel_rfl
theorem k5:namedTie Tryz.pinned.checked.prog Rows.mediaShowsRow.named Rows.mediaShowsSpec.vars=true:=by kernel_rfl
theorem k6:(Rows.mediaShowsRow.inPlace==(Tryz.pinned.checked.prog).inPlace 9)=true:=by kernel_rfl
theorem k7:(Rows.mediaShowsRow.unfollowed==(Tryz.pinned.checked.prog).unfollowed 9)=true:=by kernel_rfl
theorem k8:(Rows.mediaShowsRow.recurses==(Tryz.pinned.checked.prog).recurses 9)=true:=by kernel_rfl
theorem k9:(Rows.mediaShowsRow.named==(Tryz.pinned.checked.prog).varsNamed 9)=true:=by kernel_rfl
theorem k10:(Rows.mediaShowsRow.plainKeys==(Tryz.pinned.checked.prog).plainKeys)=true:=by kernel_rfl
theorem k11:(Tryz.pinned.checked.prog).stopsHeard=true:=by kernel_rfl
theorem k12:(Tryz.pinned.checked.prog).mayEnter=true:=by kernel_rfl
theorem k13:(Rows.mediaShowsRow.lifted==(Tryz.pinned.checked.prog).liftsFinal)=true:=by kernel_rfl
theorem k14:((Tryz.pinned.checked.prog).make==some Rows.mediaShowsRow.make)=true:=by kernel_rfl
theorem k15:(Rows.mediaShowsRow.pinned==Rows.mediaShowsRow.pinnedBy)=true:=by kernel_rfl
theorem joined:joinedFacts Tryz.pinned.checked.prog 9 Tryz.f9 Rows.mediaShowsSpec Rows.mediaShowsRow=true:=aQt k1 k2 k3 k4 k5 k6 k7 k8 k9 k10 k11 k12 k13 k14 k15 (by kernel_rfl) (by kernel_rfl) (by kernel_rfl) (by kernel_rfl) (by kernel_rfl) (by kernel_rfl) (by kernel_rfl) (by kernel_rfl) (by kernel_rfl) (by kernel_rfl) (by kernel_rfl) (by kernel_rfl) (by kernel_rfl) (by kernel_rfl)
theorem inst:Tryz.f9.isInstance Tryz.pinned.checked.prog Rows.mediaShowsRow.origin Rows.mediaShowsRow.targs:=of_decide_eq_true (by kernel_rfl)
theorem over:Rows.mediaShowsRow.holds Tryz.pinned (OpenSpec.ofChange Rows.mediaShowsSpec) :=
 OpenClaim.holds_of_wide 9 Tryz.f9 rfl rfl rfl rfl rfl rfl rfl ⟨rfl,rfl,rfl,rfl,rfl⟩ rfl rfl rfl rfl rfl named Tryz.func9 joined
  inst (by unfold Func.isWrapper;first | (rw [if_pos (by decide +kernel)];kernel_rfl) | (rw [if_neg (by decide +kernel)];exact ⟨rfl,rfl⟩))
  (fun os started H enc _=>lifted os started H enc)
theorem proved:Rows.MediaShowsSaid:=over
end Go.Proofs.YtbfnemkngoaeeaaGreat.mediaShows
