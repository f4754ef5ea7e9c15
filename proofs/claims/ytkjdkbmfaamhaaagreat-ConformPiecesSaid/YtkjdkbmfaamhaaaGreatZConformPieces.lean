/- Proved: 'ConformPieces' returns true for every input, and its arguments read as they did; no condition is laid on them. -/
import Derived.Test.YtkjdkbmfaamhaaaGreatRows
import Derived.Test.YtkjdkbmfaamhaaaGreatZG
import Derived.Test.YtkjdkbmfaamhaaaGreatYB
import Derived.Test.YtkjdkbmfaamhaaaGreatVV
set_option linter.unusedSimpArgs false
set_option linter.unusedVariables false
set_option linter.unusedSectionVars false
set_option linter.unnecessarySimpa false
namespace Go.Proofs.YtkjdkbmfaamhaaaGreat.conformPieces
open Go.ChangeShapes Go.WideShapes Go.ChangeAt Go.RowKit
theorem own:ownKnob Tryz.prog.godebug=none:=by kernel_rfl
theorem laidOut:laidOutB Tryz.prog=true:=by kernel_rfl
theorem opens:OpensVs Tryz.prog [22,47,5,5] fun a:List Int×IntK .u16×IntK .u8×IntK .u8×Unit=>[.t (tints a.1), .t (.lit (.int .u16 a.2.1.1)), .t (.lit (.int .u8 a.2.2.1.1)), .t (.lit (.int .u8 a.2.2.2.1.1))]:=opensVs_cons aInts (opensVs_cons aU16 (opensVs_cons aU8 (opensVs_cons aU8 opensVs_nil)))
theorem contract (a:List Int×IntK .u16×IntK .u8×IntK .u8×Unit):CPure Tryz.prog 5 [.t (tints a.1), .t (.lit (.int .u16 a.2.1.1)), .t (.lit (.int .u8 a.2.2.1.1)), .t (.lit (.int .u8 a.2.2.2.1.1))] (vbool true):=pieces5 _ _ _ _ (u16_b a.2.1) (u8_b a.2.2.1) (u8_b a.2.2.2.1)
set_option maxRecDepth 100000 in
theorem lifted (os:Os) (started:os.Started) (H:Type) (enc:TypeId×Value→H) :
  ReturnsInHanded {} Tryz.checked os 5 .any (Rows.conformPiecesSpec.pre6 enc Tryz.prog Tryz.f5 Rows.conformPiecesRow.domain false) (Rows.conformPiecesSpec.post enc Tryz.prog Tryz.f5 false true false false):=by
 refine returnsInHanded_of_change (C:=Tryz.checked) own started (by kernel_rfl) Tryz.func5
  (ChangeSpec.witness6 (enc:=enc) (C:=Tryz.checked) false ⟨#[], #[.slice none 0 0, .int .u16 0, .int .u8 0, .int .u8 0],[]⟩ 8 (by kernel_rfl) (by kernel_rfl) (by kernel_rfl) (by kernel_rfl)) ?_
 intro W base args ds gs before hval0 hW hcnd _
 have hval:∀ (j:Nat) t v,Tryz.f5.params[j]? = some t→args[j]? = some v→Value.okWide Tryz.prog W .any base t v:=hval0
 have hW':=hW
 obtain ⟨p,q,hA0,hV,rfl,hfz,hnd⟩:=hW
 have hA:DataW.TrodAll enc Tryz.prog W 0 (fun _=>true) true Tryz.f5.params.toList args.toList ds p:=hA0
 rw [Tryz.params5] at hA hval
 have hopen:=opens enc W (fun _=>true) true _ ds p (fun j t v h1 h2=>hval j t v (by simpa using h1) (by simpa using h2)) hA
 have hkeep:=fun W' (hb:Below W.heap.size W W')=>trodAll_keep laidOut hb (of_decide_eq_true (by kernel_rfl)) hA
 obtain ⟨v0,vs0,d0,ds0,p0,q0,hargs0,rfl,rfl,h0,r0⟩:=trodAll_cons hA
 obtain ⟨v1,vs1,d1,ds1,p1,q1,hargs1,rfl,rfl,h1,r1⟩:=trodAll_cons r0
 obtain ⟨v2,vs2,d2,ds2,p2,q2,hargs2,rfl,rfl,h2,r2⟩:=trodAll_cons r1
 obtain ⟨v3,vs3,d3,ds3,p3,q3,hargs3,rfl,rfl,h3,r3⟩:=trodAll_cons r2
 obtain ⟨rfl,rfl,rfl⟩:=trodAll_nil r3
 obtain ⟨rfl,rfl⟩:=trodVars_none hV
 obtain ⟨a,ha⟩:=hopen
 clear hA0 hval0
 refine ((contract a).2 W (allS W) args.toList (fun _ h=>h) ha).mono fun e W'=>?_
 rintro ⟨v,S',rfl,_,_,_,hv,bel⟩
 obtain rfl:v = .bool true:=(rdV_lit_inv hv).1
 exact ⟨_,rfl,_,_,_,[],_,[],hW',trodAll_mk1 (shut_bool Tryz.underlying4 _),hkeep W' bel,rfl,bel.frame _,fun h=>by cases h⟩
theorem named:Tryz.pinned.checked.prog.funcNamed Rows.conformPiecesRow.func=some 5:=by kernel_rfl
theorem k1:Rows.conformPiecesRow.wf (OpenSpec.ofChange Rows.conformPiecesSpec)=true:=by kernel_rfl
theorem k2:laidOutB Tryz.pinned.checked.prog=true:=by kernel_rfl
theorem k3:mapsRowed Tryz.pinned.checked.prog=true:=by kernel_rfl
theorem k4:Tryz.f5.params.all ((Tryz.pinned.checked.prog).readableRec ·)=true:=by kernel_rfl
theorem k5:namedTie Tryz.pinned.checked.prog Rows.conformPiecesRow.named Rows.conformPiecesSpec.vars=true:=by kernel_rfl
theorem k6:(Rows.conformPiecesRow.inPlace==(Tryz.pinned.checked.prog).inPlace 5)=true:=by kernel_rfl
theorem k7:(Rows.conformPiecesRow.unfollowed==(Tryz.pinned.checked.prog).unfollowed 5)=true:=by kernel_rfl
theorem k8:(Rows.conformPiecesRow.recurses==(Tryz.pinned.checked.prog).recurses 5)=true:=by kernel_rfl
theorem k9:(Rows.conformPiecesRow.named==(Tryz.pinned.checked.prog).varsNamed 5)=true:=by kernel_rfl
theorem k10:(Rows.conformPiecesRow.plainKeys==(Tryz.pinned.checked.prog).plainKeys)=true:=by kernel_rfl
theorem k11:(Tryz.pinned.checked.prog).stopsHeard=true:=by kernel_rfl
theorem k12:(Tryz.pinned.checked.prog).mayEnter=true:=by kernel_rfl
theorem k13:(Rows.conformPiecesRow.lifted==(Tryz.pinned.checked.prog).liftsFinal)=true:=by kernel_rfl
theorem k14:((Tryz.pinned.checked.prog).make==some Rows.conformPiecesRow.make)=true:=by kernel_rfl
theorem k15:(Rows.conformPiecesRow.pinned==Rows.conformPiecesRow.pinnedBy)=true:=by kernel_rfl
theorem joined:joinedFacts Tryz.pinned.checked.prog 5 Tryz.f5 Rows.conformPiecesSpec Rows.conformPiecesRow=true:=joined_mk k1 k2 k3 k4 k5 k6 k7 k8 k9 k10 k11 k12 k13 k14 k15 (by kernel_rfl) (by kernel_rfl) (by kernel_rfl) (by kernel_rfl) (by kernel_rfl) (by kernel_rfl) (by kernel_rfl) (by kernel_rfl) (by kernel_rfl) (by kernel_rfl) (by kernel_rfl) (by kernel_rfl) (by kernel_rfl) (by kernel_rfl)
theorem inst:Tryz.f5.isInstance Tryz.pinned.checked.prog Rows.conformPiecesRow.origin Rows.conformPiecesRow.targs:=of_decide_eq_true (by kernel_rfl)
theorem over:Rows.conformPiecesRow.holds Tryz.pinned (OpenSpec.ofChange Rows.conformPiecesSpec) :=
 OpenClaim.holds_of_wide 5 Tryz.f5 rfl rfl rfl rfl rfl rfl rfl ⟨rfl,rfl,rfl,rfl,rfl⟩ rfl rfl rfl rfl rfl named Tryz.func5 joined
  inst (by unfold Func.isWrapper;first | (rw [if_pos (by decide +kernel)];kernel_rfl) | (rw [if_neg (by decide +kernel)];exact ⟨rfl,rfl⟩))
  (fun os started H enc _=>lifted os started H enc)
theorem proved:Rows.ConformPiecesSaid:=over
end Go.Proofs.YtkjdkbmfaamhaaaGreat.conformPieces
