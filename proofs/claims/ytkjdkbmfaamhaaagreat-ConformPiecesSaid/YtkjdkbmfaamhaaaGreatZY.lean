/- Proved here: slices.Grow of a nil slice, for use in the proofs of the given statements; conditions stand in each theorem. -/
import Derived.Test.YtkjdkbmfaamhaaaGreatZG
import Derived.Test.YtkjdkbmfaamhaaaGreatZH
import Derived.WalkKit
import Derived.Lib.Walk
import Derived.Lib.SliceRun
import Derived.Lib.AppendZeros
import Derived.Shelf.RegionOpenPlain
set_option linter.unusedSimpArgs false
set_option linter.unusedVariables false
set_option linter.unusedSectionVars false
set_option linter.unnecessarySimpa false
namespace Go.Proofs.YtkjdkbmfaamhaaaGreat
open Go.RowKit
set_option maxRecDepth 4000
open Go.Lib
theorem info_track:(Tryz.prog.info? 68).map (fun i=>(i.zero,i.size,i.bytes))=some (some (.slice none 0 0),1,24):=by kernel_rfl
set_option maxHeartbeats 2000000 in
theorem run_growTr (n:Nat) (h0 : 0<n) (hn:n≤1000000) (w:World):Calls Tryz.prog 144 #[.slice none 0 0, .int .i64 n] w fun e w' =>
  e = .returned (.slice (some ⟨w.heap.size,0,none⟩) 0 (grownCap w n 0 68))∧w'=w.drew.alloc (.cells (Builtin.zeroCells #[.slice none 0 0] n++Builtin.zeroCells #[.slice none 0 0] (grownCap w n 0 68 - n)) 68):=by
 obtain ⟨i0,hi,hz0,hz1,hz2⟩:=info_parts info_track
 have h1 : ¬ ((n:Int)<0):=by omega
 have h2:Go.RowKit.wrap64 ((0:Int) - 0)=0:=by unfold Go.RowKit.wrap64;omega
 have h3:Go.RowKit.wrap64 ((n:Int) - 0)=(n:Int):=by unfold Go.RowKit.wrap64;omega
 have h4:(n:Int) > 0:=by omega
 have hrz:∀ ty,(Builtin.append_ #[59,3] ty #[.slice none 0 0, .int .i64 n]).run Tryz.prog w = .ok (.slice (some ⟨w.heap.size,0,none⟩) n (grownCap w n 0 68)) (w.drew.alloc (.cells (Builtin.zeroCells #[.slice none 0 0] n++Builtin.zeroCells #[.slice none 0 0] (grownCap w n 0 68 - n)) 68)):=fun ty =>
  run_append_nil_zeros w _ _ ty _ i0 _ .i64 .i64 Tryz.underlying59 Tryz.underlying3 hi hz0 n h0 (by omega) (by omega) (by rw [hz2];omega)
 have hGn:n≤grownCap w n 0 68:=grownCap_ge w _ _ _
 obtain ⟨G,hG⟩:∃ G,G=grownCap w n 0 68:=⟨_,rfl⟩
 rw [← hG] at hrz hGn ⊢
 go_enter Tryz.func144,Tryz.ntmps144
 go_wp2_with (at_builtin;refine Lib.wpList_append_run _ rfl _ _ _ _ rfl _ _ rfl rfl _ _ (hrz _) ?_)
 all_goals (go_ret;exact ⟨rfl,rfl⟩)
set_option maxHeartbeats 2000000 in
theorem run_growTr0 (w:World):Calls Tryz.prog 144 #[.slice none 0 0, .int .i64 0] w fun e w'=>e = .returned (.slice none 0 0)∧w'=w:=by
 have h2:Go.RowKit.wrap64 ((0:Int) - 0)=0:=by unfold Go.RowKit.wrap64;omega
 go_enter Tryz.func144,Tryz.ntmps144
 go_wp2
 all_goals (go_ret;exact ⟨rfl,rfl⟩)
theorem icall_grow {P : Program} {σ : St} {d : Option Tmp} {f : FuncId} {n e k : Nat} {dd : List T} {K : St → Prop} (he : P.enters f = true) (hrun : ∀ w : World, Calls P f #[.slice none 0 0, .int .i64 n] w fun en w' => (n = 0 ∧ en = .returned (.slice none 0 0) ∧ w' = w) ∨
      ∃ cap cells, en = .returned (.slice (some ⟨w.heap.size, 0, none⟩) 0 cap) ∧ w' = w.drew.alloc (.cells cells e) ∧ cells.size = cap * k ∧ cap ≤ maxLen)
    (hK : K ((σ.add (.row e k dd [])).put d (.own σ.nx))) : ICall P σ d f [.t (.lit (.slice none 0 0)), vint n] K := by
  refine icall_intro he fun E w vs hr hbd hvs => ?_
  obtain ⟨v1, v2, hv, h1, h2⟩ := two_list (vs := vs.toArray) (by simpa using hvs)
  rw [hv, (rdV_lit_inv h1).1, (rdV_lit_inv h2).1]
  have hrF : RelF E { σ with fr := [], df := roDf E } { tmps := #[], defers := [] } w := ⟨hr, hbd, by show RdVs w E [] []; simp only [RdVs], roDf_ok⟩
  refine (hrun w).mono ?_
  rintro en w' (⟨rfl, rfl, rfl⟩ | ⟨cap, cells, rfl, rfl, hsz, hcap⟩)
  · obtain ⟨k1, k2, k3⟩ := hrF.add (hv := .slice none 0 0) (blk := .row e k dd []) (S' := E.S) (Below.refl _ _) (fun _ h => h) (fun _ h => .inl h) hr.slt (fun _ => ⟨[], World.ownsRow_nil _ 0 e k, by simp only [List.flatten_nil, RdVs], by simp, rfl⟩) (fun b hb => by cases hb) rfl rfl
    exact ⟨_, _, _, _, _, rfl, k1.rel, k1.bound, k2, k3, hK⟩
  · have hb : Below w.heap.size w (w.drew.alloc (.cells cells e)) := (Below.refl _ _).drew.alloc (Nat.le_refl _) _
    have hnew : (w.drew.alloc (.cells cells e)).heap[w.heap.size]? = some (.cells cells e (0, 0)) := World.alloc_heap_new w.drew _
    obtain ⟨k1, k2, k3⟩ := hrF.add (hv := .slice (some ⟨w.heap.size, 0, none⟩) 0 cap) (blk := .row e k dd []) (S' := E.S) hb (fun _ h => h) (fun _ h => .inl h) (fun b hb' => Nat.lt_of_lt_of_le (hr.slt b hb') hb.size)
      (fun _ => ⟨[], ⟨by simp, .inr ⟨w.heap.size, cap, cells, rfl, Nat.zero_le _, hnew, Nat.zero_le _, hcap, hsz, by simp⟩⟩, by simp only [List.flatten_nil, RdVs], by simp, rfl⟩)
      (fun b hb' => by injection hb' with hb'; subst hb'; exact ⟨Nat.le_refl _, (Array.getElem?_eq_some_iff.1 hnew).1, fun hs => absurd (hr.slt _ hs) (by simp)⟩) rfl rfl
    exact ⟨_, _, _, _, _, rfl, k1.rel, k1.bound, k2, k3, hK⟩
theorem size_zeros (z:Array Value) (n:Nat):(Builtin.zeroCells z n).size=n*z.size:=by unfold Builtin.zeroCells;simp
theorem igrowTr {σ : St} {d:Option Tmp} {n:Nat} {K:St→Prop} (hn:n≤1000000) (dd:List T) (hK:K ((σ.add (.row 68 1 dd [])).put d (.own σ.nx))):ICall Tryz.prog σ d 144 [.t (.lit (.slice none 0 0)),vint n] K:=by
 refine icall_grow Tryz.xen144 (fun w=>?_) hK
 rcases Nat.eq_zero_or_pos n with rfl | h0
 ·exact (run_growTr0 w).mono fun e w' h => .inl ⟨rfl,h⟩
 ·refine (run_growTr n h0 hn w).mono ?_
  rintro e w' ⟨rfl,rfl⟩
  have h1:=grownCap_ge w n 0 68
  refine .inr ⟨_,_,rfl,rfl,?_,grownCap_le_maxLen w n 0 _ (by unfold maxLen;omega)⟩
  simp only [Array.size_append,size_zeros]
  simp
  omega
end Go.Proofs.YtkjdkbmfaamhaaaGreat
