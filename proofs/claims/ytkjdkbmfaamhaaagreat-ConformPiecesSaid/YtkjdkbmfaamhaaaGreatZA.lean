/- Proved here: Reading of slices as lists, kept over later worlds, and regions that draw their order, for use in the proofs of the given statements; conditions stand in each theorem. -/
import Derived.WalkKit
import Derived.WalkSpells
import Derived.WalkLawsBesides
import Derived.Deep.QuietTactic
import Derived.BigQuiet
import Derived.Lib.Hide
import Derived.Deep.RegionWith
import Derived.Deep.RegionLaw
import Derived.Deep.CutRange
import Derived.Maps.AppendAt
import Derived.Deep.AppendLies
import Derived.Lib.SliceRun
import Derived.Deep.RegionHeld3
import Derived.StillTail
set_option linter.unusedSimpArgs false
set_option linter.unusedVariables false
set_option linter.unusedSectionVars false
set_option linter.unnecessarySimpa false
namespace Go.Proofs.YtkjdkbmfaamhaaaGreat
open Go.RowKit
def Sl {α : Type} (f : α → List Value) (k:Nat) (w:World) (A:Option Addr) (xs:List α):Prop :=
 ∀ i x,xs[i]? = some x → ∃ b off,A=some ⟨b,off,none⟩ ∧ ∀ j v,(f x)[j]? = some v→w.cell? ⟨b,off+i*k+j,none⟩=some v
theorem cell_lt {w:World} {a:Addr} {v:Value} (h:w.cell? a=some v):a.block<w.heap.size:=World.block_lt_of_cell? _ _ h
theorem Sl.later {α : Type} {f : α → List Value} {k:Nat} {w w':World} {A:Option Addr} {xs:List α} (h:Sl f k w A xs) (hb:Below w.heap.size w w'):Sl f k w' A xs:=by
 intro i x hx
 obtain ⟨b,off,rfl,hc⟩:=h i x hx
 exact ⟨b,off,rfl,fun j v hj=>(hb.cell (cell_lt (hc j v hj))).trans (hc j v hj)⟩
theorem later_alloc (w:World) (o:Obj):Below w.heap.size w (w.alloc o):=(Below.refl _ _).alloc (Nat.le_refl _) o
theorem Sl.alloc {α : Type} {f : α → List Value} {k:Nat} {w:World} {A:Option Addr} {xs:List α} (h:Sl f k w A xs) (o:Obj):Sl f k (w.alloc o) A xs :=
 h.later (later_alloc w o)
def idxFrom {α : Type} (p : α → Bool):List α → Nat→Int
 | [],_ => -1
 | x::r,k=>if p x then (k:Int) else idxFrom p r (k+1)
def idx {α : Type} (p : α → Bool) (l:List α):Int:=idxFrom p l 0
structure Later (w:World) where
 w':World
 h:Below w.heap.size w w'
instance laterInh (w:World):Inhabited (Later w):=⟨⟨w,Below.refl _ _⟩⟩
def Later.of {w w':World} (h:Below w.heap.size w w'):Later w:=⟨w',h⟩
open Go.RowKit
def Sl1 {α : Type} (f : α → Value) (w:World) (A:Option Addr) (xs:List α):Prop :=
 ∀ i x,xs[i]? = some x → ∃ b off,A=some ⟨b,off,none⟩∧w.cell? ⟨b,off+i,none⟩=some (f x)
theorem Sl1.later {α : Type} {f : α → Value} {w w':World} {A:Option Addr} {xs:List α} (h:Sl1 f w A xs) (hb:Below w.heap.size w w'):Sl1 f w' A xs:=by
 intro i x hx
 obtain ⟨b,off,rfl,hc⟩:=h i x hx
 exact ⟨b,off,rfl,(hb.cell (cell_lt hc)).trans hc⟩
theorem Sl1.alloc {α : Type} {f : α → Value} {w:World} {A:Option Addr} {xs:List α} (h:Sl1 f w A xs) (o:Obj):Sl1 f (w.alloc o) A xs :=
 h.later (later_alloc w o)
theorem Sl1.nil {α : Type} (f : α → Value) (w:World) (A:Option Addr):Sl1 f w A []:=fun i x h=>by simp at h
theorem Sl.nil {α : Type} (f : α → List Value) (k:Nat) (w:World) (A:Option Addr):Sl f k w A []:=fun i x h=>by simp at h
open Go.RowKit
section
variable {α : Type} {f : α → List Value} {k:Nat}
theorem own_form {w:World} {base e n:Nat} {v:Value} {xs:List Value} (h:w.ownsRow base e k v n xs):∃ A c,v = .slice A n c∧n≤maxLen:=by
 rcases h.2 with ⟨h1,h2⟩ | ⟨g,cap,cur,hv,_,hg,h3,h4,_⟩
 ·exact ⟨none,0,by rw [h1,h2],by rw [h2];exact Nat.zero_le _⟩
 ·exact ⟨_,_,hv,by omega⟩
end
theorem own_later {w w':World} {base e k n:Nat} {v:Value} {xs:List Value} (h:w.ownsRow base e k v n xs) (hb:Below w.heap.size w w'):w'.ownsRow base e k v n xs :=
 h.kept (row:=none) ⟨hb.os,hb.tape,hb.output,hb.size,fun i hi _=>hb.block i hi⟩ (by cases h2:v.ownBlock<;>simp)
open Go.RowKit
section
variable {P:Program} {ops:Array Oper} {Q:Exit→Act→World→Prop} {md:Region.Mode} {fin:Nat→Bool}
def Cl (b w:World):Prop:=Below b.heap.size b w
theorem Cl.refl (b:World):Cl b b:=Below.refl _ _
theorem Cl.trans {a b c:World} (h:Cl a b) (k:Cl b c):Cl a c:=Below.trans h (Below.mono k h.size)
def YieldsS (P:Program) (ops:Array Oper) (b:World) (o:Oper) (v:Value) (a:Act):Prop :=
 (Region.wanted o (yielded ops a.tmps)=true ∧ ∀ w,Cl b w→((execOp a.eval o).run P w = .ok (.value v) w∨((execOp a.eval o).run P w = .ok .skip w∧v=undef))) ∨
 (Region.wanted o (yielded ops a.tmps)=false∧v=undef)
theorem YieldsS.later {b b':World} {o:Oper} {v:Value} {a:Act} (h:YieldsS P ops b o v a) (hb:Cl b b'):YieldsS P ops b' o v a:=by
 rcases h with ⟨h1,h2⟩ | h
 ·exact .inl ⟨h1,fun w hw=>h2 w (hb.trans hw)⟩
 ·exact .inr h
theorem YieldsS.of_same {b:World} {o:Oper} {v:Value} {a a':Act} (hy:YieldsS P ops b o v a) (he:execOp a'.eval o=execOp a.eval o)
  (hw:Region.wanted o (yielded ops a'.tmps)=Region.wanted o (yielded ops a.tmps)):YieldsS P ops b o v a':=by
 unfold YieldsS at *
 rw [he,hw]
 exact hy
def wpAnyT (P:Program) (md:Region.Mode) (ops:Array Oper) (Q:Exit→Act→World→Prop) (fin:Nat→Bool):Nat→Array Bool→Act→World→Prop
 | 0,listed,a,w=>Region.ready md ops listed = []∧Q .normal a w
 | f+1,listed,a,w=>(Region.ready md ops listed = []→Q .normal a w) ∧
  ∀ i∈Region.ready md ops listed,
   (∃ o v,ops[i]? = some o∧YieldsS P ops w o v a∧wpAnyT P md ops Q fin f (listed.setIfInBounds i true) (a.put o.dst v) w) ∨
   (fin i=false∧wpOp P ops Q i (fun a' w'=>Cl w w'∧wpAnyT P md ops Q fin f (listed.setIfInBounds i true) a' w') a w) ∨
   (fin i=true∧wpOp P ops Q i (fun a' w'=>wpAnyT P md ops Q fin f (listed.setIfInBounds i true) a' w') a w)
def mustB (md:Region.Mode) (ops:Array Oper):Nat→Nat→Nat→Bool
 | 0,_,_=>false
 | d+1,j,i=>match ops[j]? with
  | some oj=>oj.after.any fun e=>Region.binds md e&&(e.on==i||mustB md ops d e.on i)
  | none=>false
theorem mustB_listed {i:Nat} {listed:Array Bool} (inv:HeadInv md ops ops.size listed):∀ (d j:Nat),mustB md ops d j i=true →
  (∀ oj,ops[j]? = some oj → ∀ e∈oj.after,Region.binds md e=true→listed.getD e.on false=true)→listed.getD i false=true
 | 0,_,h,_=>by simp [mustB] at h
 | d+1,j,h,hj=>by
  unfold mustB at h
  cases ho:ops[j]? with
  | none=>simp [ho] at h
  | some oj =>
   rw [ho] at h
   obtain ⟨e,he,hb⟩:=Array.any_eq_true'.1 h
   simp only [Bool.and_eq_true,Bool.or_eq_true,beq_iff_eq] at hb
   have hl:=hj oj ho e he hb.1
   rcases hb.2 with h1 | h1
   ·rw [← h1];exact hl
   ·exact mustB_listed inv d e.on h1 (fun ok hk e' he' hb'=>inv.closed e.on ok hk hl e' he' hb')
def noWorld:Op→Bool
 | .move _ | .assign _=>true
 | _=>false
theorem YieldsS.any {b b':World} {o:Oper} {v:Value} {a:Act} (hn:noWorld o.op=true) (h:YieldsS P ops b o v a):YieldsS P ops b' o v a:=by
 rcases h with ⟨h1,h2⟩ | h
 ·refine .inl ⟨h1,fun w hw=>?_⟩
  have h3:=h2 b (Cl.refl b)
  cases hop:o.op with
  | move x=>simp only [execOp,hop,Sem.run_pure] at h3 ⊢; simpa using h3
  | assign x=>simp only [execOp,hop,Sem.run_pure] at h3 ⊢; simpa using h3
  | _=>rw [hop] at hn;simp [noWorld] at hn
 ·exact .inr h
theorem YieldsS.put {b:World} {oi oj:Oper} {v:Value} (hap:oi.apart ops oj=true) (hsi:∀ cs b,oi.op ≠ .select cs b) {a:Act} (hy:YieldsS P ops b oi v a) (u:Value) :
  YieldsS P ops b oi v (a.put oj.dst u) :=
 hy.of_same (execOp_put oi hsi a oj.dst u (Oper.apart_spec hap).2.2) (wanted_put oi a oj.dst u (Oper.apart_spec hap).2.2)
def noCall:Op→Bool
 | .call { callee := .builtin .len, .. }=>true
 | .call { callee := .builtin .cap, .. }=>true
 | .call _ | .go _ | .defer _ | .send .. | .recv .. | .select .. => false
 | _=>true
def NoEnter (s:Sem Next):Prop := ∀ (P:Program) (w w':World) (f:FuncId) (args:Array Value),s.run P w ≠ .ok (.enter f args) w'
def pickQ:List Oper→List Bool→List Oper
 | o::l,true::m=>o::pickQ l m
 | _::l,false::m=>pickQ l m
 | _,_=>[]
def lexQ (md:Region.Mode) (ops:Array Oper) (fins:List Nat):List Bool→Nat→Array Bool→Bool
 | [],_,_=>true
 | true::m,k,listed=>(Region.ready md ops listed).contains k&&Region.free md ops listed k&&((fins.all fun j=>mustB md ops 16 j k)||((ops[k]?).map (noWorld ·.op)).getD false)&&((ops[k]?).map (noCall ·.op)).getD false &&
   lexQ md ops fins m (k+1) (listed.setIfInBounds k true)
 | false::m,k,listed=>lexQ md ops fins m (k+1) listed
def listedQ:List Bool→Nat→Array Bool→Array Bool
 | [],_,listed=>listed
 | true::m,k,listed=>listedQ m (k+1) (listed.setIfInBounds k true)
 | false::m,k,listed=>listedQ m (k+1) listed
def countQ:List Bool→Nat
 | []=>0
 | true::m=>countQ m+1
 | false::m=>countQ m
theorem headInv_start:HeadInv md ops ops.size (Array.replicate ops.size false):=by
 refine ⟨by simp,fun j oj hj hl e he hb=>?_,fun t h1 h2=>by omega⟩
 exfalso
 rcases Nat.lt_or_ge j ops.size with h | h
 ·simp [h] at hl
 ·simp [h] at hl
def TailKeep (P:Program) (md:Region.Mode) (ops:Array Oper) (Q:Exit→Act→World→Prop) (fin:Nat→Bool) (f:Nat) (listed:Array Bool) (i:Nat) (a:Act) (w:World):Prop :=
 ∃ o,ops[i]? = some o∧o.guard=none ∧ ∀ K:Act→World→Prop,(∀ a' w',Below w.heap.size w w'→wpAnyT P md ops Q fin f (listed.setIfInBounds i true) a' w'→K a' w')→o.wp P a w K Q
end
end Go.Proofs.YtkjdkbmfaamhaaaGreat
