/- Proved here: Sources, clips, tracks and expressions as plain data, and how they lie in cells, for use in the proofs of the given statements; conditions stand in each theorem. -/
import Derived.Test.YtkppmlignfhdeaaGreatZG
import Derived.Test.YtkppmlignfhdeaaGreatZC
import Derived.Test.YtkppmlignfhdeaaGreatProg
set_option linter.unusedSimpArgs false
set_option linter.unusedVariables false
set_option linter.unusedSectionVars false
set_option linter.unusedSimpArgs false
set_option linter.unusedVariables false
set_option linter.unnecessarySimpa false
namespace Go.Proofs.YtkppmlignfhdeaaGreat
open Go.RowKit
set_option maxRecDepth 4000
abbrev ti (n : Int) : T := .lit (.int .i64 n)
abbrev tu (n : Int) : T := .lit (.int .u64 n)
abbrev tstr (s : ByteArray) : T := .lit (.string s)
abbrev tbl (b : Bool) : T := .lit (.bool b)
abbrev vu64 (n : Int) : V := .t (.lit (.int .u64 n))
def intC (n : Int) : List T := [ti n]
def strC (s : ByteArray) : List T := [tstr s]
@[go_sem] abbrev tints (l : List Int) : T := .list 1 (intC 0) (l.map intC)
@[go_sem] abbrev tstrs (l : List ByteArray) : T := .list 1 (strC ⟨#[]⟩) (l.map strC)
@[go_sem] theorem intC_t (n : Int) : (intC n).map V.t = [vint n] := rfl
@[go_sem] theorem strC_t (n : ByteArray) : (strC n).map V.t = [vstr n] := rfl
@[go_sem] theorem intC_l (n : Int) : (intC n).length = 1 := rfl
@[go_sem] theorem strC_l (n : ByteArray) : (strC n).length = 1 := rfl
structure RatR where
  num : Int
  den : Int
  deriving Inhabited
structure SourceR where
  kind : Int
  name : ByteArray
  pos : RatR
  speed : RatR
  smooth : Bool
  deriving Inhabited
structure ClipR where
  len : Int
  kind : Int
  a : SourceR
  b : SourceR
  off : Int
  total : Int
  param : Int
  text : ByteArray
  gain : Int
  chan : List Int
  deriving Inhabited
def RatR.c (r : RatR) : List T := [ti r.num, ti r.den]
def SourceR.c (s : SourceR) : List T := [ti s.kind, tstr s.name, ti s.pos.num, ti s.pos.den, ti s.speed.num, ti s.speed.den, tbl s.smooth]
def ClipR.c (c : ClipR) : List T := [ti c.len, ti c.kind, ti c.a.kind, tstr c.a.name, ti c.a.pos.num, ti c.a.pos.den, ti c.a.speed.num, ti c.a.speed.den, tbl c.a.smooth,
  ti c.b.kind, tstr c.b.name, ti c.b.pos.num, ti c.b.pos.den, ti c.b.speed.num, ti c.b.speed.den, tbl c.b.smooth, ti c.off, ti c.total, ti c.param, tstr c.text, ti c.gain, tints c.chan]
abbrev vrat (r : RatR) : V := .agg [vint r.num, vint r.den]
abbrev vsource (s : SourceR) : V := .agg [vint s.kind, vstr s.name, vint s.pos.num, vint s.pos.den, vint s.speed.num, vint s.speed.den, vbool s.smooth]
abbrev vclip (c : ClipR) : V := .agg [vint c.len, vint c.kind, vint c.a.kind, vstr c.a.name, vint c.a.pos.num, vint c.a.pos.den, vint c.a.speed.num, vint c.a.speed.den, vbool c.a.smooth,
  vint c.b.kind, vstr c.b.name, vint c.b.pos.num, vint c.b.pos.den, vint c.b.speed.num, vint c.b.speed.den, vbool c.b.smooth, vint c.off, vint c.total, vint c.param, vstr c.text, vint c.gain, .t (tints c.chan)]
@[go_sem] theorem RatR.ct (r : RatR) : (RatR.c r).map V.t = [vint r.num, vint r.den] := rfl
@[go_sem] theorem SourceR.ct (s : SourceR) : (SourceR.c s).map V.t = [vint s.kind, vstr s.name, vint s.pos.num, vint s.pos.den, vint s.speed.num, vint s.speed.den, vbool s.smooth] := rfl
@[go_sem] theorem ClipR.ct (c : ClipR) : (ClipR.c c).map V.t = [vint c.len, vint c.kind, vint c.a.kind, vstr c.a.name, vint c.a.pos.num, vint c.a.pos.den, vint c.a.speed.num, vint c.a.speed.den, vbool c.a.smooth,
  vint c.b.kind, vstr c.b.name, vint c.b.pos.num, vint c.b.pos.den, vint c.b.speed.num, vint c.b.speed.den, vbool c.b.smooth, vint c.off, vint c.total, vint c.param, vstr c.text, vint c.gain, .t (tints c.chan)] := rfl
@[go_sem] theorem RatR.cl (r : RatR) : (RatR.c r).length = 2 := rfl
@[go_sem] theorem SourceR.cl (r : SourceR) : (SourceR.c r).length = 7 := rfl
@[go_sem] theorem ClipR.cl (r : ClipR) : (ClipR.c r).length = 22 := rfl
@[go_sem] abbrev tclips (l : List ClipR) : T := .list 22 (ClipR.c default) (l.map ClipR.c)
theorem getD_of_lt {α : Type} [Inhabited α] {xs : List α} {k : Nat} (h : k < xs.length) : xs.getD k default = xs[k] := by simp [List.getD_eq_getElem?_getD, h]

/-- a branch, by another name of its condition -/
theorem brW {B b : Bool} {A C : Prop} (h : B = b) (k : (b = true → A) ∧ (b = false → C)) : (B = true → A) ∧ (B = false → C) := by rw [h]; exact k

theorem nt {b : Bool} (h : (!b) = true) : b = false := by cases b <;> simp_all
theorem nf {b : Bool} (h : (!b) = false) : b = true := by cases b <;> simp_all
@[go_sem] theorem bne_f {b : Bool} : (b != false) = b := by cases b <;> rfl
@[go_sem] theorem bne_t {b : Bool} : (b != true) = !b := by cases b <;> rfl
/-! 64 bits -/
def I64 (n : Int) : Prop := -9223372036854775808 ≤ n ∧ n ≤ 9223372036854775807
theorem wrap64 {x : Int} (h1 : -9223372036854775808 ≤ x) (h2 : x ≤ 9223372036854775807) : IntKind.i64.wrap x = x := by
  have e1 : (2 : Int) ^ IntKind.i64.bits = 18446744073709551616 := by decide
  have e2 : (2 : Int) ^ (IntKind.i64.bits - 1) = 9223372036854775808 := by decide
  unfold IntKind.wrap
  simp only [IntKind.signed, e1, e2, Bool.true_and, decide_eq_true_eq]
  split <;> omega
theorem wrapN {n : Nat} (h : n ≤ 9223372036854775807) : IntKind.i64.wrap (n : Int) = n := wrap64 (by omega) (by omega)
theorem wrap1 {k : Nat} (h : k < 9223372036854775807) : IntKind.i64.wrap ((k : Int) + 1) = (k : Int) + 1 := wrap64 (by omega) (by omega)
theorem wrapU64 {x : Int} (h1 : 0 ≤ x) (h2 : x ≤ 18446744073709551615) : IntKind.u64.wrap x = x := by
  have e1 : (2 : Int) ^ IntKind.u64.bits = 18446744073709551616 := by decide
  unfold IntKind.wrap
  simp only [IntKind.signed, e1, Bool.false_and, Bool.false_eq_true, if_false]
  omega
theorem wrapU64_neg {x : Int} (h1 : -18446744073709551616 ≤ x) (h2 : x < 0) : IntKind.u64.wrap x = x + 18446744073709551616 := by
  have e1 : (2 : Int) ^ IntKind.u64.bits = 18446744073709551616 := by decide
  unfold IntKind.wrap
  simp only [IntKind.signed, e1, Bool.false_and, Bool.false_eq_true, if_false]
  omega
structure RatR.fit (r : RatR) : Prop where
  num : I64 r.num
  den : I64 r.den
structure SourceR.fit (s : SourceR) : Prop where
  kind : I64 s.kind
  pos : s.pos.fit
  speed : s.speed.fit
structure ClipR.fit (c : ClipR) : Prop where
  len : I64 c.len
  kind : I64 c.kind
  a : c.a.fit
  b : c.b.fit
  off : I64 c.off
  total : I64 c.total
  param : I64 c.param
  gain : I64 c.gain

/-! names and lines -/
def nmI (n : Int) : Bool := (decide (97 ≤ n) && decide (n ≤ 122)) || (decide (48 ≤ n) && decide (n ≤ 57)) || n == 45 || n == 95 || n == 46
def lnI (n : Int) : Bool := decide (32 ≤ n) && decide (n ≤ 126)
def bytesAll (p : Int → Bool) (s : ByteArray) : Bool := s.data.toList.all fun c => p c.toNat
def byteAt (s : ByteArray) (k : Nat) : Int := (s.data.toList.getD k 0).toNat
theorem bytes_len (s : ByteArray) : s.data.toList.length = s.size := Array.length_toList
theorem bytes_hit {p : Int → Bool} {s : ByteArray} {k : Nat} (h : k < s.size) (hp : p (byteAt s k) = false) : bytesAll p s = false := by
  have hl : k < s.data.toList.length := by rw [bytes_len]; exact h
  unfold byteAt at hp
  rw [List.getD_eq_getElem?_getD, List.getElem?_eq_getElem hl] at hp
  unfold bytesAll
  rw [Bool.eq_false_iff, ne_eq, List.all_eq_true]
  intro h'
  have := h' _ (List.getElem_mem hl)
  simp only [Option.getD_some] at hp
  rw [hp] at this; cases this
theorem bytes_done {p : Int → Bool} {s : ByteArray} (h : ∀ k, k < s.size → p (byteAt s k) = true) : bytesAll p s = true := by
  unfold bytesAll
  rw [List.all_eq_true]
  intro c hc
  obtain ⟨k, hk, rfl⟩ := List.mem_iff_getElem.1 hc
  have := h k (by rw [← bytes_len]; exact hk)
  unfold byteAt at this
  rw [List.getD_eq_getElem?_getD, List.getElem?_eq_getElem hk] at this
  exact this
def vName (s : ByteArray) : Bool := decide (1 ≤ s.size) && decide (s.size ≤ 32) && bytesAll nmI s
def vLine (s : ByteArray) : Bool := decide (1 ≤ s.size) && decide (s.size ≤ 64) && bytesAll lnI s
end Go.Proofs.YtkppmlignfhdeaaGreat
/- Proved here: The layout of the types of the program, for use in the proofs of the given statements; conditions stand in each theorem. -/
set_option linter.unusedSimpArgs false
namespace Go.Proofs.YtkppmlignfhdeaaGreat
open Go.RowKit
@[go_sem] theorem Tryz.xsz0 : Tryz.prog.szT 0 = some 1 := by kernel_rfl
@[go_sem] theorem Tryz.xag0 : Tryz.prog.aggT 0 = some false := by kernel_rfl
@[go_sem] theorem Tryz.xel0 : Tryz.prog.elemT 0 = none := by kernel_rfl
@[go_sem] theorem Tryz.xby0 : Tryz.prog.bytesT 0 = some 0 := by kernel_rfl
@[go_sem] theorem Tryz.xsz1 : Tryz.prog.szT 1 = some 1 := by kernel_rfl
@[go_sem] theorem Tryz.xag1 : Tryz.prog.aggT 1 = some false := by kernel_rfl
@[go_sem] theorem Tryz.xel1 : Tryz.prog.elemT 1 = none := by kernel_rfl
@[go_sem] theorem Tryz.xby1 : Tryz.prog.bytesT 1 = some 8 := by kernel_rfl
@[go_sem] theorem Tryz.xze1 : Tryz.prog.zeroT 1 = some [Value.nilFunc] := by kernel_rfl
@[go_sem] theorem Tryz.xzk1 : zeroOk [Value.nilFunc] = true := by kernel_rfl
@[go_sem] theorem Tryz.xsz2 : Tryz.prog.szT 2 = some 1 := by kernel_rfl
@[go_sem] theorem Tryz.xag2 : Tryz.prog.aggT 2 = some false := by kernel_rfl
@[go_sem] theorem Tryz.xel2 : Tryz.prog.elemT 2 = none := by kernel_rfl
@[go_sem] theorem Tryz.xby2 : Tryz.prog.bytesT 2 = some 8 := by kernel_rfl
@[go_sem] theorem Tryz.xze2 : Tryz.prog.zeroT 2 = some [Value.int IntKind.i64 0] := by kernel_rfl
@[go_sem] theorem Tryz.xzk2 : zeroOk [Value.int IntKind.i64 0] = true := by kernel_rfl
@[go_sem] theorem Tryz.xsz3 : Tryz.prog.szT 3 = some 1 := by kernel_rfl
@[go_sem] theorem Tryz.xag3 : Tryz.prog.aggT 3 = some false := by kernel_rfl
@[go_sem] theorem Tryz.xel3 : Tryz.prog.elemT 3 = none := by kernel_rfl
@[go_sem] theorem Tryz.xby3 : Tryz.prog.bytesT 3 = some 8 := by kernel_rfl
@[go_sem] theorem Tryz.xze3 : Tryz.prog.zeroT 3 = some [Value.int IntKind.i64 0] := by kernel_rfl
@[go_sem] theorem Tryz.xsz4 : Tryz.prog.szT 4 = some 1 := by kernel_rfl
@[go_sem] theorem Tryz.xag4 : Tryz.prog.aggT 4 = some false := by kernel_rfl
@[go_sem] theorem Tryz.xel4 : Tryz.prog.elemT 4 = none := by kernel_rfl
@[go_sem] theorem Tryz.xby4 : Tryz.prog.bytesT 4 = some 1 := by kernel_rfl
@[go_sem] theorem Tryz.xze4 : Tryz.prog.zeroT 4 = some [Value.bool false] := by kernel_rfl
@[go_sem] theorem Tryz.xzk4 : zeroOk [Value.bool false] = true := by kernel_rfl
@[go_sem] theorem Tryz.xsz5 : Tryz.prog.szT 5 = some 1 := by kernel_rfl
@[go_sem] theorem Tryz.xag5 : Tryz.prog.aggT 5 = some false := by kernel_rfl
@[go_sem] theorem Tryz.xel5 : Tryz.prog.elemT 5 = none := by kernel_rfl
@[go_sem] theorem Tryz.xby5 : Tryz.prog.bytesT 5 = some 1 := by kernel_rfl
@[go_sem] theorem Tryz.xze5 : Tryz.prog.zeroT 5 = some [Value.int IntKind.u8 0] := by kernel_rfl
@[go_sem] theorem Tryz.xzk5 : zeroOk [Value.int IntKind.u8 0] = true := by kernel_rfl
@[go_sem] theorem Tryz.xsz6 : Tryz.prog.szT 6 = some 1 := by kernel_rfl
@[go_sem] theorem Tryz.xag6 : Tryz.prog.aggT 6 = some false := by kernel_rfl
@[go_sem] theorem Tryz.xel6 : Tryz.prog.elemT 6 = none := by kernel_rfl
@[go_sem] theorem Tryz.xby6 : Tryz.prog.bytesT 6 = some 1 := by kernel_rfl
@[go_sem] theorem Tryz.xze6 : Tryz.prog.zeroT 6 = some [Value.int IntKind.u8 0] := by kernel_rfl
@[go_sem] theorem Tryz.xsz7 : Tryz.prog.szT 7 = some 4 := by kernel_rfl
@[go_sem] theorem Tryz.xag7 : Tryz.prog.aggT 7 = some true := by kernel_rfl
@[go_sem] theorem Tryz.xel7 : Tryz.prog.elemT 7 = none := by kernel_rfl
@[go_sem] theorem Tryz.xby7 : Tryz.prog.bytesT 7 = some 24 := by kernel_rfl
@[go_sem] theorem Tryz.xpl7 : Tryz.prog.plT 7 = some [(0, 1), (1, 1), (2, 1), (3, 1)] := by kernel_rfl
@[go_sem] theorem Tryz.xze7 : Tryz.prog.zeroT 7 = some [Value.int IntKind.i64 0, Value.int IntKind.i64 0, Value.bool false, Value.int IntKind.u8 0] := by kernel_rfl
@[go_sem] theorem Tryz.xzk7 : zeroOk [Value.int IntKind.i64 0, Value.int IntKind.i64 0, Value.bool false, Value.int IntKind.u8 0] = true := by kernel_rfl
@[go_sem] theorem Tryz.xfl7_0 : Tryz.prog.fldT 7 0 = some (0, 2) := by kernel_rfl
@[go_sem] theorem Tryz.xfl7_1 : Tryz.prog.fldT 7 1 = some (1, 3) := by kernel_rfl
@[go_sem] theorem Tryz.xfl7_2 : Tryz.prog.fldT 7 2 = some (2, 4) := by kernel_rfl
@[go_sem] theorem Tryz.xfl7_3 : Tryz.prog.fldT 7 3 = some (3, 6) := by kernel_rfl
@[go_sem] theorem Tryz.xsz8 : Tryz.prog.szT 8 = some 4 := by kernel_rfl
@[go_sem] theorem Tryz.xag8 : Tryz.prog.aggT 8 = some true := by kernel_rfl
@[go_sem] theorem Tryz.xel8 : Tryz.prog.elemT 8 = none := by kernel_rfl
@[go_sem] theorem Tryz.xby8 : Tryz.prog.bytesT 8 = some 24 := by kernel_rfl
@[go_sem] theorem Tryz.xpl8 : Tryz.prog.plT 8 = some [(0, 1), (1, 1), (2, 1), (3, 1)] := by kernel_rfl
@[go_sem] theorem Tryz.xze8 : Tryz.prog.zeroT 8 = some [Value.int IntKind.i64 0, Value.int IntKind.i64 0, Value.bool false, Value.int IntKind.u8 0] := by kernel_rfl
@[go_sem] theorem Tryz.xfl8_0 : Tryz.prog.fldT 8 0 = some (0, 2) := by kernel_rfl
@[go_sem] theorem Tryz.xfl8_1 : Tryz.prog.fldT 8 1 = some (1, 3) := by kernel_rfl
@[go_sem] theorem Tryz.xfl8_2 : Tryz.prog.fldT 8 2 = some (2, 4) := by kernel_rfl
@[go_sem] theorem Tryz.xfl8_3 : Tryz.prog.fldT 8 3 = some (3, 6) := by kernel_rfl
@[go_sem] theorem Tryz.xsz9 : Tryz.prog.szT 9 = some 1 := by kernel_rfl
@[go_sem] theorem Tryz.xag9 : Tryz.prog.aggT 9 = some false := by kernel_rfl
@[go_sem] theorem Tryz.xel9 : Tryz.prog.elemT 9 = none := by kernel_rfl
@[go_sem] theorem Tryz.xby9 : Tryz.prog.bytesT 9 = some 16 := by kernel_rfl
@[go_sem] theorem Tryz.xze9 : Tryz.prog.zeroT 9 = some [Value.string ⟨#[]⟩] := by kernel_rfl
@[go_sem] theorem Tryz.xzk9 : zeroOk [Value.string ⟨#[]⟩] = true := by kernel_rfl
@[go_sem] theorem Tryz.xsz10 : Tryz.prog.szT 10 = some 1 := by kernel_rfl
@[go_sem] theorem Tryz.xag10 : Tryz.prog.aggT 10 = some false := by kernel_rfl
@[go_sem] theorem Tryz.xel10 : Tryz.prog.elemT 10 = none := by kernel_rfl
@[go_sem] theorem Tryz.xby10 : Tryz.prog.bytesT 10 = some 16 := by kernel_rfl
@[go_sem] theorem Tryz.xze10 : Tryz.prog.zeroT 10 = some [Value.string ⟨#[]⟩] := by kernel_rfl
@[go_sem] theorem Tryz.xsz11 : Tryz.prog.szT 11 = some 1 := by kernel_rfl
@[go_sem] theorem Tryz.xag11 : Tryz.prog.aggT 11 = some false := by kernel_rfl
@[go_sem] theorem Tryz.xel11 : Tryz.prog.elemT 11 = none := by kernel_rfl
@[go_sem] theorem Tryz.xby11 : Tryz.prog.bytesT 11 = some 16 := by kernel_rfl
@[go_sem] theorem Tryz.xze11 : Tryz.prog.zeroT 11 = some [Value.string ⟨#[]⟩] := by kernel_rfl
@[go_sem] theorem Tryz.xsz12 : Tryz.prog.szT 12 = some 1 := by kernel_rfl
@[go_sem] theorem Tryz.xag12 : Tryz.prog.aggT 12 = some false := by kernel_rfl
@[go_sem] theorem Tryz.xel12 : Tryz.prog.elemT 12 = none := by kernel_rfl
@[go_sem] theorem Tryz.xby12 : Tryz.prog.bytesT 12 = some 8 := by kernel_rfl
@[go_sem] theorem Tryz.xze12 : Tryz.prog.zeroT 12 = some [Value.int IntKind.u64 0] := by kernel_rfl
@[go_sem] theorem Tryz.xzk12 : zeroOk [Value.int IntKind.u64 0] = true := by kernel_rfl
@[go_sem] theorem Tryz.xsz13 : Tryz.prog.szT 13 = some 2 := by kernel_rfl
@[go_sem] theorem Tryz.xag13 : Tryz.prog.aggT 13 = some true := by kernel_rfl
@[go_sem] theorem Tryz.xel13 : Tryz.prog.elemT 13 = none := by kernel_rfl
@[go_sem] theorem Tryz.xby13 : Tryz.prog.bytesT 13 = some 24 := by kernel_rfl
@[go_sem] theorem Tryz.xpl13 : Tryz.prog.plT 13 = some [(0, 1), (1, 1)] := by kernel_rfl
@[go_sem] theorem Tryz.xze13 : Tryz.prog.zeroT 13 = some [Value.string ⟨#[]⟩, Value.int IntKind.u64 0] := by kernel_rfl
@[go_sem] theorem Tryz.xzk13 : zeroOk [Value.string ⟨#[]⟩, Value.int IntKind.u64 0] = true := by kernel_rfl
@[go_sem] theorem Tryz.xfl13_0 : Tryz.prog.fldT 13 0 = some (0, 9) := by kernel_rfl
@[go_sem] theorem Tryz.xfl13_1 : Tryz.prog.fldT 13 1 = some (1, 12) := by kernel_rfl
@[go_sem] theorem Tryz.xsz14 : Tryz.prog.szT 14 = some 2 := by kernel_rfl
@[go_sem] theorem Tryz.xag14 : Tryz.prog.aggT 14 = some true := by kernel_rfl
@[go_sem] theorem Tryz.xel14 : Tryz.prog.elemT 14 = none := by kernel_rfl
@[go_sem] theorem Tryz.xby14 : Tryz.prog.bytesT 14 = some 24 := by kernel_rfl
@[go_sem] theorem Tryz.xpl14 : Tryz.prog.plT 14 = some [(0, 1), (1, 1)] := by kernel_rfl
@[go_sem] theorem Tryz.xze14 : Tryz.prog.zeroT 14 = some [Value.string ⟨#[]⟩, Value.int IntKind.u64 0] := by kernel_rfl
@[go_sem] theorem Tryz.xfl14_0 : Tryz.prog.fldT 14 0 = some (0, 9) := by kernel_rfl
@[go_sem] theorem Tryz.xfl14_1 : Tryz.prog.fldT 14 1 = some (1, 12) := by kernel_rfl
@[go_sem] theorem Tryz.xsz15 : Tryz.prog.szT 15 = some 1 := by kernel_rfl
@[go_sem] theorem Tryz.xag15 : Tryz.prog.aggT 15 = some false := by kernel_rfl
@[go_sem] theorem Tryz.xel15 : Tryz.prog.elemT 15 = none := by kernel_rfl
@[go_sem] theorem Tryz.xby15 : Tryz.prog.bytesT 15 = some 8 := by kernel_rfl
@[go_sem] theorem Tryz.xze15 : Tryz.prog.zeroT 15 = some [Value.pointer none] := by kernel_rfl
@[go_sem] theorem Tryz.xzk15 : zeroOk [Value.pointer none] = true := by kernel_rfl
@[go_sem] theorem Tryz.xsz16 : Tryz.prog.szT 16 = some 1 := by kernel_rfl
@[go_sem] theorem Tryz.xag16 : Tryz.prog.aggT 16 = some false := by kernel_rfl
@[go_sem] theorem Tryz.xel16 : Tryz.prog.elemT 16 = none := by kernel_rfl
@[go_sem] theorem Tryz.xby16 : Tryz.prog.bytesT 16 = some 8 := by kernel_rfl
@[go_sem] theorem Tryz.xze16 : Tryz.prog.zeroT 16 = some [Value.pointer none] := by kernel_rfl
@[go_sem] theorem Tryz.xsz17 : Tryz.prog.szT 17 = some 1 := by kernel_rfl
@[go_sem] theorem Tryz.xag17 : Tryz.prog.aggT 17 = some false := by kernel_rfl
@[go_sem] theorem Tryz.xel17 : Tryz.prog.elemT 17 = none := by kernel_rfl
@[go_sem] theorem Tryz.xby17 : Tryz.prog.bytesT 17 = some 8 := by kernel_rfl
@[go_sem] theorem Tryz.xze17 : Tryz.prog.zeroT 17 = some [Value.pointer none] := by kernel_rfl
@[go_sem] theorem Tryz.xsz18 : Tryz.prog.szT 18 = some 1 := by kernel_rfl
@[go_sem] theorem Tryz.xag18 : Tryz.prog.aggT 18 = some true := by kernel_rfl
@[go_sem] theorem Tryz.xel18 : Tryz.prog.elemT 18 = none := by kernel_rfl
@[go_sem] theorem Tryz.xby18 : Tryz.prog.bytesT 18 = some 8 := by kernel_rfl
@[go_sem] theorem Tryz.xpl18 : Tryz.prog.plT 18 = some [(0, 1)] := by kernel_rfl
@[go_sem] theorem Tryz.xze18 : Tryz.prog.zeroT 18 = some [Value.pointer none] := by kernel_rfl
@[go_sem] theorem Tryz.xfl18_0 : Tryz.prog.fldT 18 0 = some (0, 17) := by kernel_rfl
@[go_sem] theorem Tryz.xsz19 : Tryz.prog.szT 19 = some 1 := by kernel_rfl
@[go_sem] theorem Tryz.xag19 : Tryz.prog.aggT 19 = some true := by kernel_rfl
@[go_sem] theorem Tryz.xel19 : Tryz.prog.elemT 19 = none := by kernel_rfl
@[go_sem] theorem Tryz.xby19 : Tryz.prog.bytesT 19 = some 8 := by kernel_rfl
@[go_sem] theorem Tryz.xpl19 : Tryz.prog.plT 19 = some [(0, 1)] := by kernel_rfl
@[go_sem] theorem Tryz.xze19 : Tryz.prog.zeroT 19 = some [Value.pointer none] := by kernel_rfl
@[go_sem] theorem Tryz.xfl19_0 : Tryz.prog.fldT 19 0 = some (0, 17) := by kernel_rfl
@[go_sem] theorem Tryz.xsz20 : Tryz.prog.szT 20 = some 1 := by kernel_rfl
@[go_sem] theorem Tryz.xag20 : Tryz.prog.aggT 20 = some false := by kernel_rfl
@[go_sem] theorem Tryz.xel20 : Tryz.prog.elemT 20 = none := by kernel_rfl
@[go_sem] theorem Tryz.xby20 : Tryz.prog.bytesT 20 = some 16 := by kernel_rfl
@[go_sem] theorem Tryz.xze20 : Tryz.prog.zeroT 20 = some [Value.nilIface] := by kernel_rfl
@[go_sem] theorem Tryz.xzk20 : zeroOk [Value.nilIface] = true := by kernel_rfl
@[go_sem] theorem Tryz.xsz21 : Tryz.prog.szT 21 = some 1 := by kernel_rfl
@[go_sem] theorem Tryz.xag21 : Tryz.prog.aggT 21 = some false := by kernel_rfl
@[go_sem] theorem Tryz.xel21 : Tryz.prog.elemT 21 = none := by kernel_rfl
@[go_sem] theorem Tryz.xby21 : Tryz.prog.bytesT 21 = some 4 := by kernel_rfl
@[go_sem] theorem Tryz.xze21 : Tryz.prog.zeroT 21 = some [Value.int IntKind.i32 0] := by kernel_rfl
@[go_sem] theorem Tryz.xzk21 : zeroOk [Value.int IntKind.i32 0] = true := by kernel_rfl
@[go_sem] theorem Tryz.xsz22 : Tryz.prog.szT 22 = some 1 := by kernel_rfl
@[go_sem] theorem Tryz.xag22 : Tryz.prog.aggT 22 = some false := by kernel_rfl
@[go_sem] theorem Tryz.xel22 : Tryz.prog.elemT 22 = some 24 := by kernel_rfl
@[go_sem] theorem Tryz.xby22 : Tryz.prog.bytesT 22 = some 24 := by kernel_rfl
@[go_sem] theorem Tryz.xze22 : Tryz.prog.zeroT 22 = some [Value.slice none 0 0] := by kernel_rfl
@[go_sem] theorem Tryz.xzk22 : zeroOk [Value.slice none 0 0] = true := by kernel_rfl
@[go_sem] theorem Tryz.xsz23 : Tryz.prog.szT 23 = some 8 := by kernel_rfl
@[go_sem] theorem Tryz.xag23 : Tryz.prog.aggT 23 = some true := by kernel_rfl
@[go_sem] theorem Tryz.xel23 : Tryz.prog.elemT 23 = none := by kernel_rfl
@[go_sem] theorem Tryz.xby23 : Tryz.prog.bytesT 23 = some 96 := by kernel_rfl
@[go_sem] theorem Tryz.xpl23 : Tryz.prog.plT 23 = some [(0, 1), (1, 1), (2, 1), (3, 1), (4, 1), (5, 1), (6, 1), (7, 1)] := by kernel_rfl
@[go_sem] theorem Tryz.xze23 : Tryz.prog.zeroT 23 = some [Value.int IntKind.i64 0, Value.string ⟨#[]⟩, Value.int IntKind.i64 0, Value.int IntKind.i64 0, Value.int IntKind.i64 0, Value.int IntKind.i64 0, Value.string ⟨#[]⟩, Value.slice none 0 0] := by kernel_rfl
@[go_sem] theorem Tryz.xzk23 : zeroOk [Value.int IntKind.i64 0, Value.string ⟨#[]⟩, Value.int IntKind.i64 0, Value.int IntKind.i64 0, Value.int IntKind.i64 0, Value.int IntKind.i64 0, Value.string ⟨#[]⟩, Value.slice none 0 0] = true := by kernel_rfl
@[go_sem] theorem Tryz.xfl23_0 : Tryz.prog.fldT 23 0 = some (0, 3) := by kernel_rfl
@[go_sem] theorem Tryz.xfl23_1 : Tryz.prog.fldT 23 1 = some (1, 9) := by kernel_rfl
@[go_sem] theorem Tryz.xfl23_2 : Tryz.prog.fldT 23 2 = some (2, 2) := by kernel_rfl
@[go_sem] theorem Tryz.xfl23_3 : Tryz.prog.fldT 23 3 = some (3, 2) := by kernel_rfl
@[go_sem] theorem Tryz.xfl23_4 : Tryz.prog.fldT 23 4 = some (4, 2) := by kernel_rfl
@[go_sem] theorem Tryz.xfl23_5 : Tryz.prog.fldT 23 5 = some (5, 3) := by kernel_rfl
@[go_sem] theorem Tryz.xfl23_6 : Tryz.prog.fldT 23 6 = some (6, 9) := by kernel_rfl
@[go_sem] theorem Tryz.xfl23_7 : Tryz.prog.fldT 23 7 = some (7, 22) := by kernel_rfl
@[go_sem] theorem Tryz.xsz24 : Tryz.prog.szT 24 = some 8 := by kernel_rfl
@[go_sem] theorem Tryz.xag24 : Tryz.prog.aggT 24 = some true := by kernel_rfl
@[go_sem] theorem Tryz.xel24 : Tryz.prog.elemT 24 = none := by kernel_rfl
@[go_sem] theorem Tryz.xby24 : Tryz.prog.bytesT 24 = some 96 := by kernel_rfl
@[go_sem] theorem Tryz.xpl24 : Tryz.prog.plT 24 = some [(0, 1), (1, 1), (2, 1), (3, 1), (4, 1), (5, 1), (6, 1), (7, 1)] := by kernel_rfl
@[go_sem] theorem Tryz.xze24 : Tryz.prog.zeroT 24 = some [Value.int IntKind.i64 0, Value.string ⟨#[]⟩, Value.int IntKind.i64 0, Value.int IntKind.i64 0, Value.int IntKind.i64 0, Value.int IntKind.i64 0, Value.string ⟨#[]⟩, Value.slice none 0 0] := by kernel_rfl
@[go_sem] theorem Tryz.xfl24_0 : Tryz.prog.fldT 24 0 = some (0, 3) := by kernel_rfl
@[go_sem] theorem Tryz.xfl24_1 : Tryz.prog.fldT 24 1 = some (1, 9) := by kernel_rfl
@[go_sem] theorem Tryz.xfl24_2 : Tryz.prog.fldT 24 2 = some (2, 2) := by kernel_rfl
@[go_sem] theorem Tryz.xfl24_3 : Tryz.prog.fldT 24 3 = some (3, 2) := by kernel_rfl
@[go_sem] theorem Tryz.xfl24_4 : Tryz.prog.fldT 24 4 = some (4, 2) := by kernel_rfl
@[go_sem] theorem Tryz.xfl24_5 : Tryz.prog.fldT 24 5 = some (5, 3) := by kernel_rfl
@[go_sem] theorem Tryz.xfl24_6 : Tryz.prog.fldT 24 6 = some (6, 9) := by kernel_rfl
@[go_sem] theorem Tryz.xfl24_7 : Tryz.prog.fldT 24 7 = some (7, 22) := by kernel_rfl
@[go_sem] theorem Tryz.xsz25 : Tryz.prog.szT 25 = some 1 := by kernel_rfl
@[go_sem] theorem Tryz.xag25 : Tryz.prog.aggT 25 = some false := by kernel_rfl
@[go_sem] theorem Tryz.xel25 : Tryz.prog.elemT 25 = some 3 := by kernel_rfl
@[go_sem] theorem Tryz.xby25 : Tryz.prog.bytesT 25 = some 24 := by kernel_rfl
@[go_sem] theorem Tryz.xze25 : Tryz.prog.zeroT 25 = some [Value.slice none 0 0] := by kernel_rfl
@[go_sem] theorem Tryz.xsz26 : Tryz.prog.szT 26 = some 1 := by kernel_rfl
@[go_sem] theorem Tryz.xag26 : Tryz.prog.aggT 26 = some false := by kernel_rfl
@[go_sem] theorem Tryz.xel26 : Tryz.prog.elemT 26 = none := by kernel_rfl
@[go_sem] theorem Tryz.xby26 : Tryz.prog.bytesT 26 = some 8 := by kernel_rfl
@[go_sem] theorem Tryz.xze26 : Tryz.prog.zeroT 26 = some [Value.pointer none] := by kernel_rfl
@[go_sem] theorem Tryz.xsz27 : Tryz.prog.szT 27 = some 2 := by kernel_rfl
@[go_sem] theorem Tryz.xag27 : Tryz.prog.aggT 27 = some true := by kernel_rfl
@[go_sem] theorem Tryz.xel27 : Tryz.prog.elemT 27 = none := by kernel_rfl
@[go_sem] theorem Tryz.xby27 : Tryz.prog.bytesT 27 = some 32 := by kernel_rfl
@[go_sem] theorem Tryz.xpl27 : Tryz.prog.plT 27 = some [(0, 1), (1, 1)] := by kernel_rfl
@[go_sem] theorem Tryz.xze27 : Tryz.prog.zeroT 27 = some [Value.slice none 0 0, Value.int IntKind.i64 0] := by kernel_rfl
@[go_sem] theorem Tryz.xzk27 : zeroOk [Value.slice none 0 0, Value.int IntKind.i64 0] = true := by kernel_rfl
@[go_sem] theorem Tryz.xfl27_0 : Tryz.prog.fldT 27 0 = some (0, 25) := by kernel_rfl
@[go_sem] theorem Tryz.xfl27_1 : Tryz.prog.fldT 27 1 = some (1, 3) := by kernel_rfl
@[go_sem] theorem Tryz.xsz28 : Tryz.prog.szT 28 = some 2 := by kernel_rfl
@[go_sem] theorem Tryz.xag28 : Tryz.prog.aggT 28 = some true := by kernel_rfl
@[go_sem] theorem Tryz.xel28 : Tryz.prog.elemT 28 = none := by kernel_rfl
@[go_sem] theorem Tryz.xby28 : Tryz.prog.bytesT 28 = some 32 := by kernel_rfl
@[go_sem] theorem Tryz.xpl28 : Tryz.prog.plT 28 = some [(0, 1), (1, 1)] := by kernel_rfl
@[go_sem] theorem Tryz.xze28 : Tryz.prog.zeroT 28 = some [Value.slice none 0 0, Value.int IntKind.i64 0] := by kernel_rfl
@[go_sem] theorem Tryz.xfl28_0 : Tryz.prog.fldT 28 0 = some (0, 25) := by kernel_rfl
@[go_sem] theorem Tryz.xfl28_1 : Tryz.prog.fldT 28 1 = some (1, 3) := by kernel_rfl
@[go_sem] theorem Tryz.xsz29 : Tryz.prog.szT 29 = some 1 := by kernel_rfl
@[go_sem] theorem Tryz.xag29 : Tryz.prog.aggT 29 = some false := by kernel_rfl
@[go_sem] theorem Tryz.xel29 : Tryz.prog.elemT 29 = none := by kernel_rfl
@[go_sem] theorem Tryz.xby29 : Tryz.prog.bytesT 29 = some 8 := by kernel_rfl
@[go_sem] theorem Tryz.xze29 : Tryz.prog.zeroT 29 = some [Value.nilFunc] := by kernel_rfl
@[go_sem] theorem Tryz.xsz30 : Tryz.prog.szT 30 = some 1 := by kernel_rfl
@[go_sem] theorem Tryz.xag30 : Tryz.prog.aggT 30 = some false := by kernel_rfl
@[go_sem] theorem Tryz.xel30 : Tryz.prog.elemT 30 = none := by kernel_rfl
@[go_sem] theorem Tryz.xby30 : Tryz.prog.bytesT 30 = some 8 := by kernel_rfl
@[go_sem] theorem Tryz.xze30 : Tryz.prog.zeroT 30 = some [Value.nilFunc] := by kernel_rfl
@[go_sem] theorem Tryz.xsz31 : Tryz.prog.szT 31 = some 1 := by kernel_rfl
@[go_sem] theorem Tryz.xag31 : Tryz.prog.aggT 31 = some false := by kernel_rfl
@[go_sem] theorem Tryz.xel31 : Tryz.prog.elemT 31 = none := by kernel_rfl
@[go_sem] theorem Tryz.xby31 : Tryz.prog.bytesT 31 = some 8 := by kernel_rfl
@[go_sem] theorem Tryz.xze31 : Tryz.prog.zeroT 31 = some [Value.nilFunc] := by kernel_rfl
@[go_sem] theorem Tryz.xsz32 : Tryz.prog.szT 32 = some 1 := by kernel_rfl
@[go_sem] theorem Tryz.xag32 : Tryz.prog.aggT 32 = some false := by kernel_rfl
@[go_sem] theorem Tryz.xel32 : Tryz.prog.elemT 32 = none := by kernel_rfl
@[go_sem] theorem Tryz.xby32 : Tryz.prog.bytesT 32 = some 8 := by kernel_rfl
@[go_sem] theorem Tryz.xze32 : Tryz.prog.zeroT 32 = some [Value.nilFunc] := by kernel_rfl
@[go_sem] theorem Tryz.xsz33 : Tryz.prog.szT 33 = some 1 := by kernel_rfl
@[go_sem] theorem Tryz.xag33 : Tryz.prog.aggT 33 = some false := by kernel_rfl
@[go_sem] theorem Tryz.xel33 : Tryz.prog.elemT 33 = none := by kernel_rfl
@[go_sem] theorem Tryz.xby33 : Tryz.prog.bytesT 33 = some 8 := by kernel_rfl
@[go_sem] theorem Tryz.xze33 : Tryz.prog.zeroT 33 = some [Value.nilFunc] := by kernel_rfl
@[go_sem] theorem Tryz.xsz34 : Tryz.prog.szT 34 = some 1 := by kernel_rfl
@[go_sem] theorem Tryz.xag34 : Tryz.prog.aggT 34 = some false := by kernel_rfl
@[go_sem] theorem Tryz.xel34 : Tryz.prog.elemT 34 = none := by kernel_rfl
@[go_sem] theorem Tryz.xby34 : Tryz.prog.bytesT 34 = some 8 := by kernel_rfl
@[go_sem] theorem Tryz.xze34 : Tryz.prog.zeroT 34 = some [Value.nilFunc] := by kernel_rfl
@[go_sem] theorem Tryz.xsz35 : Tryz.prog.szT 35 = some 1 := by kernel_rfl
@[go_sem] theorem Tryz.xag35 : Tryz.prog.aggT 35 = some false := by kernel_rfl
@[go_sem] theorem Tryz.xel35 : Tryz.prog.elemT 35 = none := by kernel_rfl
@[go_sem] theorem Tryz.xby35 : Tryz.prog.bytesT 35 = some 8 := by kernel_rfl
@[go_sem] theorem Tryz.xze35 : Tryz.prog.zeroT 35 = some [Value.nilFunc] := by kernel_rfl
@[go_sem] theorem Tryz.xsz36 : Tryz.prog.szT 36 = some 1 := by kernel_rfl
@[go_sem] theorem Tryz.xag36 : Tryz.prog.aggT 36 = some false := by kernel_rfl
@[go_sem] theorem Tryz.xel36 : Tryz.prog.elemT 36 = some 73 := by kernel_rfl
@[go_sem] theorem Tryz.xby36 : Tryz.prog.bytesT 36 = some 24 := by kernel_rfl
@[go_sem] theorem Tryz.xze36 : Tryz.prog.zeroT 36 = some [Value.slice none 0 0] := by kernel_rfl
@[go_sem] theorem Tryz.xsz37 : Tryz.prog.szT 37 = some 1 := by kernel_rfl
@[go_sem] theorem Tryz.xag37 : Tryz.prog.aggT 37 = some false := by kernel_rfl
@[go_sem] theorem Tryz.xel37 : Tryz.prog.elemT 37 = some 93 := by kernel_rfl
@[go_sem] theorem Tryz.xby37 : Tryz.prog.bytesT 37 = some 24 := by kernel_rfl
@[go_sem] theorem Tryz.xze37 : Tryz.prog.zeroT 37 = some [Value.slice none 0 0] := by kernel_rfl
@[go_sem] theorem Tryz.xsz38 : Tryz.prog.szT 38 = some 2 := by kernel_rfl
@[go_sem] theorem Tryz.xag38 : Tryz.prog.aggT 38 = some true := by kernel_rfl
@[go_sem] theorem Tryz.xel38 : Tryz.prog.elemT 38 = none := by kernel_rfl
@[go_sem] theorem Tryz.xby38 : Tryz.prog.bytesT 38 = some 48 := by kernel_rfl
@[go_sem] theorem Tryz.xpl38 : Tryz.prog.plT 38 = some [(0, 1), (1, 1)] := by kernel_rfl
@[go_sem] theorem Tryz.xze38 : Tryz.prog.zeroT 38 = some [Value.slice none 0 0, Value.slice none 0 0] := by kernel_rfl
@[go_sem] theorem Tryz.xzk38 : zeroOk [Value.slice none 0 0, Value.slice none 0 0] = true := by kernel_rfl
@[go_sem] theorem Tryz.xfl38_0 : Tryz.prog.fldT 38 0 = some (0, 36) := by kernel_rfl
@[go_sem] theorem Tryz.xfl38_1 : Tryz.prog.fldT 38 1 = some (1, 37) := by kernel_rfl
@[go_sem] theorem Tryz.xsz39 : Tryz.prog.szT 39 = some 2 := by kernel_rfl
@[go_sem] theorem Tryz.xag39 : Tryz.prog.aggT 39 = some true := by kernel_rfl
@[go_sem] theorem Tryz.xel39 : Tryz.prog.elemT 39 = none := by kernel_rfl
@[go_sem] theorem Tryz.xby39 : Tryz.prog.bytesT 39 = some 48 := by kernel_rfl
@[go_sem] theorem Tryz.xpl39 : Tryz.prog.plT 39 = some [(0, 1), (1, 1)] := by kernel_rfl
@[go_sem] theorem Tryz.xze39 : Tryz.prog.zeroT 39 = some [Value.slice none 0 0, Value.slice none 0 0] := by kernel_rfl
@[go_sem] theorem Tryz.xfl39_0 : Tryz.prog.fldT 39 0 = some (0, 36) := by kernel_rfl
@[go_sem] theorem Tryz.xfl39_1 : Tryz.prog.fldT 39 1 = some (1, 37) := by kernel_rfl
@[go_sem] theorem Tryz.xsz40 : Tryz.prog.szT 40 = some 1 := by kernel_rfl
@[go_sem] theorem Tryz.xag40 : Tryz.prog.aggT 40 = some false := by kernel_rfl
@[go_sem] theorem Tryz.xel40 : Tryz.prog.elemT 40 = none := by kernel_rfl
@[go_sem] theorem Tryz.xby40 : Tryz.prog.bytesT 40 = some 8 := by kernel_rfl
@[go_sem] theorem Tryz.xze40 : Tryz.prog.zeroT 40 = some [Value.nilFunc] := by kernel_rfl
@[go_sem] theorem Tryz.xsz41 : Tryz.prog.szT 41 = some 1 := by kernel_rfl
@[go_sem] theorem Tryz.xag41 : Tryz.prog.aggT 41 = some false := by kernel_rfl
@[go_sem] theorem Tryz.xel41 : Tryz.prog.elemT 41 = none := by kernel_rfl
@[go_sem] theorem Tryz.xby41 : Tryz.prog.bytesT 41 = some 8 := by kernel_rfl
@[go_sem] theorem Tryz.xze41 : Tryz.prog.zeroT 41 = some [Value.nilFunc] := by kernel_rfl
@[go_sem] theorem Tryz.xsz42 : Tryz.prog.szT 42 = some 1 := by kernel_rfl
@[go_sem] theorem Tryz.xag42 : Tryz.prog.aggT 42 = some false := by kernel_rfl
@[go_sem] theorem Tryz.xel42 : Tryz.prog.elemT 42 = none := by kernel_rfl
@[go_sem] theorem Tryz.xby42 : Tryz.prog.bytesT 42 = some 8 := by kernel_rfl
@[go_sem] theorem Tryz.xze42 : Tryz.prog.zeroT 42 = some [Value.int IntKind.i64 0] := by kernel_rfl
@[go_sem] theorem Tryz.xsz43 : Tryz.prog.szT 43 = some 1 := by kernel_rfl
@[go_sem] theorem Tryz.xag43 : Tryz.prog.aggT 43 = some false := by kernel_rfl
@[go_sem] theorem Tryz.xel43 : Tryz.prog.elemT 43 = none := by kernel_rfl
@[go_sem] theorem Tryz.xby43 : Tryz.prog.bytesT 43 = some 8 := by kernel_rfl
@[go_sem] theorem Tryz.xze43 : Tryz.prog.zeroT 43 = some [Value.nilFunc] := by kernel_rfl
@[go_sem] theorem Tryz.xsz44 : Tryz.prog.szT 44 = some 1 := by kernel_rfl
@[go_sem] theorem Tryz.xag44 : Tryz.prog.aggT 44 = some false := by kernel_rfl
@[go_sem] theorem Tryz.xel44 : Tryz.prog.elemT 44 = none := by kernel_rfl
@[go_sem] theorem Tryz.xby44 : Tryz.prog.bytesT 44 = some 8 := by kernel_rfl
@[go_sem] theorem Tryz.xze44 : Tryz.prog.zeroT 44 = some [Value.nilFunc] := by kernel_rfl
@[go_sem] theorem Tryz.xsz45 : Tryz.prog.szT 45 = some 1 := by kernel_rfl
@[go_sem] theorem Tryz.xag45 : Tryz.prog.aggT 45 = some false := by kernel_rfl
@[go_sem] theorem Tryz.xel45 : Tryz.prog.elemT 45 = some 104 := by kernel_rfl
@[go_sem] theorem Tryz.xby45 : Tryz.prog.bytesT 45 = some 24 := by kernel_rfl
@[go_sem] theorem Tryz.xze45 : Tryz.prog.zeroT 45 = some [Value.slice none 0 0] := by kernel_rfl
@[go_sem] theorem Tryz.xsz46 : Tryz.prog.szT 46 = some 1 := by kernel_rfl
@[go_sem] theorem Tryz.xag46 : Tryz.prog.aggT 46 = some false := by kernel_rfl
@[go_sem] theorem Tryz.xel46 : Tryz.prog.elemT 46 = some 104 := by kernel_rfl
@[go_sem] theorem Tryz.xby46 : Tryz.prog.bytesT 46 = some 24 := by kernel_rfl
@[go_sem] theorem Tryz.xze46 : Tryz.prog.zeroT 46 = some [Value.slice none 0 0] := by kernel_rfl
@[go_sem] theorem Tryz.xsz47 : Tryz.prog.szT 47 = some 1 := by kernel_rfl
@[go_sem] theorem Tryz.xag47 : Tryz.prog.aggT 47 = some false := by kernel_rfl
@[go_sem] theorem Tryz.xel47 : Tryz.prog.elemT 47 = none := by kernel_rfl
@[go_sem] theorem Tryz.xby47 : Tryz.prog.bytesT 47 = some 8 := by kernel_rfl
@[go_sem] theorem Tryz.xze47 : Tryz.prog.zeroT 47 = some [Value.nilFunc] := by kernel_rfl
@[go_sem] theorem Tryz.xsz48 : Tryz.prog.szT 48 = some 1 := by kernel_rfl
@[go_sem] theorem Tryz.xag48 : Tryz.prog.aggT 48 = some false := by kernel_rfl
@[go_sem] theorem Tryz.xel48 : Tryz.prog.elemT 48 = none := by kernel_rfl
@[go_sem] theorem Tryz.xby48 : Tryz.prog.bytesT 48 = some 8 := by kernel_rfl
@[go_sem] theorem Tryz.xze48 : Tryz.prog.zeroT 48 = some [Value.nilFunc] := by kernel_rfl
@[go_sem] theorem Tryz.xsz49 : Tryz.prog.szT 49 = some 1 := by kernel_rfl
@[go_sem] theorem Tryz.xag49 : Tryz.prog.aggT 49 = some false := by kernel_rfl
@[go_sem] theorem Tryz.xel49 : Tryz.prog.elemT 49 = some 46 := by kernel_rfl
@[go_sem] theorem Tryz.xby49 : Tryz.prog.bytesT 49 = some 24 := by kernel_rfl
@[go_sem] theorem Tryz.xze49 : Tryz.prog.zeroT 49 = some [Value.slice none 0 0] := by kernel_rfl
@[go_sem] theorem Tryz.xsz50 : Tryz.prog.szT 50 = some 1 := by kernel_rfl
@[go_sem] theorem Tryz.xag50 : Tryz.prog.aggT 50 = some false := by kernel_rfl
@[go_sem] theorem Tryz.xel50 : Tryz.prog.elemT 50 = none := by kernel_rfl
@[go_sem] theorem Tryz.xby50 : Tryz.prog.bytesT 50 = some 0 := by kernel_rfl
@[go_sem] theorem Tryz.xsz51 : Tryz.prog.szT 51 = some 1 := by kernel_rfl
@[go_sem] theorem Tryz.xag51 : Tryz.prog.aggT 51 = some false := by kernel_rfl
@[go_sem] theorem Tryz.xel51 : Tryz.prog.elemT 51 = none := by kernel_rfl
@[go_sem] theorem Tryz.xby51 : Tryz.prog.bytesT 51 = some 8 := by kernel_rfl
@[go_sem] theorem Tryz.xze51 : Tryz.prog.zeroT 51 = some [Value.nilFunc] := by kernel_rfl
@[go_sem] theorem Tryz.xsz52 : Tryz.prog.szT 52 = some 1 := by kernel_rfl
@[go_sem] theorem Tryz.xag52 : Tryz.prog.aggT 52 = some false := by kernel_rfl
@[go_sem] theorem Tryz.xel52 : Tryz.prog.elemT 52 = none := by kernel_rfl
@[go_sem] theorem Tryz.xby52 : Tryz.prog.bytesT 52 = some 8 := by kernel_rfl
@[go_sem] theorem Tryz.xze52 : Tryz.prog.zeroT 52 = some [Value.nilFunc] := by kernel_rfl
@[go_sem] theorem Tryz.xsz53 : Tryz.prog.szT 53 = some 1 := by kernel_rfl
@[go_sem] theorem Tryz.xag53 : Tryz.prog.aggT 53 = some false := by kernel_rfl
@[go_sem] theorem Tryz.xel53 : Tryz.prog.elemT 53 = none := by kernel_rfl
@[go_sem] theorem Tryz.xby53 : Tryz.prog.bytesT 53 = some 8 := by kernel_rfl
@[go_sem] theorem Tryz.xze53 : Tryz.prog.zeroT 53 = some [Value.nilFunc] := by kernel_rfl
@[go_sem] theorem Tryz.xsz54 : Tryz.prog.szT 54 = some 1 := by kernel_rfl
@[go_sem] theorem Tryz.xag54 : Tryz.prog.aggT 54 = some false := by kernel_rfl
@[go_sem] theorem Tryz.xel54 : Tryz.prog.elemT 54 = some 9 := by kernel_rfl
@[go_sem] theorem Tryz.xby54 : Tryz.prog.bytesT 54 = some 24 := by kernel_rfl
@[go_sem] theorem Tryz.xze54 : Tryz.prog.zeroT 54 = some [Value.slice none 0 0] := by kernel_rfl
@[go_sem] theorem Tryz.xsz55 : Tryz.prog.szT 55 = some 1 := by kernel_rfl
@[go_sem] theorem Tryz.xag55 : Tryz.prog.aggT 55 = some false := by kernel_rfl
@[go_sem] theorem Tryz.xel55 : Tryz.prog.elemT 55 = none := by kernel_rfl
@[go_sem] theorem Tryz.xby55 : Tryz.prog.bytesT 55 = some 0 := by kernel_rfl
@[go_sem] theorem Tryz.xsz56 : Tryz.prog.szT 56 = some 1 := by kernel_rfl
@[go_sem] theorem Tryz.xag56 : Tryz.prog.aggT 56 = some false := by kernel_rfl
@[go_sem] theorem Tryz.xel56 : Tryz.prog.elemT 56 = none := by kernel_rfl
@[go_sem] theorem Tryz.xby56 : Tryz.prog.bytesT 56 = some 8 := by kernel_rfl
@[go_sem] theorem Tryz.xze56 : Tryz.prog.zeroT 56 = some [Value.nilFunc] := by kernel_rfl
@[go_sem] theorem Tryz.xsz57 : Tryz.prog.szT 57 = some 1 := by kernel_rfl
@[go_sem] theorem Tryz.xag57 : Tryz.prog.aggT 57 = some false := by kernel_rfl
@[go_sem] theorem Tryz.xel57 : Tryz.prog.elemT 57 = none := by kernel_rfl
@[go_sem] theorem Tryz.xby57 : Tryz.prog.bytesT 57 = some 8 := by kernel_rfl
@[go_sem] theorem Tryz.xze57 : Tryz.prog.zeroT 57 = some [Value.nilFunc] := by kernel_rfl
@[go_sem] theorem Tryz.xsz58 : Tryz.prog.szT 58 = some 1 := by kernel_rfl
@[go_sem] theorem Tryz.xag58 : Tryz.prog.aggT 58 = some false := by kernel_rfl
@[go_sem] theorem Tryz.xel58 : Tryz.prog.elemT 58 = none := by kernel_rfl
@[go_sem] theorem Tryz.xby58 : Tryz.prog.bytesT 58 = some 8 := by kernel_rfl
@[go_sem] theorem Tryz.xze58 : Tryz.prog.zeroT 58 = some [Value.nilFunc] := by kernel_rfl
@[go_sem] theorem Tryz.xsz59 : Tryz.prog.szT 59 = some 1 := by kernel_rfl
@[go_sem] theorem Tryz.xag59 : Tryz.prog.aggT 59 = some false := by kernel_rfl
@[go_sem] theorem Tryz.xel59 : Tryz.prog.elemT 59 = some 2 := by kernel_rfl
@[go_sem] theorem Tryz.xby59 : Tryz.prog.bytesT 59 = some 24 := by kernel_rfl
@[go_sem] theorem Tryz.xze59 : Tryz.prog.zeroT 59 = some [Value.slice none 0 0] := by kernel_rfl
@[go_sem] theorem Tryz.xsz60 : Tryz.prog.szT 60 = some 1 := by kernel_rfl
@[go_sem] theorem Tryz.xag60 : Tryz.prog.aggT 60 = some false := by kernel_rfl
@[go_sem] theorem Tryz.xel60 : Tryz.prog.elemT 60 = none := by kernel_rfl
@[go_sem] theorem Tryz.xby60 : Tryz.prog.bytesT 60 = some 0 := by kernel_rfl
@[go_sem] theorem Tryz.xsz61 : Tryz.prog.szT 61 = some 1 := by kernel_rfl
@[go_sem] theorem Tryz.xag61 : Tryz.prog.aggT 61 = some false := by kernel_rfl
@[go_sem] theorem Tryz.xel61 : Tryz.prog.elemT 61 = none := by kernel_rfl
@[go_sem] theorem Tryz.xby61 : Tryz.prog.bytesT 61 = some 8 := by kernel_rfl
@[go_sem] theorem Tryz.xze61 : Tryz.prog.zeroT 61 = some [Value.nilFunc] := by kernel_rfl
@[go_sem] theorem Tryz.xsz62 : Tryz.prog.szT 62 = some 1 := by kernel_rfl
@[go_sem] theorem Tryz.xag62 : Tryz.prog.aggT 62 = some false := by kernel_rfl
@[go_sem] theorem Tryz.xel62 : Tryz.prog.elemT 62 = none := by kernel_rfl
@[go_sem] theorem Tryz.xby62 : Tryz.prog.bytesT 62 = some 8 := by kernel_rfl
@[go_sem] theorem Tryz.xze62 : Tryz.prog.zeroT 62 = some [Value.nilFunc] := by kernel_rfl
@[go_sem] theorem Tryz.xsz63 : Tryz.prog.szT 63 = some 1 := by kernel_rfl
@[go_sem] theorem Tryz.xag63 : Tryz.prog.aggT 63 = some false := by kernel_rfl
@[go_sem] theorem Tryz.xel63 : Tryz.prog.elemT 63 = none := by kernel_rfl
@[go_sem] theorem Tryz.xby63 : Tryz.prog.bytesT 63 = some 8 := by kernel_rfl
@[go_sem] theorem Tryz.xze63 : Tryz.prog.zeroT 63 = some [Value.nilFunc] := by kernel_rfl
@[go_sem] theorem Tryz.xsz64 : Tryz.prog.szT 64 = some 1 := by kernel_rfl
@[go_sem] theorem Tryz.xag64 : Tryz.prog.aggT 64 = some false := by kernel_rfl
@[go_sem] theorem Tryz.xel64 : Tryz.prog.elemT 64 = none := by kernel_rfl
@[go_sem] theorem Tryz.xby64 : Tryz.prog.bytesT 64 = some 8 := by kernel_rfl
@[go_sem] theorem Tryz.xze64 : Tryz.prog.zeroT 64 = some [Value.nilFunc] := by kernel_rfl
@[go_sem] theorem Tryz.xsz65 : Tryz.prog.szT 65 = some 1 := by kernel_rfl
@[go_sem] theorem Tryz.xag65 : Tryz.prog.aggT 65 = some false := by kernel_rfl
@[go_sem] theorem Tryz.xel65 : Tryz.prog.elemT 65 = none := by kernel_rfl
@[go_sem] theorem Tryz.xby65 : Tryz.prog.bytesT 65 = some 8 := by kernel_rfl
@[go_sem] theorem Tryz.xze65 : Tryz.prog.zeroT 65 = some [Value.int IntKind.u64 0] := by kernel_rfl
@[go_sem] theorem Tryz.xsz66 : Tryz.prog.szT 66 = some 2 := by kernel_rfl
@[go_sem] theorem Tryz.xag66 : Tryz.prog.aggT 66 = some true := by kernel_rfl
@[go_sem] theorem Tryz.xel66 : Tryz.prog.elemT 66 = none := by kernel_rfl
@[go_sem] theorem Tryz.xby66 : Tryz.prog.bytesT 66 = some 16 := by kernel_rfl
@[go_sem] theorem Tryz.xpl66 : Tryz.prog.plT 66 = some [(0, 1), (1, 1)] := by kernel_rfl
@[go_sem] theorem Tryz.xze66 : Tryz.prog.zeroT 66 = some [Value.int IntKind.i64 0, Value.int IntKind.i64 0] := by kernel_rfl
@[go_sem] theorem Tryz.xzk66 : zeroOk [Value.int IntKind.i64 0, Value.int IntKind.i64 0] = true := by kernel_rfl
@[go_sem] theorem Tryz.xfl66_0 : Tryz.prog.fldT 66 0 = some (0, 2) := by kernel_rfl
@[go_sem] theorem Tryz.xfl66_1 : Tryz.prog.fldT 66 1 = some (1, 2) := by kernel_rfl
@[go_sem] theorem Tryz.xsz67 : Tryz.prog.szT 67 = some 2 := by kernel_rfl
@[go_sem] theorem Tryz.xag67 : Tryz.prog.aggT 67 = some true := by kernel_rfl
@[go_sem] theorem Tryz.xel67 : Tryz.prog.elemT 67 = none := by kernel_rfl
@[go_sem] theorem Tryz.xby67 : Tryz.prog.bytesT 67 = some 16 := by kernel_rfl
@[go_sem] theorem Tryz.xpl67 : Tryz.prog.plT 67 = some [(0, 1), (1, 1)] := by kernel_rfl
@[go_sem] theorem Tryz.xze67 : Tryz.prog.zeroT 67 = some [Value.int IntKind.i64 0, Value.int IntKind.i64 0] := by kernel_rfl
@[go_sem] theorem Tryz.xfl67_0 : Tryz.prog.fldT 67 0 = some (0, 2) := by kernel_rfl
@[go_sem] theorem Tryz.xfl67_1 : Tryz.prog.fldT 67 1 = some (1, 2) := by kernel_rfl
@[go_sem] theorem Tryz.xsz68 : Tryz.prog.szT 68 = some 64 := by kernel_rfl
@[go_sem] theorem Tryz.xag68 : Tryz.prog.aggT 68 = some true := by kernel_rfl
@[go_sem] theorem Tryz.xel68 : Tryz.prog.elemT 68 = none := by kernel_rfl
@[go_sem] theorem Tryz.xby68 : Tryz.prog.bytesT 68 = some 64 := by kernel_rfl
@[go_sem] theorem Tryz.xpl68 : Tryz.prog.plT 68 = some [(0, 1), (1, 1), (2, 1), (3, 1), (4, 1), (5, 1), (6, 1), (7, 1), (8, 1), (9, 1), (10, 1), (11, 1), (12, 1), (13, 1), (14, 1), (15, 1), (16, 1), (17, 1), (18, 1), (19, 1), (20, 1), (21, 1), (22, 1), (23, 1), (24, 1), (25, 1), (26, 1), (27, 1), (28, 1), (29, 1), (30, 1), (31, 1), (32, 1), (33, 1), (34, 1), (35, 1), (36, 1), (37, 1), (38, 1), (39, 1), (40, 1), (41, 1), (42, 1), (43, 1), (44, 1), (45, 1), (46, 1), (47, 1), (48, 1), (49, 1), (50, 1), (51, 1), (52, 1), (53, 1), (54, 1), (55, 1), (56, 1), (57, 1), (58, 1), (59, 1), (60, 1), (61, 1), (62, 1), (63, 1)] := by kernel_rfl
@[go_sem] theorem Tryz.xze68 : Tryz.prog.zeroT 68 = some [Value.int IntKind.u8 0, Value.int IntKind.u8 0, Value.int IntKind.u8 0, Value.int IntKind.u8 0, Value.int IntKind.u8 0, Value.int IntKind.u8 0, Value.int IntKind.u8 0, Value.int IntKind.u8 0, Value.int IntKind.u8 0, Value.int IntKind.u8 0, Value.int IntKind.u8 0, Value.int IntKind.u8 0, Value.int IntKind.u8 0, Value.int IntKind.u8 0, Value.int IntKind.u8 0, Value.int IntKind.u8 0, Value.int IntKind.u8 0, Value.int IntKind.u8 0, Value.int IntKind.u8 0, Value.int IntKind.u8 0, Value.int IntKind.u8 0, Value.int IntKind.u8 0, Value.int IntKind.u8 0, Value.int IntKind.u8 0, Value.int IntKind.u8 0, Value.int IntKind.u8 0, Value.int IntKind.u8 0, Value.int IntKind.u8 0, Value.int IntKind.u8 0, Value.int IntKind.u8 0, Value.int IntKind.u8 0, Value.int IntKind.u8 0, Value.int IntKind.u8 0, Value.int IntKind.u8 0, Value.int IntKind.u8 0, Value.int IntKind.u8 0, Value.int IntKind.u8 0, Value.int IntKind.u8 0, Value.int IntKind.u8 0, Value.int IntKind.u8 0, Value.int IntKind.u8 0, Value.int IntKind.u8 0, Value.int IntKind.u8 0, Value.int IntKind.u8 0, Value.int IntKind.u8 0, Value.int IntKind.u8 0, Value.int IntKind.u8 0, Value.int IntKind.u8 0, Value.int IntKind.u8 0, Value.int IntKind.u8 0, Value.int IntKind.u8 0, Value.int IntKind.u8 0, Value.int IntKind.u8 0, Value.int IntKind.u8 0, Value.int IntKind.u8 0, Value.int IntKind.u8 0, Value.int IntKind.u8 0, Value.int IntKind.u8 0, Value.int IntKind.u8 0, Value.int IntKind.u8 0, Value.int IntKind.u8 0, Value.int IntKind.u8 0, Value.int IntKind.u8 0, Value.int IntKind.u8 0] := by kernel_rfl
@[go_sem] theorem Tryz.xzk68 : zeroOk [Value.int IntKind.u8 0, Value.int IntKind.u8 0, Value.int IntKind.u8 0, Value.int IntKind.u8 0, Value.int IntKind.u8 0, Value.int IntKind.u8 0, Value.int IntKind.u8 0, Value.int IntKind.u8 0, Value.int IntKind.u8 0, Value.int IntKind.u8 0, Value.int IntKind.u8 0, Value.int IntKind.u8 0, Value.int IntKind.u8 0, Value.int IntKind.u8 0, Value.int IntKind.u8 0, Value.int IntKind.u8 0, Value.int IntKind.u8 0, Value.int IntKind.u8 0, Value.int IntKind.u8 0, Value.int IntKind.u8 0, Value.int IntKind.u8 0, Value.int IntKind.u8 0, Value.int IntKind.u8 0, Value.int IntKind.u8 0, Value.int IntKind.u8 0, Value.int IntKind.u8 0, Value.int IntKind.u8 0, Value.int IntKind.u8 0, Value.int IntKind.u8 0, Value.int IntKind.u8 0, Value.int IntKind.u8 0, Value.int IntKind.u8 0, Value.int IntKind.u8 0, Value.int IntKind.u8 0, Value.int IntKind.u8 0, Value.int IntKind.u8 0, Value.int IntKind.u8 0, Value.int IntKind.u8 0, Value.int IntKind.u8 0, Value.int IntKind.u8 0, Value.int IntKind.u8 0, Value.int IntKind.u8 0, Value.int IntKind.u8 0, Value.int IntKind.u8 0, Value.int IntKind.u8 0, Value.int IntKind.u8 0, Value.int IntKind.u8 0, Value.int IntKind.u8 0, Value.int IntKind.u8 0, Value.int IntKind.u8 0, Value.int IntKind.u8 0, Value.int IntKind.u8 0, Value.int IntKind.u8 0, Value.int IntKind.u8 0, Value.int IntKind.u8 0, Value.int IntKind.u8 0, Value.int IntKind.u8 0, Value.int IntKind.u8 0, Value.int IntKind.u8 0, Value.int IntKind.u8 0, Value.int IntKind.u8 0, Value.int IntKind.u8 0, Value.int IntKind.u8 0, Value.int IntKind.u8 0] = true := by kernel_rfl
@[go_sem] theorem Tryz.xsz69 : Tryz.prog.szT 69 = some 135 := by kernel_rfl
@[go_sem] theorem Tryz.xag69 : Tryz.prog.aggT 69 = some true := by kernel_rfl
@[go_sem] theorem Tryz.xel69 : Tryz.prog.elemT 69 = none := by kernel_rfl
@[go_sem] theorem Tryz.xby69 : Tryz.prog.bytesT 69 = some 184 := by kernel_rfl
@[go_sem] theorem Tryz.xpl69 : Tryz.prog.plT 69 = some [(0, 1), (1, 1), (2, 2), (4, 1), (5, 1), (6, 1), (7, 64), (71, 64)] := by kernel_rfl
def Tryz.z69 : List Value := [Value.int IntKind.i64 0, Value.int IntKind.i64 0, Value.int IntKind.i64 0, Value.int IntKind.i64 0, Value.bool false, Value.int IntKind.i64 0, Value.int IntKind.i64 0, Value.int IntKind.u8 0, Value.int IntKind.u8 0, Value.int IntKind.u8 0, Value.int IntKind.u8 0, Value.int IntKind.u8 0, Value.int IntKind.u8 0, Value.int IntKind.u8 0, Value.int IntKind.u8 0, Value.int IntKind.u8 0, Value.int IntKind.u8 0, Value.int IntKind.u8 0, Value.int IntKind.u8 0, Value.int IntKind.u8 0, Value.int IntKind.u8 0, Value.int IntKind.u8 0, Value.int IntKind.u8 0, Value.int IntKind.u8 0, Value.int IntKind.u8 0, Value.int IntKind.u8 0, Value.int IntKind.u8 0, Value.int IntKind.u8 0, Value.int IntKind.u8 0, Value.int IntKind.u8 0, Value.int IntKind.u8 0, Value.int IntKind.u8 0, Value.int IntKind.u8 0, Value.int IntKind.u8 0, Value.int IntKind.u8 0, Value.int IntKind.u8 0, Value.int IntKind.u8 0, Value.int IntKind.u8 0, Value.int IntKind.u8 0, Value.int IntKind.u8 0, Value.int IntKind.u8 0, Value.int IntKind.u8 0, Value.int IntKind.u8 0, Value.int IntKind.u8 0, Value.int IntKind.u8 0, Value.int IntKind.u8 0, Value.int IntKind.u8 0, Value.int IntKind.u8 0, Value.int IntKind.u8 0, Value.int IntKind.u8 0, Value.int IntKind.u8 0, Value.int IntKind.u8 0, Value.int IntKind.u8 0, Value.int IntKind.u8 0, Value.int IntKind.u8 0, Value.int IntKind.u8 0, Value.int IntKind.u8 0, Value.int IntKind.u8 0, Value.int IntKind.u8 0, Value.int IntKind.u8 0, Value.int IntKind.u8 0, Value.int IntKind.u8 0, Value.int IntKind.u8 0, Value.int IntKind.u8 0, Value.int IntKind.u8 0, Value.int IntKind.u8 0, Value.int IntKind.u8 0, Value.int IntKind.u8 0, Value.int IntKind.u8 0, Value.int IntKind.u8 0, Value.int IntKind.u8 0, Value.int IntKind.u8 0, Value.int IntKind.u8 0, Value.int IntKind.u8 0, Value.int IntKind.u8 0, Value.int IntKind.u8 0, Value.int IntKind.u8 0, Value.int IntKind.u8 0, Value.int IntKind.u8 0, Value.int IntKind.u8 0, Value.int IntKind.u8 0, Value.int IntKind.u8 0, Value.int IntKind.u8 0, Value.int IntKind.u8 0, Value.int IntKind.u8 0, Value.int IntKind.u8 0, Value.int IntKind.u8 0, Value.int IntKind.u8 0, Value.int IntKind.u8 0, Value.int IntKind.u8 0, Value.int IntKind.u8 0, Value.int IntKind.u8 0, Value.int IntKind.u8 0, Value.int IntKind.u8 0, Value.int IntKind.u8 0, Value.int IntKind.u8 0, Value.int IntKind.u8 0, Value.int IntKind.u8 0, Value.int IntKind.u8 0, Value.int IntKind.u8 0, Value.int IntKind.u8 0, Value.int IntKind.u8 0, Value.int IntKind.u8 0, Value.int IntKind.u8 0, Value.int IntKind.u8 0, Value.int IntKind.u8 0, Value.int IntKind.u8 0, Value.int IntKind.u8 0, Value.int IntKind.u8 0, Value.int IntKind.u8 0, Value.int IntKind.u8 0, Value.int IntKind.u8 0, Value.int IntKind.u8 0, Value.int IntKind.u8 0, Value.int IntKind.u8 0, Value.int IntKind.u8 0, Value.int IntKind.u8 0, Value.int IntKind.u8 0, Value.int IntKind.u8 0, Value.int IntKind.u8 0, Value.int IntKind.u8 0, Value.int IntKind.u8 0, Value.int IntKind.u8 0, Value.int IntKind.u8 0, Value.int IntKind.u8 0, Value.int IntKind.u8 0, Value.int IntKind.u8 0, Value.int IntKind.u8 0, Value.int IntKind.u8 0, Value.int IntKind.u8 0, Value.int IntKind.u8 0, Value.int IntKind.u8 0, Value.int IntKind.u8 0, Value.int IntKind.u8 0, Value.int IntKind.u8 0]
@[go_sem] theorem Tryz.xze69 : Tryz.prog.zeroT 69 = some Tryz.z69 := by kernel_rfl
@[go_sem] theorem Tryz.zok69 : zeroOk Tryz.z69 = true := by kernel_rfl
@[go_sem] theorem Tryz.zlen69 : Tryz.z69.length = 135 := by kernel_rfl
@[go_sem] theorem Tryz.xfl69_0 : Tryz.prog.fldT 69 0 = some (0, 3) := by kernel_rfl
@[go_sem] theorem Tryz.xfl69_1 : Tryz.prog.fldT 69 1 = some (1, 3) := by kernel_rfl
@[go_sem] theorem Tryz.xfl69_2 : Tryz.prog.fldT 69 2 = some (2, 67) := by kernel_rfl
@[go_sem] theorem Tryz.xfl69_3 : Tryz.prog.fldT 69 3 = some (4, 4) := by kernel_rfl
@[go_sem] theorem Tryz.xfl69_4 : Tryz.prog.fldT 69 4 = some (5, 3) := by kernel_rfl
@[go_sem] theorem Tryz.xfl69_5 : Tryz.prog.fldT 69 5 = some (6, 3) := by kernel_rfl
@[go_sem] theorem Tryz.xfl69_6 : Tryz.prog.fldT 69 6 = some (7, 68) := by kernel_rfl
@[go_sem] theorem Tryz.xfl69_7 : Tryz.prog.fldT 69 7 = some (71, 68) := by kernel_rfl
@[go_sem] theorem Tryz.xsz70 : Tryz.prog.szT 70 = some 135 := by kernel_rfl
@[go_sem] theorem Tryz.xag70 : Tryz.prog.aggT 70 = some true := by kernel_rfl
@[go_sem] theorem Tryz.xel70 : Tryz.prog.elemT 70 = none := by kernel_rfl
@[go_sem] theorem Tryz.xby70 : Tryz.prog.bytesT 70 = some 184 := by kernel_rfl
@[go_sem] theorem Tryz.xpl70 : Tryz.prog.plT 70 = some [(0, 1), (1, 1), (2, 2), (4, 1), (5, 1), (6, 1), (7, 64), (71, 64)] := by kernel_rfl
def Tryz.z70 : List Value := [Value.int IntKind.i64 0, Value.int IntKind.i64 0, Value.int IntKind.i64 0, Value.int IntKind.i64 0, Value.bool false, Value.int IntKind.i64 0, Value.int IntKind.i64 0, Value.int IntKind.u8 0, Value.int IntKind.u8 0, Value.int IntKind.u8 0, Value.int IntKind.u8 0, Value.int IntKind.u8 0, Value.int IntKind.u8 0, Value.int IntKind.u8 0, Value.int IntKind.u8 0, Value.int IntKind.u8 0, Value.int IntKind.u8 0, Value.int IntKind.u8 0, Value.int IntKind.u8 0, Value.int IntKind.u8 0, Value.int IntKind.u8 0, Value.int IntKind.u8 0, Value.int IntKind.u8 0, Value.int IntKind.u8 0, Value.int IntKind.u8 0, Value.int IntKind.u8 0, Value.int IntKind.u8 0, Value.int IntKind.u8 0, Value.int IntKind.u8 0, Value.int IntKind.u8 0, Value.int IntKind.u8 0, Value.int IntKind.u8 0, Value.int IntKind.u8 0, Value.int IntKind.u8 0, Value.int IntKind.u8 0, Value.int IntKind.u8 0, Value.int IntKind.u8 0, Value.int IntKind.u8 0, Value.int IntKind.u8 0, Value.int IntKind.u8 0, Value.int IntKind.u8 0, Value.int IntKind.u8 0, Value.int IntKind.u8 0, Value.int IntKind.u8 0, Value.int IntKind.u8 0, Value.int IntKind.u8 0, Value.int IntKind.u8 0, Value.int IntKind.u8 0, Value.int IntKind.u8 0, Value.int IntKind.u8 0, Value.int IntKind.u8 0, Value.int IntKind.u8 0, Value.int IntKind.u8 0, Value.int IntKind.u8 0, Value.int IntKind.u8 0, Value.int IntKind.u8 0, Value.int IntKind.u8 0, Value.int IntKind.u8 0, Value.int IntKind.u8 0, Value.int IntKind.u8 0, Value.int IntKind.u8 0, Value.int IntKind.u8 0, Value.int IntKind.u8 0, Value.int IntKind.u8 0, Value.int IntKind.u8 0, Value.int IntKind.u8 0, Value.int IntKind.u8 0, Value.int IntKind.u8 0, Value.int IntKind.u8 0, Value.int IntKind.u8 0, Value.int IntKind.u8 0, Value.int IntKind.u8 0, Value.int IntKind.u8 0, Value.int IntKind.u8 0, Value.int IntKind.u8 0, Value.int IntKind.u8 0, Value.int IntKind.u8 0, Value.int IntKind.u8 0, Value.int IntKind.u8 0, Value.int IntKind.u8 0, Value.int IntKind.u8 0, Value.int IntKind.u8 0, Value.int IntKind.u8 0, Value.int IntKind.u8 0, Value.int IntKind.u8 0, Value.int IntKind.u8 0, Value.int IntKind.u8 0, Value.int IntKind.u8 0, Value.int IntKind.u8 0, Value.int IntKind.u8 0, Value.int IntKind.u8 0, Value.int IntKind.u8 0, Value.int IntKind.u8 0, Value.int IntKind.u8 0, Value.int IntKind.u8 0, Value.int IntKind.u8 0, Value.int IntKind.u8 0, Value.int IntKind.u8 0, Value.int IntKind.u8 0, Value.int IntKind.u8 0, Value.int IntKind.u8 0, Value.int IntKind.u8 0, Value.int IntKind.u8 0, Value.int IntKind.u8 0, Value.int IntKind.u8 0, Value.int IntKind.u8 0, Value.int IntKind.u8 0, Value.int IntKind.u8 0, Value.int IntKind.u8 0, Value.int IntKind.u8 0, Value.int IntKind.u8 0, Value.int IntKind.u8 0, Value.int IntKind.u8 0, Value.int IntKind.u8 0, Value.int IntKind.u8 0, Value.int IntKind.u8 0, Value.int IntKind.u8 0, Value.int IntKind.u8 0, Value.int IntKind.u8 0, Value.int IntKind.u8 0, Value.int IntKind.u8 0, Value.int IntKind.u8 0, Value.int IntKind.u8 0, Value.int IntKind.u8 0, Value.int IntKind.u8 0, Value.int IntKind.u8 0, Value.int IntKind.u8 0, Value.int IntKind.u8 0, Value.int IntKind.u8 0, Value.int IntKind.u8 0, Value.int IntKind.u8 0, Value.int IntKind.u8 0, Value.int IntKind.u8 0, Value.int IntKind.u8 0, Value.int IntKind.u8 0]
@[go_sem] theorem Tryz.xze70 : Tryz.prog.zeroT 70 = some Tryz.z70 := by kernel_rfl
@[go_sem] theorem Tryz.zok70 : zeroOk Tryz.z70 = true := by kernel_rfl
@[go_sem] theorem Tryz.zlen70 : Tryz.z70.length = 135 := by kernel_rfl
@[go_sem] theorem Tryz.xfl70_0 : Tryz.prog.fldT 70 0 = some (0, 3) := by kernel_rfl
@[go_sem] theorem Tryz.xfl70_1 : Tryz.prog.fldT 70 1 = some (1, 3) := by kernel_rfl
@[go_sem] theorem Tryz.xfl70_2 : Tryz.prog.fldT 70 2 = some (2, 67) := by kernel_rfl
@[go_sem] theorem Tryz.xfl70_3 : Tryz.prog.fldT 70 3 = some (4, 4) := by kernel_rfl
@[go_sem] theorem Tryz.xfl70_4 : Tryz.prog.fldT 70 4 = some (5, 3) := by kernel_rfl
@[go_sem] theorem Tryz.xfl70_5 : Tryz.prog.fldT 70 5 = some (6, 3) := by kernel_rfl
@[go_sem] theorem Tryz.xfl70_6 : Tryz.prog.fldT 70 6 = some (7, 68) := by kernel_rfl
@[go_sem] theorem Tryz.xfl70_7 : Tryz.prog.fldT 70 7 = some (71, 68) := by kernel_rfl
@[go_sem] theorem Tryz.xsz71 : Tryz.prog.szT 71 = some 1 := by kernel_rfl
@[go_sem] theorem Tryz.xag71 : Tryz.prog.aggT 71 = some false := by kernel_rfl
@[go_sem] theorem Tryz.xel71 : Tryz.prog.elemT 71 = some 98 := by kernel_rfl
@[go_sem] theorem Tryz.xby71 : Tryz.prog.bytesT 71 = some 24 := by kernel_rfl
@[go_sem] theorem Tryz.xze71 : Tryz.prog.zeroT 71 = some [Value.slice none 0 0] := by kernel_rfl
@[go_sem] theorem Tryz.xsz72 : Tryz.prog.szT 72 = some 141 := by kernel_rfl
@[go_sem] theorem Tryz.xag72 : Tryz.prog.aggT 72 = some true := by kernel_rfl
@[go_sem] theorem Tryz.xel72 : Tryz.prog.elemT 72 = none := by kernel_rfl
@[go_sem] theorem Tryz.xby72 : Tryz.prog.bytesT 72 = some 256 := by kernel_rfl
@[go_sem] theorem Tryz.xpl72 : Tryz.prog.plT 72 = some [(0, 1), (1, 1), (2, 135), (137, 1), (138, 1), (139, 1), (140, 1)] := by kernel_rfl
def Tryz.z72 : List Value := [Value.string ⟨#[]⟩, Value.int IntKind.u64 0, Value.int IntKind.i64 0, Value.int IntKind.i64 0, Value.int IntKind.i64 0, Value.int IntKind.i64 0, Value.bool false, Value.int IntKind.i64 0, Value.int IntKind.i64 0, Value.int IntKind.u8 0, Value.int IntKind.u8 0, Value.int IntKind.u8 0, Value.int IntKind.u8 0, Value.int IntKind.u8 0, Value.int IntKind.u8 0, Value.int IntKind.u8 0, Value.int IntKind.u8 0, Value.int IntKind.u8 0, Value.int IntKind.u8 0, Value.int IntKind.u8 0, Value.int IntKind.u8 0, Value.int IntKind.u8 0, Value.int IntKind.u8 0, Value.int IntKind.u8 0, Value.int IntKind.u8 0, Value.int IntKind.u8 0, Value.int IntKind.u8 0, Value.int IntKind.u8 0, Value.int IntKind.u8 0, Value.int IntKind.u8 0, Value.int IntKind.u8 0, Value.int IntKind.u8 0, Value.int IntKind.u8 0, Value.int IntKind.u8 0, Value.int IntKind.u8 0, Value.int IntKind.u8 0, Value.int IntKind.u8 0, Value.int IntKind.u8 0, Value.int IntKind.u8 0, Value.int IntKind.u8 0, Value.int IntKind.u8 0, Value.int IntKind.u8 0, Value.int IntKind.u8 0, Value.int IntKind.u8 0, Value.int IntKind.u8 0, Value.int IntKind.u8 0, Value.int IntKind.u8 0, Value.int IntKind.u8 0, Value.int IntKind.u8 0, Value.int IntKind.u8 0, Value.int IntKind.u8 0, Value.int IntKind.u8 0, Value.int IntKind.u8 0, Value.int IntKind.u8 0, Value.int IntKind.u8 0, Value.int IntKind.u8 0, Value.int IntKind.u8 0, Value.int IntKind.u8 0, Value.int IntKind.u8 0, Value.int IntKind.u8 0, Value.int IntKind.u8 0, Value.int IntKind.u8 0, Value.int IntKind.u8 0, Value.int IntKind.u8 0, Value.int IntKind.u8 0, Value.int IntKind.u8 0, Value.int IntKind.u8 0, Value.int IntKind.u8 0, Value.int IntKind.u8 0, Value.int IntKind.u8 0, Value.int IntKind.u8 0, Value.int IntKind.u8 0, Value.int IntKind.u8 0, Value.int IntKind.u8 0, Value.int IntKind.u8 0, Value.int IntKind.u8 0, Value.int IntKind.u8 0, Value.int IntKind.u8 0, Value.int IntKind.u8 0, Value.int IntKind.u8 0, Value.int IntKind.u8 0, Value.int IntKind.u8 0, Value.int IntKind.u8 0, Value.int IntKind.u8 0, Value.int IntKind.u8 0, Value.int IntKind.u8 0, Value.int IntKind.u8 0, Value.int IntKind.u8 0, Value.int IntKind.u8 0, Value.int IntKind.u8 0, Value.int IntKind.u8 0, Value.int IntKind.u8 0, Value.int IntKind.u8 0, Value.int IntKind.u8 0, Value.int IntKind.u8 0, Value.int IntKind.u8 0, Value.int IntKind.u8 0, Value.int IntKind.u8 0, Value.int IntKind.u8 0, Value.int IntKind.u8 0, Value.int IntKind.u8 0, Value.int IntKind.u8 0, Value.int IntKind.u8 0, Value.int IntKind.u8 0, Value.int IntKind.u8 0, Value.int IntKind.u8 0, Value.int IntKind.u8 0, Value.int IntKind.u8 0, Value.int IntKind.u8 0, Value.int IntKind.u8 0, Value.int IntKind.u8 0, Value.int IntKind.u8 0, Value.int IntKind.u8 0, Value.int IntKind.u8 0, Value.int IntKind.u8 0, Value.int IntKind.u8 0, Value.int IntKind.u8 0, Value.int IntKind.u8 0, Value.int IntKind.u8 0, Value.int IntKind.u8 0, Value.int IntKind.u8 0, Value.int IntKind.u8 0, Value.int IntKind.u8 0, Value.int IntKind.u8 0, Value.int IntKind.u8 0, Value.int IntKind.u8 0, Value.int IntKind.u8 0, Value.int IntKind.u8 0, Value.int IntKind.u8 0, Value.int IntKind.u8 0, Value.int IntKind.u8 0, Value.int IntKind.u8 0, Value.int IntKind.u8 0, Value.int IntKind.u8 0, Value.int IntKind.u8 0, Value.int IntKind.u8 0, Value.int IntKind.u8 0, Value.int IntKind.i64 0, Value.int IntKind.i64 0, Value.int IntKind.i64 0, Value.slice none 0 0]
@[go_sem] theorem Tryz.xze72 : Tryz.prog.zeroT 72 = some Tryz.z72 := by kernel_rfl
@[go_sem] theorem Tryz.zok72 : zeroOk Tryz.z72 = true := by kernel_rfl
@[go_sem] theorem Tryz.zlen72 : Tryz.z72.length = 141 := by kernel_rfl
@[go_sem] theorem Tryz.xfl72_0 : Tryz.prog.fldT 72 0 = some (0, 9) := by kernel_rfl
@[go_sem] theorem Tryz.xfl72_1 : Tryz.prog.fldT 72 1 = some (1, 65) := by kernel_rfl
@[go_sem] theorem Tryz.xfl72_2 : Tryz.prog.fldT 72 2 = some (2, 70) := by kernel_rfl
@[go_sem] theorem Tryz.xfl72_3 : Tryz.prog.fldT 72 3 = some (137, 2) := by kernel_rfl
@[go_sem] theorem Tryz.xfl72_4 : Tryz.prog.fldT 72 4 = some (138, 3) := by kernel_rfl
@[go_sem] theorem Tryz.xfl72_5 : Tryz.prog.fldT 72 5 = some (139, 2) := by kernel_rfl
@[go_sem] theorem Tryz.xfl72_6 : Tryz.prog.fldT 72 6 = some (140, 71) := by kernel_rfl
@[go_sem] theorem Tryz.xsz73 : Tryz.prog.szT 73 = some 141 := by kernel_rfl
@[go_sem] theorem Tryz.xag73 : Tryz.prog.aggT 73 = some true := by kernel_rfl
@[go_sem] theorem Tryz.xel73 : Tryz.prog.elemT 73 = none := by kernel_rfl
@[go_sem] theorem Tryz.xby73 : Tryz.prog.bytesT 73 = some 256 := by kernel_rfl
@[go_sem] theorem Tryz.xpl73 : Tryz.prog.plT 73 = some [(0, 1), (1, 1), (2, 135), (137, 1), (138, 1), (139, 1), (140, 1)] := by kernel_rfl
def Tryz.z73 : List Value := [Value.string ⟨#[]⟩, Value.int IntKind.u64 0, Value.int IntKind.i64 0, Value.int IntKind.i64 0, Value.int IntKind.i64 0, Value.int IntKind.i64 0, Value.bool false, Value.int IntKind.i64 0, Value.int IntKind.i64 0, Value.int IntKind.u8 0, Value.int IntKind.u8 0, Value.int IntKind.u8 0, Value.int IntKind.u8 0, Value.int IntKind.u8 0, Value.int IntKind.u8 0, Value.int IntKind.u8 0, Value.int IntKind.u8 0, Value.int IntKind.u8 0, Value.int IntKind.u8 0, Value.int IntKind.u8 0, Value.int IntKind.u8 0, Value.int IntKind.u8 0, Value.int IntKind.u8 0, Value.int IntKind.u8 0, Value.int IntKind.u8 0, Value.int IntKind.u8 0, Value.int IntKind.u8 0, Value.int IntKind.u8 0, Value.int IntKind.u8 0, Value.int IntKind.u8 0, Value.int IntKind.u8 0, Value.int IntKind.u8 0, Value.int IntKind.u8 0, Value.int IntKind.u8 0, Value.int IntKind.u8 0, Value.int IntKind.u8 0, Value.int IntKind.u8 0, Value.int IntKind.u8 0, Value.int IntKind.u8 0, Value.int IntKind.u8 0, Value.int IntKind.u8 0, Value.int IntKind.u8 0, Value.int IntKind.u8 0, Value.int IntKind.u8 0, Value.int IntKind.u8 0, Value.int IntKind.u8 0, Value.int IntKind.u8 0, Value.int IntKind.u8 0, Value.int IntKind.u8 0, Value.int IntKind.u8 0, Value.int IntKind.u8 0, Value.int IntKind.u8 0, Value.int IntKind.u8 0, Value.int IntKind.u8 0, Value.int IntKind.u8 0, Value.int IntKind.u8 0, Value.int IntKind.u8 0, Value.int IntKind.u8 0, Value.int IntKind.u8 0, Value.int IntKind.u8 0, Value.int IntKind.u8 0, Value.int IntKind.u8 0, Value.int IntKind.u8 0, Value.int IntKind.u8 0, Value.int IntKind.u8 0, Value.int IntKind.u8 0, Value.int IntKind.u8 0, Value.int IntKind.u8 0, Value.int IntKind.u8 0, Value.int IntKind.u8 0, Value.int IntKind.u8 0, Value.int IntKind.u8 0, Value.int IntKind.u8 0, Value.int IntKind.u8 0, Value.int IntKind.u8 0, Value.int IntKind.u8 0, Value.int IntKind.u8 0, Value.int IntKind.u8 0, Value.int IntKind.u8 0, Value.int IntKind.u8 0, Value.int IntKind.u8 0, Value.int IntKind.u8 0, Value.int IntKind.u8 0, Value.int IntKind.u8 0, Value.int IntKind.u8 0, Value.int IntKind.u8 0, Value.int IntKind.u8 0, Value.int IntKind.u8 0, Value.int IntKind.u8 0, Value.int IntKind.u8 0, Value.int IntKind.u8 0, Value.int IntKind.u8 0, Value.int IntKind.u8 0, Value.int IntKind.u8 0, Value.int IntKind.u8 0, Value.int IntKind.u8 0, Value.int IntKind.u8 0, Value.int IntKind.u8 0, Value.int IntKind.u8 0, Value.int IntKind.u8 0, Value.int IntKind.u8 0, Value.int IntKind.u8 0, Value.int IntKind.u8 0, Value.int IntKind.u8 0, Value.int IntKind.u8 0, Value.int IntKind.u8 0, Value.int IntKind.u8 0, Value.int IntKind.u8 0, Value.int IntKind.u8 0, Value.int IntKind.u8 0, Value.int IntKind.u8 0, Value.int IntKind.u8 0, Value.int IntKind.u8 0, Value.int IntKind.u8 0, Value.int IntKind.u8 0, Value.int IntKind.u8 0, Value.int IntKind.u8 0, Value.int IntKind.u8 0, Value.int IntKind.u8 0, Value.int IntKind.u8 0, Value.int IntKind.u8 0, Value.int IntKind.u8 0, Value.int IntKind.u8 0, Value.int IntKind.u8 0, Value.int IntKind.u8 0, Value.int IntKind.u8 0, Value.int IntKind.u8 0, Value.int IntKind.u8 0, Value.int IntKind.u8 0, Value.int IntKind.u8 0, Value.int IntKind.u8 0, Value.int IntKind.u8 0, Value.int IntKind.u8 0, Value.int IntKind.u8 0, Value.int IntKind.u8 0, Value.int IntKind.u8 0, Value.int IntKind.u8 0, Value.int IntKind.i64 0, Value.int IntKind.i64 0, Value.int IntKind.i64 0, Value.slice none 0 0]
@[go_sem] theorem Tryz.xze73 : Tryz.prog.zeroT 73 = some Tryz.z73 := by kernel_rfl
@[go_sem] theorem Tryz.zok73 : zeroOk Tryz.z73 = true := by kernel_rfl
@[go_sem] theorem Tryz.zlen73 : Tryz.z73.length = 141 := by kernel_rfl
@[go_sem] theorem Tryz.xfl73_0 : Tryz.prog.fldT 73 0 = some (0, 9) := by kernel_rfl
@[go_sem] theorem Tryz.xfl73_1 : Tryz.prog.fldT 73 1 = some (1, 65) := by kernel_rfl
@[go_sem] theorem Tryz.xfl73_2 : Tryz.prog.fldT 73 2 = some (2, 70) := by kernel_rfl
@[go_sem] theorem Tryz.xfl73_3 : Tryz.prog.fldT 73 3 = some (137, 2) := by kernel_rfl
@[go_sem] theorem Tryz.xfl73_4 : Tryz.prog.fldT 73 4 = some (138, 3) := by kernel_rfl
@[go_sem] theorem Tryz.xfl73_5 : Tryz.prog.fldT 73 5 = some (139, 2) := by kernel_rfl
@[go_sem] theorem Tryz.xfl73_6 : Tryz.prog.fldT 73 6 = some (140, 71) := by kernel_rfl
@[go_sem] theorem Tryz.xsz74 : Tryz.prog.szT 74 = some 2 := by kernel_rfl
@[go_sem] theorem Tryz.xag74 : Tryz.prog.aggT 74 = some true := by kernel_rfl
@[go_sem] theorem Tryz.xel74 : Tryz.prog.elemT 74 = none := by kernel_rfl
@[go_sem] theorem Tryz.xby74 : Tryz.prog.bytesT 74 = some 32 := by kernel_rfl
@[go_sem] theorem Tryz.xpl74 : Tryz.prog.plT 74 = some [(0, 1), (1, 1)] := by kernel_rfl
@[go_sem] theorem Tryz.xze74 : Tryz.prog.zeroT 74 = some [Value.string ⟨#[]⟩, Value.string ⟨#[]⟩] := by kernel_rfl
@[go_sem] theorem Tryz.xzk74 : zeroOk [Value.string ⟨#[]⟩, Value.string ⟨#[]⟩] = true := by kernel_rfl
@[go_sem] theorem Tryz.xsz75 : Tryz.prog.szT 75 = some 1 := by kernel_rfl
@[go_sem] theorem Tryz.xag75 : Tryz.prog.aggT 75 = some false := by kernel_rfl
@[go_sem] theorem Tryz.xel75 : Tryz.prog.elemT 75 = some 74 := by kernel_rfl
@[go_sem] theorem Tryz.xby75 : Tryz.prog.bytesT 75 = some 24 := by kernel_rfl
@[go_sem] theorem Tryz.xze75 : Tryz.prog.zeroT 75 = some [Value.slice none 0 0] := by kernel_rfl
@[go_sem] theorem Tryz.xsz76 : Tryz.prog.szT 76 = some 1 := by kernel_rfl
@[go_sem] theorem Tryz.xag76 : Tryz.prog.aggT 76 = some false := by kernel_rfl
@[go_sem] theorem Tryz.xel76 : Tryz.prog.elemT 76 = none := by kernel_rfl
@[go_sem] theorem Tryz.xby76 : Tryz.prog.bytesT 76 = some 0 := by kernel_rfl
@[go_sem] theorem Tryz.xsz77 : Tryz.prog.szT 77 = some 1 := by kernel_rfl
@[go_sem] theorem Tryz.xag77 : Tryz.prog.aggT 77 = some false := by kernel_rfl
@[go_sem] theorem Tryz.xel77 : Tryz.prog.elemT 77 = none := by kernel_rfl
@[go_sem] theorem Tryz.xby77 : Tryz.prog.bytesT 77 = some 8 := by kernel_rfl
@[go_sem] theorem Tryz.xze77 : Tryz.prog.zeroT 77 = some [Value.nilFunc] := by kernel_rfl
@[go_sem] theorem Tryz.xsz78 : Tryz.prog.szT 78 = some 1 := by kernel_rfl
@[go_sem] theorem Tryz.xag78 : Tryz.prog.aggT 78 = some false := by kernel_rfl
@[go_sem] theorem Tryz.xel78 : Tryz.prog.elemT 78 = none := by kernel_rfl
@[go_sem] theorem Tryz.xby78 : Tryz.prog.bytesT 78 = some 8 := by kernel_rfl
@[go_sem] theorem Tryz.xze78 : Tryz.prog.zeroT 78 = some [Value.nilFunc] := by kernel_rfl
@[go_sem] theorem Tryz.xsz79 : Tryz.prog.szT 79 = some 1 := by kernel_rfl
@[go_sem] theorem Tryz.xag79 : Tryz.prog.aggT 79 = some false := by kernel_rfl
@[go_sem] theorem Tryz.xel79 : Tryz.prog.elemT 79 = none := by kernel_rfl
@[go_sem] theorem Tryz.xby79 : Tryz.prog.bytesT 79 = some 8 := by kernel_rfl
@[go_sem] theorem Tryz.xze79 : Tryz.prog.zeroT 79 = some [Value.nilFunc] := by kernel_rfl
@[go_sem] theorem Tryz.xsz80 : Tryz.prog.szT 80 = some 1 := by kernel_rfl
@[go_sem] theorem Tryz.xag80 : Tryz.prog.aggT 80 = some false := by kernel_rfl
@[go_sem] theorem Tryz.xel80 : Tryz.prog.elemT 80 = none := by kernel_rfl
@[go_sem] theorem Tryz.xby80 : Tryz.prog.bytesT 80 = some 8 := by kernel_rfl
@[go_sem] theorem Tryz.xze80 : Tryz.prog.zeroT 80 = some [Value.nilFunc] := by kernel_rfl
@[go_sem] theorem Tryz.xsz81 : Tryz.prog.szT 81 = some 1 := by kernel_rfl
@[go_sem] theorem Tryz.xag81 : Tryz.prog.aggT 81 = some false := by kernel_rfl
@[go_sem] theorem Tryz.xel81 : Tryz.prog.elemT 81 = none := by kernel_rfl
@[go_sem] theorem Tryz.xby81 : Tryz.prog.bytesT 81 = some 8 := by kernel_rfl
@[go_sem] theorem Tryz.xze81 : Tryz.prog.zeroT 81 = some [Value.nilFunc] := by kernel_rfl
@[go_sem] theorem Tryz.xsz82 : Tryz.prog.szT 82 = some 1 := by kernel_rfl
@[go_sem] theorem Tryz.xag82 : Tryz.prog.aggT 82 = some false := by kernel_rfl
@[go_sem] theorem Tryz.xel82 : Tryz.prog.elemT 82 = none := by kernel_rfl
@[go_sem] theorem Tryz.xby82 : Tryz.prog.bytesT 82 = some 8 := by kernel_rfl
@[go_sem] theorem Tryz.xze82 : Tryz.prog.zeroT 82 = some [Value.nilFunc] := by kernel_rfl
@[go_sem] theorem Tryz.xsz83 : Tryz.prog.szT 83 = some 1 := by kernel_rfl
@[go_sem] theorem Tryz.xag83 : Tryz.prog.aggT 83 = some false := by kernel_rfl
@[go_sem] theorem Tryz.xel83 : Tryz.prog.elemT 83 = none := by kernel_rfl
@[go_sem] theorem Tryz.xby83 : Tryz.prog.bytesT 83 = some 8 := by kernel_rfl
@[go_sem] theorem Tryz.xze83 : Tryz.prog.zeroT 83 = some [Value.nilFunc] := by kernel_rfl
@[go_sem] theorem Tryz.xsz84 : Tryz.prog.szT 84 = some 1 := by kernel_rfl
@[go_sem] theorem Tryz.xag84 : Tryz.prog.aggT 84 = some false := by kernel_rfl
@[go_sem] theorem Tryz.xel84 : Tryz.prog.elemT 84 = none := by kernel_rfl
@[go_sem] theorem Tryz.xby84 : Tryz.prog.bytesT 84 = some 8 := by kernel_rfl
@[go_sem] theorem Tryz.xze84 : Tryz.prog.zeroT 84 = some [Value.nilFunc] := by kernel_rfl
@[go_sem] theorem Tryz.xsz85 : Tryz.prog.szT 85 = some 1 := by kernel_rfl
@[go_sem] theorem Tryz.xag85 : Tryz.prog.aggT 85 = some false := by kernel_rfl
@[go_sem] theorem Tryz.xel85 : Tryz.prog.elemT 85 = none := by kernel_rfl
@[go_sem] theorem Tryz.xby85 : Tryz.prog.bytesT 85 = some 8 := by kernel_rfl
@[go_sem] theorem Tryz.xze85 : Tryz.prog.zeroT 85 = some [Value.nilFunc] := by kernel_rfl
@[go_sem] theorem Tryz.xsz86 : Tryz.prog.szT 86 = some 1 := by kernel_rfl
@[go_sem] theorem Tryz.xag86 : Tryz.prog.aggT 86 = some false := by kernel_rfl
@[go_sem] theorem Tryz.xel86 : Tryz.prog.elemT 86 = none := by kernel_rfl
@[go_sem] theorem Tryz.xby86 : Tryz.prog.bytesT 86 = some 8 := by kernel_rfl
@[go_sem] theorem Tryz.xze86 : Tryz.prog.zeroT 86 = some [Value.nilFunc] := by kernel_rfl
@[go_sem] theorem Tryz.xsz87 : Tryz.prog.szT 87 = some 1 := by kernel_rfl
@[go_sem] theorem Tryz.xag87 : Tryz.prog.aggT 87 = some false := by kernel_rfl
@[go_sem] theorem Tryz.xel87 : Tryz.prog.elemT 87 = some 95 := by kernel_rfl
@[go_sem] theorem Tryz.xby87 : Tryz.prog.bytesT 87 = some 24 := by kernel_rfl
@[go_sem] theorem Tryz.xze87 : Tryz.prog.zeroT 87 = some [Value.slice none 0 0] := by kernel_rfl
@[go_sem] theorem Tryz.xsz88 : Tryz.prog.szT 88 = some 1 := by kernel_rfl
@[go_sem] theorem Tryz.xag88 : Tryz.prog.aggT 88 = some false := by kernel_rfl
@[go_sem] theorem Tryz.xel88 : Tryz.prog.elemT 88 = none := by kernel_rfl
@[go_sem] theorem Tryz.xby88 : Tryz.prog.bytesT 88 = some 8 := by kernel_rfl
@[go_sem] theorem Tryz.xze88 : Tryz.prog.zeroT 88 = some [Value.nilFunc] := by kernel_rfl
@[go_sem] theorem Tryz.xsz89 : Tryz.prog.szT 89 = some 1 := by kernel_rfl
@[go_sem] theorem Tryz.xag89 : Tryz.prog.aggT 89 = some false := by kernel_rfl
@[go_sem] theorem Tryz.xel89 : Tryz.prog.elemT 89 = none := by kernel_rfl
@[go_sem] theorem Tryz.xby89 : Tryz.prog.bytesT 89 = some 8 := by kernel_rfl
@[go_sem] theorem Tryz.xze89 : Tryz.prog.zeroT 89 = some [Value.nilFunc] := by kernel_rfl
@[go_sem] theorem Tryz.xsz90 : Tryz.prog.szT 90 = some 1 := by kernel_rfl
@[go_sem] theorem Tryz.xag90 : Tryz.prog.aggT 90 = some false := by kernel_rfl
@[go_sem] theorem Tryz.xel90 : Tryz.prog.elemT 90 = none := by kernel_rfl
@[go_sem] theorem Tryz.xby90 : Tryz.prog.bytesT 90 = some 0 := by kernel_rfl
@[go_sem] theorem Tryz.xsz91 : Tryz.prog.szT 91 = some 1 := by kernel_rfl
@[go_sem] theorem Tryz.xag91 : Tryz.prog.aggT 91 = some false := by kernel_rfl
@[go_sem] theorem Tryz.xel91 : Tryz.prog.elemT 91 = none := by kernel_rfl
@[go_sem] theorem Tryz.xby91 : Tryz.prog.bytesT 91 = some 8 := by kernel_rfl
@[go_sem] theorem Tryz.xze91 : Tryz.prog.zeroT 91 = some [Value.nilFunc] := by kernel_rfl
@[go_sem] theorem Tryz.xsz92 : Tryz.prog.szT 92 = some 9 := by kernel_rfl
@[go_sem] theorem Tryz.xag92 : Tryz.prog.aggT 92 = some true := by kernel_rfl
@[go_sem] theorem Tryz.xel92 : Tryz.prog.elemT 92 = none := by kernel_rfl
@[go_sem] theorem Tryz.xby92 : Tryz.prog.bytesT 92 = some 128 := by kernel_rfl
@[go_sem] theorem Tryz.xpl92 : Tryz.prog.plT 92 = some [(0, 1), (1, 2), (3, 1), (4, 1), (5, 1), (6, 1), (7, 1), (8, 1)] := by kernel_rfl
@[go_sem] theorem Tryz.xze92 : Tryz.prog.zeroT 92 = some [Value.string ⟨#[]⟩, Value.int IntKind.i64 0, Value.int IntKind.i64 0, Value.int IntKind.i64 0, Value.int IntKind.i64 0, Value.slice none 0 0, Value.slice none 0 0, Value.slice none 0 0, Value.int IntKind.i64 0] := by kernel_rfl
@[go_sem] theorem Tryz.xzk92 : zeroOk [Value.string ⟨#[]⟩, Value.int IntKind.i64 0, Value.int IntKind.i64 0, Value.int IntKind.i64 0, Value.int IntKind.i64 0, Value.slice none 0 0, Value.slice none 0 0, Value.slice none 0 0, Value.int IntKind.i64 0] = true := by kernel_rfl
@[go_sem] theorem Tryz.xfl92_0 : Tryz.prog.fldT 92 0 = some (0, 9) := by kernel_rfl
@[go_sem] theorem Tryz.xfl92_1 : Tryz.prog.fldT 92 1 = some (1, 67) := by kernel_rfl
@[go_sem] theorem Tryz.xfl92_2 : Tryz.prog.fldT 92 2 = some (3, 3) := by kernel_rfl
@[go_sem] theorem Tryz.xfl92_3 : Tryz.prog.fldT 92 3 = some (4, 3) := by kernel_rfl
@[go_sem] theorem Tryz.xfl92_4 : Tryz.prog.fldT 92 4 = some (5, 49) := by kernel_rfl
@[go_sem] theorem Tryz.xfl92_5 : Tryz.prog.fldT 92 5 = some (6, 49) := by kernel_rfl
@[go_sem] theorem Tryz.xfl92_6 : Tryz.prog.fldT 92 6 = some (7, 71) := by kernel_rfl
@[go_sem] theorem Tryz.xfl92_7 : Tryz.prog.fldT 92 7 = some (8, 3) := by kernel_rfl
@[go_sem] theorem Tryz.xsz93 : Tryz.prog.szT 93 = some 9 := by kernel_rfl
@[go_sem] theorem Tryz.xag93 : Tryz.prog.aggT 93 = some true := by kernel_rfl
@[go_sem] theorem Tryz.xel93 : Tryz.prog.elemT 93 = none := by kernel_rfl
@[go_sem] theorem Tryz.xby93 : Tryz.prog.bytesT 93 = some 128 := by kernel_rfl
@[go_sem] theorem Tryz.xpl93 : Tryz.prog.plT 93 = some [(0, 1), (1, 2), (3, 1), (4, 1), (5, 1), (6, 1), (7, 1), (8, 1)] := by kernel_rfl
@[go_sem] theorem Tryz.xze93 : Tryz.prog.zeroT 93 = some [Value.string ⟨#[]⟩, Value.int IntKind.i64 0, Value.int IntKind.i64 0, Value.int IntKind.i64 0, Value.int IntKind.i64 0, Value.slice none 0 0, Value.slice none 0 0, Value.slice none 0 0, Value.int IntKind.i64 0] := by kernel_rfl
@[go_sem] theorem Tryz.xfl93_0 : Tryz.prog.fldT 93 0 = some (0, 9) := by kernel_rfl
@[go_sem] theorem Tryz.xfl93_1 : Tryz.prog.fldT 93 1 = some (1, 67) := by kernel_rfl
@[go_sem] theorem Tryz.xfl93_2 : Tryz.prog.fldT 93 2 = some (3, 3) := by kernel_rfl
@[go_sem] theorem Tryz.xfl93_3 : Tryz.prog.fldT 93 3 = some (4, 3) := by kernel_rfl
@[go_sem] theorem Tryz.xfl93_4 : Tryz.prog.fldT 93 4 = some (5, 49) := by kernel_rfl
@[go_sem] theorem Tryz.xfl93_5 : Tryz.prog.fldT 93 5 = some (6, 49) := by kernel_rfl
@[go_sem] theorem Tryz.xfl93_6 : Tryz.prog.fldT 93 6 = some (7, 71) := by kernel_rfl
@[go_sem] theorem Tryz.xfl93_7 : Tryz.prog.fldT 93 7 = some (8, 3) := by kernel_rfl
@[go_sem] theorem Tryz.xsz94 : Tryz.prog.szT 94 = some 4 := by kernel_rfl
@[go_sem] theorem Tryz.xag94 : Tryz.prog.aggT 94 = some true := by kernel_rfl
@[go_sem] theorem Tryz.xel94 : Tryz.prog.elemT 94 = none := by kernel_rfl
@[go_sem] theorem Tryz.xby94 : Tryz.prog.bytesT 94 = some 40 := by kernel_rfl
@[go_sem] theorem Tryz.xpl94 : Tryz.prog.plT 94 = some [(0, 1), (1, 1), (2, 1), (3, 1)] := by kernel_rfl
@[go_sem] theorem Tryz.xze94 : Tryz.prog.zeroT 94 = some [Value.string ⟨#[]⟩, Value.int IntKind.i64 0, Value.int IntKind.i64 0, Value.int IntKind.i64 0] := by kernel_rfl
@[go_sem] theorem Tryz.xzk94 : zeroOk [Value.string ⟨#[]⟩, Value.int IntKind.i64 0, Value.int IntKind.i64 0, Value.int IntKind.i64 0] = true := by kernel_rfl
@[go_sem] theorem Tryz.xfl94_0 : Tryz.prog.fldT 94 0 = some (0, 9) := by kernel_rfl
@[go_sem] theorem Tryz.xfl94_1 : Tryz.prog.fldT 94 1 = some (1, 2) := by kernel_rfl
@[go_sem] theorem Tryz.xfl94_2 : Tryz.prog.fldT 94 2 = some (2, 2) := by kernel_rfl
@[go_sem] theorem Tryz.xfl94_3 : Tryz.prog.fldT 94 3 = some (3, 2) := by kernel_rfl
@[go_sem] theorem Tryz.xsz95 : Tryz.prog.szT 95 = some 4 := by kernel_rfl
@[go_sem] theorem Tryz.xag95 : Tryz.prog.aggT 95 = some true := by kernel_rfl
@[go_sem] theorem Tryz.xel95 : Tryz.prog.elemT 95 = none := by kernel_rfl
@[go_sem] theorem Tryz.xby95 : Tryz.prog.bytesT 95 = some 40 := by kernel_rfl
@[go_sem] theorem Tryz.xpl95 : Tryz.prog.plT 95 = some [(0, 1), (1, 1), (2, 1), (3, 1)] := by kernel_rfl
@[go_sem] theorem Tryz.xze95 : Tryz.prog.zeroT 95 = some [Value.string ⟨#[]⟩, Value.int IntKind.i64 0, Value.int IntKind.i64 0, Value.int IntKind.i64 0] := by kernel_rfl
@[go_sem] theorem Tryz.xfl95_0 : Tryz.prog.fldT 95 0 = some (0, 9) := by kernel_rfl
@[go_sem] theorem Tryz.xfl95_1 : Tryz.prog.fldT 95 1 = some (1, 2) := by kernel_rfl
@[go_sem] theorem Tryz.xfl95_2 : Tryz.prog.fldT 95 2 = some (2, 2) := by kernel_rfl
@[go_sem] theorem Tryz.xfl95_3 : Tryz.prog.fldT 95 3 = some (3, 2) := by kernel_rfl
@[go_sem] theorem Tryz.xsz96 : Tryz.prog.szT 96 = some 1 := by kernel_rfl
@[go_sem] theorem Tryz.xag96 : Tryz.prog.aggT 96 = some false := by kernel_rfl
@[go_sem] theorem Tryz.xel96 : Tryz.prog.elemT 96 = some 67 := by kernel_rfl
@[go_sem] theorem Tryz.xby96 : Tryz.prog.bytesT 96 = some 24 := by kernel_rfl
@[go_sem] theorem Tryz.xze96 : Tryz.prog.zeroT 96 = some [Value.slice none 0 0] := by kernel_rfl
@[go_sem] theorem Tryz.xsz97 : Tryz.prog.szT 97 = some 3 := by kernel_rfl
@[go_sem] theorem Tryz.xag97 : Tryz.prog.aggT 97 = some true := by kernel_rfl
@[go_sem] theorem Tryz.xel97 : Tryz.prog.elemT 97 = none := by kernel_rfl
@[go_sem] theorem Tryz.xby97 : Tryz.prog.bytesT 97 = some 40 := by kernel_rfl
@[go_sem] theorem Tryz.xpl97 : Tryz.prog.plT 97 = some [(0, 1), (1, 1), (2, 1)] := by kernel_rfl
@[go_sem] theorem Tryz.xze97 : Tryz.prog.zeroT 97 = some [Value.int IntKind.i64 0, Value.int IntKind.i64 0, Value.slice none 0 0] := by kernel_rfl
@[go_sem] theorem Tryz.xzk97 : zeroOk [Value.int IntKind.i64 0, Value.int IntKind.i64 0, Value.slice none 0 0] = true := by kernel_rfl
@[go_sem] theorem Tryz.xfl97_0 : Tryz.prog.fldT 97 0 = some (0, 2) := by kernel_rfl
@[go_sem] theorem Tryz.xfl97_1 : Tryz.prog.fldT 97 1 = some (1, 2) := by kernel_rfl
@[go_sem] theorem Tryz.xfl97_2 : Tryz.prog.fldT 97 2 = some (2, 54) := by kernel_rfl
@[go_sem] theorem Tryz.xsz98 : Tryz.prog.szT 98 = some 3 := by kernel_rfl
@[go_sem] theorem Tryz.xag98 : Tryz.prog.aggT 98 = some true := by kernel_rfl
@[go_sem] theorem Tryz.xel98 : Tryz.prog.elemT 98 = none := by kernel_rfl
@[go_sem] theorem Tryz.xby98 : Tryz.prog.bytesT 98 = some 40 := by kernel_rfl
@[go_sem] theorem Tryz.xpl98 : Tryz.prog.plT 98 = some [(0, 1), (1, 1), (2, 1)] := by kernel_rfl
@[go_sem] theorem Tryz.xze98 : Tryz.prog.zeroT 98 = some [Value.int IntKind.i64 0, Value.int IntKind.i64 0, Value.slice none 0 0] := by kernel_rfl
@[go_sem] theorem Tryz.xfl98_0 : Tryz.prog.fldT 98 0 = some (0, 2) := by kernel_rfl
@[go_sem] theorem Tryz.xfl98_1 : Tryz.prog.fldT 98 1 = some (1, 2) := by kernel_rfl
@[go_sem] theorem Tryz.xfl98_2 : Tryz.prog.fldT 98 2 = some (2, 54) := by kernel_rfl
@[go_sem] theorem Tryz.xsz99 : Tryz.prog.szT 99 = some 1 := by kernel_rfl
@[go_sem] theorem Tryz.xag99 : Tryz.prog.aggT 99 = some false := by kernel_rfl
@[go_sem] theorem Tryz.xel99 : Tryz.prog.elemT 99 = none := by kernel_rfl
@[go_sem] theorem Tryz.xby99 : Tryz.prog.bytesT 99 = some 8 := by kernel_rfl
@[go_sem] theorem Tryz.xze99 : Tryz.prog.zeroT 99 = some [Value.nilFunc] := by kernel_rfl
@[go_sem] theorem Tryz.xsz100 : Tryz.prog.szT 100 = some 1 := by kernel_rfl
@[go_sem] theorem Tryz.xag100 : Tryz.prog.aggT 100 = some false := by kernel_rfl
@[go_sem] theorem Tryz.xel100 : Tryz.prog.elemT 100 = none := by kernel_rfl
@[go_sem] theorem Tryz.xby100 : Tryz.prog.bytesT 100 = some 8 := by kernel_rfl
@[go_sem] theorem Tryz.xze100 : Tryz.prog.zeroT 100 = some [Value.nilFunc] := by kernel_rfl
@[go_sem] theorem Tryz.xsz101 : Tryz.prog.szT 101 = some 7 := by kernel_rfl
@[go_sem] theorem Tryz.xag101 : Tryz.prog.aggT 101 = some true := by kernel_rfl
@[go_sem] theorem Tryz.xel101 : Tryz.prog.elemT 101 = none := by kernel_rfl
@[go_sem] theorem Tryz.xby101 : Tryz.prog.bytesT 101 = some 64 := by kernel_rfl
@[go_sem] theorem Tryz.xpl101 : Tryz.prog.plT 101 = some [(0, 1), (1, 1), (2, 2), (4, 2), (6, 1)] := by kernel_rfl
@[go_sem] theorem Tryz.xze101 : Tryz.prog.zeroT 101 = some [Value.int IntKind.i64 0, Value.string ⟨#[]⟩, Value.int IntKind.i64 0, Value.int IntKind.i64 0, Value.int IntKind.i64 0, Value.int IntKind.i64 0, Value.bool false] := by kernel_rfl
@[go_sem] theorem Tryz.xzk101 : zeroOk [Value.int IntKind.i64 0, Value.string ⟨#[]⟩, Value.int IntKind.i64 0, Value.int IntKind.i64 0, Value.int IntKind.i64 0, Value.int IntKind.i64 0, Value.bool false] = true := by kernel_rfl
@[go_sem] theorem Tryz.xfl101_0 : Tryz.prog.fldT 101 0 = some (0, 3) := by kernel_rfl
@[go_sem] theorem Tryz.xfl101_1 : Tryz.prog.fldT 101 1 = some (1, 9) := by kernel_rfl
@[go_sem] theorem Tryz.xfl101_2 : Tryz.prog.fldT 101 2 = some (2, 67) := by kernel_rfl
@[go_sem] theorem Tryz.xfl101_3 : Tryz.prog.fldT 101 3 = some (4, 67) := by kernel_rfl
@[go_sem] theorem Tryz.xfl101_4 : Tryz.prog.fldT 101 4 = some (6, 4) := by kernel_rfl
@[go_sem] theorem Tryz.xsz102 : Tryz.prog.szT 102 = some 7 := by kernel_rfl
@[go_sem] theorem Tryz.xag102 : Tryz.prog.aggT 102 = some true := by kernel_rfl
@[go_sem] theorem Tryz.xel102 : Tryz.prog.elemT 102 = none := by kernel_rfl
@[go_sem] theorem Tryz.xby102 : Tryz.prog.bytesT 102 = some 64 := by kernel_rfl
@[go_sem] theorem Tryz.xpl102 : Tryz.prog.plT 102 = some [(0, 1), (1, 1), (2, 2), (4, 2), (6, 1)] := by kernel_rfl
@[go_sem] theorem Tryz.xze102 : Tryz.prog.zeroT 102 = some [Value.int IntKind.i64 0, Value.string ⟨#[]⟩, Value.int IntKind.i64 0, Value.int IntKind.i64 0, Value.int IntKind.i64 0, Value.int IntKind.i64 0, Value.bool false] := by kernel_rfl
@[go_sem] theorem Tryz.xfl102_0 : Tryz.prog.fldT 102 0 = some (0, 3) := by kernel_rfl
@[go_sem] theorem Tryz.xfl102_1 : Tryz.prog.fldT 102 1 = some (1, 9) := by kernel_rfl
@[go_sem] theorem Tryz.xfl102_2 : Tryz.prog.fldT 102 2 = some (2, 67) := by kernel_rfl
@[go_sem] theorem Tryz.xfl102_3 : Tryz.prog.fldT 102 3 = some (4, 67) := by kernel_rfl
@[go_sem] theorem Tryz.xfl102_4 : Tryz.prog.fldT 102 4 = some (6, 4) := by kernel_rfl
@[go_sem] theorem Tryz.xsz103 : Tryz.prog.szT 103 = some 22 := by kernel_rfl
@[go_sem] theorem Tryz.xag103 : Tryz.prog.aggT 103 = some true := by kernel_rfl
@[go_sem] theorem Tryz.xel103 : Tryz.prog.elemT 103 = none := by kernel_rfl
@[go_sem] theorem Tryz.xby103 : Tryz.prog.bytesT 103 = some 216 := by kernel_rfl
@[go_sem] theorem Tryz.xpl103 : Tryz.prog.plT 103 = some [(0, 1), (1, 1), (2, 7), (9, 7), (16, 1), (17, 1), (18, 1), (19, 1), (20, 1), (21, 1)] := by kernel_rfl
@[go_sem] theorem Tryz.xze103 : Tryz.prog.zeroT 103 = some [Value.int IntKind.i64 0, Value.int IntKind.i64 0, Value.int IntKind.i64 0, Value.string ⟨#[]⟩, Value.int IntKind.i64 0, Value.int IntKind.i64 0, Value.int IntKind.i64 0, Value.int IntKind.i64 0, Value.bool false, Value.int IntKind.i64 0, Value.string ⟨#[]⟩, Value.int IntKind.i64 0, Value.int IntKind.i64 0, Value.int IntKind.i64 0, Value.int IntKind.i64 0, Value.bool false, Value.int IntKind.i64 0, Value.int IntKind.i64 0, Value.int IntKind.i64 0, Value.string ⟨#[]⟩, Value.int IntKind.i64 0, Value.slice none 0 0] := by kernel_rfl
@[go_sem] theorem Tryz.xzk103 : zeroOk [Value.int IntKind.i64 0, Value.int IntKind.i64 0, Value.int IntKind.i64 0, Value.string ⟨#[]⟩, Value.int IntKind.i64 0, Value.int IntKind.i64 0, Value.int IntKind.i64 0, Value.int IntKind.i64 0, Value.bool false, Value.int IntKind.i64 0, Value.string ⟨#[]⟩, Value.int IntKind.i64 0, Value.int IntKind.i64 0, Value.int IntKind.i64 0, Value.int IntKind.i64 0, Value.bool false, Value.int IntKind.i64 0, Value.int IntKind.i64 0, Value.int IntKind.i64 0, Value.string ⟨#[]⟩, Value.int IntKind.i64 0, Value.slice none 0 0] = true := by kernel_rfl
@[go_sem] theorem Tryz.xfl103_0 : Tryz.prog.fldT 103 0 = some (0, 2) := by kernel_rfl
@[go_sem] theorem Tryz.xfl103_1 : Tryz.prog.fldT 103 1 = some (1, 3) := by kernel_rfl
@[go_sem] theorem Tryz.xfl103_2 : Tryz.prog.fldT 103 2 = some (2, 102) := by kernel_rfl
@[go_sem] theorem Tryz.xfl103_3 : Tryz.prog.fldT 103 3 = some (9, 102) := by kernel_rfl
@[go_sem] theorem Tryz.xfl103_4 : Tryz.prog.fldT 103 4 = some (16, 2) := by kernel_rfl
@[go_sem] theorem Tryz.xfl103_5 : Tryz.prog.fldT 103 5 = some (17, 2) := by kernel_rfl
@[go_sem] theorem Tryz.xfl103_6 : Tryz.prog.fldT 103 6 = some (18, 3) := by kernel_rfl
@[go_sem] theorem Tryz.xfl103_7 : Tryz.prog.fldT 103 7 = some (19, 9) := by kernel_rfl
@[go_sem] theorem Tryz.xfl103_8 : Tryz.prog.fldT 103 8 = some (20, 3) := by kernel_rfl
@[go_sem] theorem Tryz.xfl103_9 : Tryz.prog.fldT 103 9 = some (21, 25) := by kernel_rfl
@[go_sem] theorem Tryz.xsz104 : Tryz.prog.szT 104 = some 22 := by kernel_rfl
@[go_sem] theorem Tryz.xag104 : Tryz.prog.aggT 104 = some true := by kernel_rfl
@[go_sem] theorem Tryz.xel104 : Tryz.prog.elemT 104 = none := by kernel_rfl
@[go_sem] theorem Tryz.xby104 : Tryz.prog.bytesT 104 = some 216 := by kernel_rfl
@[go_sem] theorem Tryz.xpl104 : Tryz.prog.plT 104 = some [(0, 1), (1, 1), (2, 7), (9, 7), (16, 1), (17, 1), (18, 1), (19, 1), (20, 1), (21, 1)] := by kernel_rfl
@[go_sem] theorem Tryz.xze104 : Tryz.prog.zeroT 104 = some [Value.int IntKind.i64 0, Value.int IntKind.i64 0, Value.int IntKind.i64 0, Value.string ⟨#[]⟩, Value.int IntKind.i64 0, Value.int IntKind.i64 0, Value.int IntKind.i64 0, Value.int IntKind.i64 0, Value.bool false, Value.int IntKind.i64 0, Value.string ⟨#[]⟩, Value.int IntKind.i64 0, Value.int IntKind.i64 0, Value.int IntKind.i64 0, Value.int IntKind.i64 0, Value.bool false, Value.int IntKind.i64 0, Value.int IntKind.i64 0, Value.int IntKind.i64 0, Value.string ⟨#[]⟩, Value.int IntKind.i64 0, Value.slice none 0 0] := by kernel_rfl
@[go_sem] theorem Tryz.xfl104_0 : Tryz.prog.fldT 104 0 = some (0, 2) := by kernel_rfl
@[go_sem] theorem Tryz.xfl104_1 : Tryz.prog.fldT 104 1 = some (1, 3) := by kernel_rfl
@[go_sem] theorem Tryz.xfl104_2 : Tryz.prog.fldT 104 2 = some (2, 102) := by kernel_rfl
@[go_sem] theorem Tryz.xfl104_3 : Tryz.prog.fldT 104 3 = some (9, 102) := by kernel_rfl
@[go_sem] theorem Tryz.xfl104_4 : Tryz.prog.fldT 104 4 = some (16, 2) := by kernel_rfl
@[go_sem] theorem Tryz.xfl104_5 : Tryz.prog.fldT 104 5 = some (17, 2) := by kernel_rfl
@[go_sem] theorem Tryz.xfl104_6 : Tryz.prog.fldT 104 6 = some (18, 3) := by kernel_rfl
@[go_sem] theorem Tryz.xfl104_7 : Tryz.prog.fldT 104 7 = some (19, 9) := by kernel_rfl
@[go_sem] theorem Tryz.xfl104_8 : Tryz.prog.fldT 104 8 = some (20, 3) := by kernel_rfl
@[go_sem] theorem Tryz.xfl104_9 : Tryz.prog.fldT 104 9 = some (21, 25) := by kernel_rfl
@[go_sem] theorem Tryz.xsz105 : Tryz.prog.szT 105 = some 1 := by kernel_rfl
@[go_sem] theorem Tryz.xag105 : Tryz.prog.aggT 105 = some false := by kernel_rfl
@[go_sem] theorem Tryz.xel105 : Tryz.prog.elemT 105 = none := by kernel_rfl
@[go_sem] theorem Tryz.xby105 : Tryz.prog.bytesT 105 = some 8 := by kernel_rfl
@[go_sem] theorem Tryz.xze105 : Tryz.prog.zeroT 105 = some [Value.nilFunc] := by kernel_rfl
@[go_sem] theorem Tryz.xsz106 : Tryz.prog.szT 106 = some 1 := by kernel_rfl
@[go_sem] theorem Tryz.xag106 : Tryz.prog.aggT 106 = some false := by kernel_rfl
@[go_sem] theorem Tryz.xel106 : Tryz.prog.elemT 106 = none := by kernel_rfl
@[go_sem] theorem Tryz.xby106 : Tryz.prog.bytesT 106 = some 8 := by kernel_rfl
@[go_sem] theorem Tryz.xze106 : Tryz.prog.zeroT 106 = some [Value.nilFunc] := by kernel_rfl
@[go_sem] theorem Tryz.xsz107 : Tryz.prog.szT 107 = some 1 := by kernel_rfl
@[go_sem] theorem Tryz.xag107 : Tryz.prog.aggT 107 = some false := by kernel_rfl
@[go_sem] theorem Tryz.xel107 : Tryz.prog.elemT 107 = none := by kernel_rfl
@[go_sem] theorem Tryz.xby107 : Tryz.prog.bytesT 107 = some 8 := by kernel_rfl
@[go_sem] theorem Tryz.xze107 : Tryz.prog.zeroT 107 = some [Value.nilFunc] := by kernel_rfl
@[go_sem] theorem Tryz.xsz108 : Tryz.prog.szT 108 = some 1 := by kernel_rfl
@[go_sem] theorem Tryz.xag108 : Tryz.prog.aggT 108 = some false := by kernel_rfl
@[go_sem] theorem Tryz.xel108 : Tryz.prog.elemT 108 = none := by kernel_rfl
@[go_sem] theorem Tryz.xby108 : Tryz.prog.bytesT 108 = some 8 := by kernel_rfl
@[go_sem] theorem Tryz.xze108 : Tryz.prog.zeroT 108 = some [Value.nilFunc] := by kernel_rfl
@[go_sem] theorem Tryz.xsz109 : Tryz.prog.szT 109 = some 1 := by kernel_rfl
@[go_sem] theorem Tryz.xag109 : Tryz.prog.aggT 109 = some false := by kernel_rfl
@[go_sem] theorem Tryz.xel109 : Tryz.prog.elemT 109 = none := by kernel_rfl
@[go_sem] theorem Tryz.xby109 : Tryz.prog.bytesT 109 = some 8 := by kernel_rfl
@[go_sem] theorem Tryz.xze109 : Tryz.prog.zeroT 109 = some [Value.nilFunc] := by kernel_rfl
@[go_sem] theorem Tryz.xsz110 : Tryz.prog.szT 110 = some 1 := by kernel_rfl
@[go_sem] theorem Tryz.xag110 : Tryz.prog.aggT 110 = some false := by kernel_rfl
@[go_sem] theorem Tryz.xel110 : Tryz.prog.elemT 110 = none := by kernel_rfl
@[go_sem] theorem Tryz.xby110 : Tryz.prog.bytesT 110 = some 8 := by kernel_rfl
@[go_sem] theorem Tryz.xze110 : Tryz.prog.zeroT 110 = some [Value.nilFunc] := by kernel_rfl
@[go_sem] theorem Tryz.xsz111 : Tryz.prog.szT 111 = some 1 := by kernel_rfl
@[go_sem] theorem Tryz.xag111 : Tryz.prog.aggT 111 = some false := by kernel_rfl
@[go_sem] theorem Tryz.xel111 : Tryz.prog.elemT 111 = none := by kernel_rfl
@[go_sem] theorem Tryz.xby111 : Tryz.prog.bytesT 111 = some 8 := by kernel_rfl
@[go_sem] theorem Tryz.xze111 : Tryz.prog.zeroT 111 = some [Value.nilFunc] := by kernel_rfl
@[go_sem] theorem Tryz.xsz112 : Tryz.prog.szT 112 = some 1 := by kernel_rfl
@[go_sem] theorem Tryz.xag112 : Tryz.prog.aggT 112 = some false := by kernel_rfl
@[go_sem] theorem Tryz.xel112 : Tryz.prog.elemT 112 = none := by kernel_rfl
@[go_sem] theorem Tryz.xby112 : Tryz.prog.bytesT 112 = some 8 := by kernel_rfl
@[go_sem] theorem Tryz.xze112 : Tryz.prog.zeroT 112 = some [Value.map none] := by kernel_rfl
@[go_sem] theorem Tryz.xzk112 : zeroOk [Value.map none] = true := by kernel_rfl
@[go_sem] theorem Tryz.xmt112 : Tryz.prog.mapT 112 = some (9, 73) := by kernel_rfl
@[go_sem] theorem Tryz.xz173 : Tryz.prog.zero1 73 = some (Value.agg #[Value.string ⟨#[]⟩, Value.int IntKind.u64 0, Value.int IntKind.i64 0, Value.int IntKind.i64 0, Value.int IntKind.i64 0, Value.int IntKind.i64 0, Value.bool false, Value.int IntKind.i64 0, Value.int IntKind.i64 0, Value.int IntKind.u8 0, Value.int IntKind.u8 0, Value.int IntKind.u8 0, Value.int IntKind.u8 0, Value.int IntKind.u8 0, Value.int IntKind.u8 0, Value.int IntKind.u8 0, Value.int IntKind.u8 0, Value.int IntKind.u8 0, Value.int IntKind.u8 0, Value.int IntKind.u8 0, Value.int IntKind.u8 0, Value.int IntKind.u8 0, Value.int IntKind.u8 0, Value.int IntKind.u8 0, Value.int IntKind.u8 0, Value.int IntKind.u8 0, Value.int IntKind.u8 0, Value.int IntKind.u8 0, Value.int IntKind.u8 0, Value.int IntKind.u8 0, Value.int IntKind.u8 0, Value.int IntKind.u8 0, Value.int IntKind.u8 0, Value.int IntKind.u8 0, Value.int IntKind.u8 0, Value.int IntKind.u8 0, Value.int IntKind.u8 0, Value.int IntKind.u8 0, Value.int IntKind.u8 0, Value.int IntKind.u8 0, Value.int IntKind.u8 0, Value.int IntKind.u8 0, Value.int IntKind.u8 0, Value.int IntKind.u8 0, Value.int IntKind.u8 0, Value.int IntKind.u8 0, Value.int IntKind.u8 0, Value.int IntKind.u8 0, Value.int IntKind.u8 0, Value.int IntKind.u8 0, Value.int IntKind.u8 0, Value.int IntKind.u8 0, Value.int IntKind.u8 0, Value.int IntKind.u8 0, Value.int IntKind.u8 0, Value.int IntKind.u8 0, Value.int IntKind.u8 0, Value.int IntKind.u8 0, Value.int IntKind.u8 0, Value.int IntKind.u8 0, Value.int IntKind.u8 0, Value.int IntKind.u8 0, Value.int IntKind.u8 0, Value.int IntKind.u8 0, Value.int IntKind.u8 0, Value.int IntKind.u8 0, Value.int IntKind.u8 0, Value.int IntKind.u8 0, Value.int IntKind.u8 0, Value.int IntKind.u8 0, Value.int IntKind.u8 0, Value.int IntKind.u8 0, Value.int IntKind.u8 0, Value.int IntKind.u8 0, Value.int IntKind.u8 0, Value.int IntKind.u8 0, Value.int IntKind.u8 0, Value.int IntKind.u8 0, Value.int IntKind.u8 0, Value.int IntKind.u8 0, Value.int IntKind.u8 0, Value.int IntKind.u8 0, Value.int IntKind.u8 0, Value.int IntKind.u8 0, Value.int IntKind.u8 0, Value.int IntKind.u8 0, Value.int IntKind.u8 0, Value.int IntKind.u8 0, Value.int IntKind.u8 0, Value.int IntKind.u8 0, Value.int IntKind.u8 0, Value.int IntKind.u8 0, Value.int IntKind.u8 0, Value.int IntKind.u8 0, Value.int IntKind.u8 0, Value.int IntKind.u8 0, Value.int IntKind.u8 0, Value.int IntKind.u8 0, Value.int IntKind.u8 0, Value.int IntKind.u8 0, Value.int IntKind.u8 0, Value.int IntKind.u8 0, Value.int IntKind.u8 0, Value.int IntKind.u8 0, Value.int IntKind.u8 0, Value.int IntKind.u8 0, Value.int IntKind.u8 0, Value.int IntKind.u8 0, Value.int IntKind.u8 0, Value.int IntKind.u8 0, Value.int IntKind.u8 0, Value.int IntKind.u8 0, Value.int IntKind.u8 0, Value.int IntKind.u8 0, Value.int IntKind.u8 0, Value.int IntKind.u8 0, Value.int IntKind.u8 0, Value.int IntKind.u8 0, Value.int IntKind.u8 0, Value.int IntKind.u8 0, Value.int IntKind.u8 0, Value.int IntKind.u8 0, Value.int IntKind.u8 0, Value.int IntKind.u8 0, Value.int IntKind.u8 0, Value.int IntKind.u8 0, Value.int IntKind.u8 0, Value.int IntKind.u8 0, Value.int IntKind.u8 0, Value.int IntKind.u8 0, Value.int IntKind.u8 0, Value.int IntKind.u8 0, Value.int IntKind.u8 0, Value.int IntKind.u8 0, Value.int IntKind.u8 0, Value.int IntKind.u8 0, Value.int IntKind.u8 0, Value.int IntKind.i64 0, Value.int IntKind.i64 0, Value.int IntKind.i64 0, Value.slice none 0 0]) := by kernel_rfl
@[go_sem] theorem Tryz.xsz113 : Tryz.prog.szT 113 = some 1 := by kernel_rfl
@[go_sem] theorem Tryz.xag113 : Tryz.prog.aggT 113 = some false := by kernel_rfl
@[go_sem] theorem Tryz.xel113 : Tryz.prog.elemT 113 = none := by kernel_rfl
@[go_sem] theorem Tryz.xby113 : Tryz.prog.bytesT 113 = some 8 := by kernel_rfl
@[go_sem] theorem Tryz.xze113 : Tryz.prog.zeroT 113 = some [Value.map none] := by kernel_rfl
@[go_sem] theorem Tryz.xmt113 : Tryz.prog.mapT 113 = some (9, 93) := by kernel_rfl
@[go_sem] theorem Tryz.xz193 : Tryz.prog.zero1 93 = some (Value.agg #[Value.string ⟨#[]⟩, Value.int IntKind.i64 0, Value.int IntKind.i64 0, Value.int IntKind.i64 0, Value.int IntKind.i64 0, Value.slice none 0 0, Value.slice none 0 0, Value.slice none 0 0, Value.int IntKind.i64 0]) := by kernel_rfl
@[go_sem] theorem Tryz.xsz114 : Tryz.prog.szT 114 = some 2 := by kernel_rfl
@[go_sem] theorem Tryz.xag114 : Tryz.prog.aggT 114 = some true := by kernel_rfl
@[go_sem] theorem Tryz.xel114 : Tryz.prog.elemT 114 = none := by kernel_rfl
@[go_sem] theorem Tryz.xby114 : Tryz.prog.bytesT 114 = some 16 := by kernel_rfl
@[go_sem] theorem Tryz.xpl114 : Tryz.prog.plT 114 = some [(0, 1), (1, 1)] := by kernel_rfl
@[go_sem] theorem Tryz.xze114 : Tryz.prog.zeroT 114 = some [Value.map none, Value.map none] := by kernel_rfl
@[go_sem] theorem Tryz.xzk114 : zeroOk [Value.map none, Value.map none] = true := by kernel_rfl
@[go_sem] theorem Tryz.xfl114_0 : Tryz.prog.fldT 114 0 = some (0, 112) := by kernel_rfl
@[go_sem] theorem Tryz.xfl114_1 : Tryz.prog.fldT 114 1 = some (1, 113) := by kernel_rfl
@[go_sem] theorem Tryz.xsz115 : Tryz.prog.szT 115 = some 2 := by kernel_rfl
@[go_sem] theorem Tryz.xag115 : Tryz.prog.aggT 115 = some true := by kernel_rfl
@[go_sem] theorem Tryz.xel115 : Tryz.prog.elemT 115 = none := by kernel_rfl
@[go_sem] theorem Tryz.xby115 : Tryz.prog.bytesT 115 = some 16 := by kernel_rfl
@[go_sem] theorem Tryz.xpl115 : Tryz.prog.plT 115 = some [(0, 1), (1, 1)] := by kernel_rfl
@[go_sem] theorem Tryz.xze115 : Tryz.prog.zeroT 115 = some [Value.map none, Value.map none] := by kernel_rfl
@[go_sem] theorem Tryz.xfl115_0 : Tryz.prog.fldT 115 0 = some (0, 112) := by kernel_rfl
@[go_sem] theorem Tryz.xfl115_1 : Tryz.prog.fldT 115 1 = some (1, 113) := by kernel_rfl
@[go_sem] theorem Tryz.xsz116 : Tryz.prog.szT 116 = some 1 := by kernel_rfl
@[go_sem] theorem Tryz.xag116 : Tryz.prog.aggT 116 = some false := by kernel_rfl
@[go_sem] theorem Tryz.xel116 : Tryz.prog.elemT 116 = none := by kernel_rfl
@[go_sem] theorem Tryz.xby116 : Tryz.prog.bytesT 116 = some 8 := by kernel_rfl
@[go_sem] theorem Tryz.xze116 : Tryz.prog.zeroT 116 = some [Value.nilFunc] := by kernel_rfl
@[go_sem] theorem Tryz.xsz117 : Tryz.prog.szT 117 = some 1 := by kernel_rfl
@[go_sem] theorem Tryz.xag117 : Tryz.prog.aggT 117 = some false := by kernel_rfl
@[go_sem] theorem Tryz.xel117 : Tryz.prog.elemT 117 = none := by kernel_rfl
@[go_sem] theorem Tryz.xby117 : Tryz.prog.bytesT 117 = some 8 := by kernel_rfl
@[go_sem] theorem Tryz.xze117 : Tryz.prog.zeroT 117 = some [Value.map none] := by kernel_rfl
@[go_sem] theorem Tryz.xmt117 : Tryz.prog.mapT 117 = some (9, 3) := by kernel_rfl
@[go_sem] theorem Tryz.xz13 : Tryz.prog.zero1 3 = some (Value.int IntKind.i64 0) := by kernel_rfl
@[go_sem] theorem Tryz.xsz118 : Tryz.prog.szT 118 = some 1 := by kernel_rfl
@[go_sem] theorem Tryz.xag118 : Tryz.prog.aggT 118 = some false := by kernel_rfl
@[go_sem] theorem Tryz.xel118 : Tryz.prog.elemT 118 = none := by kernel_rfl
@[go_sem] theorem Tryz.xby118 : Tryz.prog.bytesT 118 = some 8 := by kernel_rfl
@[go_sem] theorem Tryz.xze118 : Tryz.prog.zeroT 118 = some [Value.nilFunc] := by kernel_rfl
@[go_sem] theorem Tryz.xsz119 : Tryz.prog.szT 119 = some 1 := by kernel_rfl
@[go_sem] theorem Tryz.xag119 : Tryz.prog.aggT 119 = some false := by kernel_rfl
@[go_sem] theorem Tryz.xel119 : Tryz.prog.elemT 119 = none := by kernel_rfl
@[go_sem] theorem Tryz.xby119 : Tryz.prog.bytesT 119 = some 8 := by kernel_rfl
@[go_sem] theorem Tryz.xze119 : Tryz.prog.zeroT 119 = some [Value.nilFunc] := by kernel_rfl
@[go_sem] theorem Tryz.xsz120 : Tryz.prog.szT 120 = some 1 := by kernel_rfl
@[go_sem] theorem Tryz.xag120 : Tryz.prog.aggT 120 = some false := by kernel_rfl
@[go_sem] theorem Tryz.xel120 : Tryz.prog.elemT 120 = some 102 := by kernel_rfl
@[go_sem] theorem Tryz.xby120 : Tryz.prog.bytesT 120 = some 24 := by kernel_rfl
@[go_sem] theorem Tryz.xze120 : Tryz.prog.zeroT 120 = some [Value.slice none 0 0] := by kernel_rfl
@[go_sem] theorem Tryz.xsz121 : Tryz.prog.szT 121 = some 1 := by kernel_rfl
@[go_sem] theorem Tryz.xag121 : Tryz.prog.aggT 121 = some false := by kernel_rfl
@[go_sem] theorem Tryz.xel121 : Tryz.prog.elemT 121 = none := by kernel_rfl
@[go_sem] theorem Tryz.xby121 : Tryz.prog.bytesT 121 = some 8 := by kernel_rfl
@[go_sem] theorem Tryz.xze121 : Tryz.prog.zeroT 121 = some [Value.nilFunc] := by kernel_rfl
@[go_sem] theorem Tryz.xsz122 : Tryz.prog.szT 122 = some 1 := by kernel_rfl
@[go_sem] theorem Tryz.xag122 : Tryz.prog.aggT 122 = some false := by kernel_rfl
@[go_sem] theorem Tryz.xel122 : Tryz.prog.elemT 122 = none := by kernel_rfl
@[go_sem] theorem Tryz.xby122 : Tryz.prog.bytesT 122 = some 8 := by kernel_rfl
@[go_sem] theorem Tryz.xze122 : Tryz.prog.zeroT 122 = some [Value.nilFunc] := by kernel_rfl
@[go_sem] theorem Tryz.xsz123 : Tryz.prog.szT 123 = some 1 := by kernel_rfl
@[go_sem] theorem Tryz.xag123 : Tryz.prog.aggT 123 = some false := by kernel_rfl
@[go_sem] theorem Tryz.xel123 : Tryz.prog.elemT 123 = none := by kernel_rfl
@[go_sem] theorem Tryz.xby123 : Tryz.prog.bytesT 123 = some 0 := by kernel_rfl
@[go_sem] theorem Tryz.xsz124 : Tryz.prog.szT 124 = some 1 := by kernel_rfl
@[go_sem] theorem Tryz.xag124 : Tryz.prog.aggT 124 = some false := by kernel_rfl
@[go_sem] theorem Tryz.xel124 : Tryz.prog.elemT 124 = none := by kernel_rfl
@[go_sem] theorem Tryz.xby124 : Tryz.prog.bytesT 124 = some 8 := by kernel_rfl
@[go_sem] theorem Tryz.xze124 : Tryz.prog.zeroT 124 = some [Value.nilFunc] := by kernel_rfl
@[go_sem] theorem Tryz.xsz125 : Tryz.prog.szT 125 = some 1 := by kernel_rfl
@[go_sem] theorem Tryz.xag125 : Tryz.prog.aggT 125 = some false := by kernel_rfl
@[go_sem] theorem Tryz.xel125 : Tryz.prog.elemT 125 = none := by kernel_rfl
@[go_sem] theorem Tryz.xby125 : Tryz.prog.bytesT 125 = some 0 := by kernel_rfl
@[go_sem] theorem Tryz.xsz126 : Tryz.prog.szT 126 = some 1 := by kernel_rfl
@[go_sem] theorem Tryz.xag126 : Tryz.prog.aggT 126 = some false := by kernel_rfl
@[go_sem] theorem Tryz.xel126 : Tryz.prog.elemT 126 = none := by kernel_rfl
@[go_sem] theorem Tryz.xby126 : Tryz.prog.bytesT 126 = some 8 := by kernel_rfl
@[go_sem] theorem Tryz.xze126 : Tryz.prog.zeroT 126 = some [Value.nilFunc] := by kernel_rfl
@[go_sem] theorem Tryz.xsz127 : Tryz.prog.szT 127 = some 1 := by kernel_rfl
@[go_sem] theorem Tryz.xag127 : Tryz.prog.aggT 127 = some false := by kernel_rfl
@[go_sem] theorem Tryz.xel127 : Tryz.prog.elemT 127 = none := by kernel_rfl
@[go_sem] theorem Tryz.xby127 : Tryz.prog.bytesT 127 = some 8 := by kernel_rfl
@[go_sem] theorem Tryz.xze127 : Tryz.prog.zeroT 127 = some [Value.nilFunc] := by kernel_rfl
@[go_sem] theorem Tryz.xsz128 : Tryz.prog.szT 128 = some 1 := by kernel_rfl
@[go_sem] theorem Tryz.xag128 : Tryz.prog.aggT 128 = some false := by kernel_rfl
@[go_sem] theorem Tryz.xel128 : Tryz.prog.elemT 128 = none := by kernel_rfl
@[go_sem] theorem Tryz.xby128 : Tryz.prog.bytesT 128 = some 8 := by kernel_rfl
@[go_sem] theorem Tryz.xze128 : Tryz.prog.zeroT 128 = some [Value.nilFunc] := by kernel_rfl
@[go_sem] theorem Tryz.xsz129 : Tryz.prog.szT 129 = some 1 := by kernel_rfl
@[go_sem] theorem Tryz.xag129 : Tryz.prog.aggT 129 = some false := by kernel_rfl
@[go_sem] theorem Tryz.xel129 : Tryz.prog.elemT 129 = none := by kernel_rfl
@[go_sem] theorem Tryz.xby129 : Tryz.prog.bytesT 129 = some 8 := by kernel_rfl
@[go_sem] theorem Tryz.xze129 : Tryz.prog.zeroT 129 = some [Value.nilFunc] := by kernel_rfl
@[go_sem] theorem Tryz.xsz130 : Tryz.prog.szT 130 = some 1 := by kernel_rfl
@[go_sem] theorem Tryz.xag130 : Tryz.prog.aggT 130 = some false := by kernel_rfl
@[go_sem] theorem Tryz.xel130 : Tryz.prog.elemT 130 = none := by kernel_rfl
@[go_sem] theorem Tryz.xby130 : Tryz.prog.bytesT 130 = some 8 := by kernel_rfl
@[go_sem] theorem Tryz.xze130 : Tryz.prog.zeroT 130 = some [Value.nilFunc] := by kernel_rfl
@[go_sem] theorem Tryz.xsz131 : Tryz.prog.szT 131 = some 1 := by kernel_rfl
@[go_sem] theorem Tryz.xag131 : Tryz.prog.aggT 131 = some false := by kernel_rfl
@[go_sem] theorem Tryz.xel131 : Tryz.prog.elemT 131 = none := by kernel_rfl
@[go_sem] theorem Tryz.xby131 : Tryz.prog.bytesT 131 = some 8 := by kernel_rfl
@[go_sem] theorem Tryz.xze131 : Tryz.prog.zeroT 131 = some [Value.nilFunc] := by kernel_rfl
@[go_sem] theorem Tryz.xsz132 : Tryz.prog.szT 132 = some 1 := by kernel_rfl
@[go_sem] theorem Tryz.xag132 : Tryz.prog.aggT 132 = some false := by kernel_rfl
@[go_sem] theorem Tryz.xel132 : Tryz.prog.elemT 132 = none := by kernel_rfl
@[go_sem] theorem Tryz.xby132 : Tryz.prog.bytesT 132 = some 0 := by kernel_rfl
@[go_sem] theorem Tryz.xsz133 : Tryz.prog.szT 133 = some 1 := by kernel_rfl
@[go_sem] theorem Tryz.xag133 : Tryz.prog.aggT 133 = some false := by kernel_rfl
@[go_sem] theorem Tryz.xel133 : Tryz.prog.elemT 133 = none := by kernel_rfl
@[go_sem] theorem Tryz.xby133 : Tryz.prog.bytesT 133 = some 8 := by kernel_rfl
@[go_sem] theorem Tryz.xze133 : Tryz.prog.zeroT 133 = some [Value.map none] := by kernel_rfl
@[go_sem] theorem Tryz.xmt133 : Tryz.prog.mapT 133 = some (9, 4) := by kernel_rfl
@[go_sem] theorem Tryz.xz14 : Tryz.prog.zero1 4 = some (Value.bool false) := by kernel_rfl
@[go_sem] theorem Tryz.xsz134 : Tryz.prog.szT 134 = some 1 := by kernel_rfl
@[go_sem] theorem Tryz.xag134 : Tryz.prog.aggT 134 = some false := by kernel_rfl
@[go_sem] theorem Tryz.xel134 : Tryz.prog.elemT 134 = none := by kernel_rfl
@[go_sem] theorem Tryz.xby134 : Tryz.prog.bytesT 134 = some 8 := by kernel_rfl
@[go_sem] theorem Tryz.xze134 : Tryz.prog.zeroT 134 = some [Value.nilFunc] := by kernel_rfl
@[go_sem] theorem Tryz.xsz135 : Tryz.prog.szT 135 = some 1 := by kernel_rfl
@[go_sem] theorem Tryz.xag135 : Tryz.prog.aggT 135 = some false := by kernel_rfl
@[go_sem] theorem Tryz.xel135 : Tryz.prog.elemT 135 = none := by kernel_rfl
@[go_sem] theorem Tryz.xby135 : Tryz.prog.bytesT 135 = some 8 := by kernel_rfl
@[go_sem] theorem Tryz.xze135 : Tryz.prog.zeroT 135 = some [Value.nilFunc] := by kernel_rfl
@[go_sem] theorem Tryz.xsz136 : Tryz.prog.szT 136 = some 1 := by kernel_rfl
@[go_sem] theorem Tryz.xag136 : Tryz.prog.aggT 136 = some false := by kernel_rfl
@[go_sem] theorem Tryz.xel136 : Tryz.prog.elemT 136 = none := by kernel_rfl
@[go_sem] theorem Tryz.xby136 : Tryz.prog.bytesT 136 = some 8 := by kernel_rfl
@[go_sem] theorem Tryz.xze136 : Tryz.prog.zeroT 136 = some [Value.nilFunc] := by kernel_rfl
@[go_sem] theorem Tryz.xsz137 : Tryz.prog.szT 137 = some 1 := by kernel_rfl
@[go_sem] theorem Tryz.xag137 : Tryz.prog.aggT 137 = some false := by kernel_rfl
@[go_sem] theorem Tryz.xel137 : Tryz.prog.elemT 137 = none := by kernel_rfl
@[go_sem] theorem Tryz.xby137 : Tryz.prog.bytesT 137 = some 8 := by kernel_rfl
@[go_sem] theorem Tryz.xze137 : Tryz.prog.zeroT 137 = some [Value.nilFunc] := by kernel_rfl
@[go_sem] theorem Tryz.xsz138 : Tryz.prog.szT 138 = some 1 := by kernel_rfl
@[go_sem] theorem Tryz.xag138 : Tryz.prog.aggT 138 = some false := by kernel_rfl
@[go_sem] theorem Tryz.xel138 : Tryz.prog.elemT 138 = none := by kernel_rfl
@[go_sem] theorem Tryz.xby138 : Tryz.prog.bytesT 138 = some 8 := by kernel_rfl
@[go_sem] theorem Tryz.xze138 : Tryz.prog.zeroT 138 = some [Value.nilFunc] := by kernel_rfl
@[go_sem] theorem Tryz.xsz139 : Tryz.prog.szT 139 = some 1 := by kernel_rfl
@[go_sem] theorem Tryz.xag139 : Tryz.prog.aggT 139 = some false := by kernel_rfl
@[go_sem] theorem Tryz.xel139 : Tryz.prog.elemT 139 = none := by kernel_rfl
@[go_sem] theorem Tryz.xby139 : Tryz.prog.bytesT 139 = some 8 := by kernel_rfl
@[go_sem] theorem Tryz.xze139 : Tryz.prog.zeroT 139 = some [Value.nilFunc] := by kernel_rfl
@[go_sem] theorem Tryz.xsz140 : Tryz.prog.szT 140 = some 1 := by kernel_rfl
@[go_sem] theorem Tryz.xag140 : Tryz.prog.aggT 140 = some false := by kernel_rfl
@[go_sem] theorem Tryz.xel140 : Tryz.prog.elemT 140 = none := by kernel_rfl
@[go_sem] theorem Tryz.xby140 : Tryz.prog.bytesT 140 = some 0 := by kernel_rfl
@[go_sem] theorem Tryz.xsz141 : Tryz.prog.szT 141 = some 1 := by kernel_rfl
@[go_sem] theorem Tryz.xag141 : Tryz.prog.aggT 141 = some false := by kernel_rfl
@[go_sem] theorem Tryz.xel141 : Tryz.prog.elemT 141 = none := by kernel_rfl
@[go_sem] theorem Tryz.xby141 : Tryz.prog.bytesT 141 = some 8 := by kernel_rfl
@[go_sem] theorem Tryz.xze141 : Tryz.prog.zeroT 141 = some [Value.nilFunc] := by kernel_rfl
@[go_sem] theorem Tryz.xsz142 : Tryz.prog.szT 142 = some 1 := by kernel_rfl
@[go_sem] theorem Tryz.xag142 : Tryz.prog.aggT 142 = some false := by kernel_rfl
@[go_sem] theorem Tryz.xel142 : Tryz.prog.elemT 142 = none := by kernel_rfl
@[go_sem] theorem Tryz.xby142 : Tryz.prog.bytesT 142 = some 8 := by kernel_rfl
@[go_sem] theorem Tryz.xze142 : Tryz.prog.zeroT 142 = some [Value.nilFunc] := by kernel_rfl
@[go_sem] theorem Tryz.xsz143 : Tryz.prog.szT 143 = some 1 := by kernel_rfl
@[go_sem] theorem Tryz.xag143 : Tryz.prog.aggT 143 = some false := by kernel_rfl
@[go_sem] theorem Tryz.xel143 : Tryz.prog.elemT 143 = none := by kernel_rfl
@[go_sem] theorem Tryz.xby143 : Tryz.prog.bytesT 143 = some 8 := by kernel_rfl
@[go_sem] theorem Tryz.xze143 : Tryz.prog.zeroT 143 = some [Value.nilFunc] := by kernel_rfl
@[go_sem] theorem Tryz.xsz144 : Tryz.prog.szT 144 = some 1 := by kernel_rfl
@[go_sem] theorem Tryz.xag144 : Tryz.prog.aggT 144 = some false := by kernel_rfl
@[go_sem] theorem Tryz.xel144 : Tryz.prog.elemT 144 = none := by kernel_rfl
@[go_sem] theorem Tryz.xby144 : Tryz.prog.bytesT 144 = some 8 := by kernel_rfl
@[go_sem] theorem Tryz.xze144 : Tryz.prog.zeroT 144 = some [Value.map none] := by kernel_rfl
@[go_sem] theorem Tryz.xmt144 : Tryz.prog.mapT 144 = some (9, 2) := by kernel_rfl
@[go_sem] theorem Tryz.xz12 : Tryz.prog.zero1 2 = some (Value.int IntKind.i64 0) := by kernel_rfl
@[go_sem] theorem Tryz.xsz145 : Tryz.prog.szT 145 = some 1 := by kernel_rfl
@[go_sem] theorem Tryz.xag145 : Tryz.prog.aggT 145 = some false := by kernel_rfl
@[go_sem] theorem Tryz.xel145 : Tryz.prog.elemT 145 = none := by kernel_rfl
@[go_sem] theorem Tryz.xby145 : Tryz.prog.bytesT 145 = some 8 := by kernel_rfl
@[go_sem] theorem Tryz.xze145 : Tryz.prog.zeroT 145 = some [Value.map none] := by kernel_rfl
@[go_sem] theorem Tryz.xmt145 : Tryz.prog.mapT 145 = some (9, 192) := by kernel_rfl
@[go_sem] theorem Tryz.xz1192 : Tryz.prog.zero1 192 = some (Value.slice none 0 0) := by kernel_rfl
@[go_sem] theorem Tryz.xsz146 : Tryz.prog.szT 146 = some 2 := by kernel_rfl
@[go_sem] theorem Tryz.xag146 : Tryz.prog.aggT 146 = some true := by kernel_rfl
@[go_sem] theorem Tryz.xel146 : Tryz.prog.elemT 146 = none := by kernel_rfl
@[go_sem] theorem Tryz.xby146 : Tryz.prog.bytesT 146 = some 16 := by kernel_rfl
@[go_sem] theorem Tryz.xpl146 : Tryz.prog.plT 146 = some [(0, 1), (1, 1)] := by kernel_rfl
@[go_sem] theorem Tryz.xze146 : Tryz.prog.zeroT 146 = some [Value.map none, Value.map none] := by kernel_rfl
@[go_sem] theorem Tryz.xfl146_0 : Tryz.prog.fldT 146 0 = some (0, 144) := by kernel_rfl
@[go_sem] theorem Tryz.xfl146_1 : Tryz.prog.fldT 146 1 = some (1, 145) := by kernel_rfl
@[go_sem] theorem Tryz.xsz147 : Tryz.prog.szT 147 = some 2 := by kernel_rfl
@[go_sem] theorem Tryz.xag147 : Tryz.prog.aggT 147 = some true := by kernel_rfl
@[go_sem] theorem Tryz.xel147 : Tryz.prog.elemT 147 = none := by kernel_rfl
@[go_sem] theorem Tryz.xby147 : Tryz.prog.bytesT 147 = some 16 := by kernel_rfl
@[go_sem] theorem Tryz.xpl147 : Tryz.prog.plT 147 = some [(0, 1), (1, 1)] := by kernel_rfl
@[go_sem] theorem Tryz.xze147 : Tryz.prog.zeroT 147 = some [Value.map none, Value.map none] := by kernel_rfl
@[go_sem] theorem Tryz.xfl147_0 : Tryz.prog.fldT 147 0 = some (0, 144) := by kernel_rfl
@[go_sem] theorem Tryz.xfl147_1 : Tryz.prog.fldT 147 1 = some (1, 145) := by kernel_rfl
@[go_sem] theorem Tryz.xsz148 : Tryz.prog.szT 148 = some 1 := by kernel_rfl
@[go_sem] theorem Tryz.xag148 : Tryz.prog.aggT 148 = some false := by kernel_rfl
@[go_sem] theorem Tryz.xel148 : Tryz.prog.elemT 148 = none := by kernel_rfl
@[go_sem] theorem Tryz.xby148 : Tryz.prog.bytesT 148 = some 8 := by kernel_rfl
@[go_sem] theorem Tryz.xze148 : Tryz.prog.zeroT 148 = some [Value.nilFunc] := by kernel_rfl
@[go_sem] theorem Tryz.xsz149 : Tryz.prog.szT 149 = some 1 := by kernel_rfl
@[go_sem] theorem Tryz.xag149 : Tryz.prog.aggT 149 = some false := by kernel_rfl
@[go_sem] theorem Tryz.xel149 : Tryz.prog.elemT 149 = none := by kernel_rfl
@[go_sem] theorem Tryz.xby149 : Tryz.prog.bytesT 149 = some 8 := by kernel_rfl
@[go_sem] theorem Tryz.xze149 : Tryz.prog.zeroT 149 = some [Value.nilFunc] := by kernel_rfl
@[go_sem] theorem Tryz.xsz150 : Tryz.prog.szT 150 = some 1 := by kernel_rfl
@[go_sem] theorem Tryz.xag150 : Tryz.prog.aggT 150 = some false := by kernel_rfl
@[go_sem] theorem Tryz.xel150 : Tryz.prog.elemT 150 = none := by kernel_rfl
@[go_sem] theorem Tryz.xby150 : Tryz.prog.bytesT 150 = some 8 := by kernel_rfl
@[go_sem] theorem Tryz.xze150 : Tryz.prog.zeroT 150 = some [Value.nilFunc] := by kernel_rfl
@[go_sem] theorem Tryz.xsz151 : Tryz.prog.szT 151 = some 1 := by kernel_rfl
@[go_sem] theorem Tryz.xag151 : Tryz.prog.aggT 151 = some false := by kernel_rfl
@[go_sem] theorem Tryz.xel151 : Tryz.prog.elemT 151 = none := by kernel_rfl
@[go_sem] theorem Tryz.xby151 : Tryz.prog.bytesT 151 = some 0 := by kernel_rfl
@[go_sem] theorem Tryz.xsz152 : Tryz.prog.szT 152 = some 1 := by kernel_rfl
@[go_sem] theorem Tryz.xag152 : Tryz.prog.aggT 152 = some false := by kernel_rfl
@[go_sem] theorem Tryz.xel152 : Tryz.prog.elemT 152 = none := by kernel_rfl
@[go_sem] theorem Tryz.xby152 : Tryz.prog.bytesT 152 = some 8 := by kernel_rfl
@[go_sem] theorem Tryz.xze152 : Tryz.prog.zeroT 152 = some [Value.pointer none] := by kernel_rfl
@[go_sem] theorem Tryz.xsz153 : Tryz.prog.szT 153 = some 1 := by kernel_rfl
@[go_sem] theorem Tryz.xag153 : Tryz.prog.aggT 153 = some false := by kernel_rfl
@[go_sem] theorem Tryz.xel153 : Tryz.prog.elemT 153 = none := by kernel_rfl
@[go_sem] theorem Tryz.xby153 : Tryz.prog.bytesT 153 = some 8 := by kernel_rfl
@[go_sem] theorem Tryz.xze153 : Tryz.prog.zeroT 153 = some [Value.pointer none] := by kernel_rfl
@[go_sem] theorem Tryz.xsz154 : Tryz.prog.szT 154 = some 2 := by kernel_rfl
@[go_sem] theorem Tryz.xag154 : Tryz.prog.aggT 154 = some true := by kernel_rfl
@[go_sem] theorem Tryz.xel154 : Tryz.prog.elemT 154 = none := by kernel_rfl
@[go_sem] theorem Tryz.xby154 : Tryz.prog.bytesT 154 = some 16 := by kernel_rfl
@[go_sem] theorem Tryz.xpl154 : Tryz.prog.plT 154 = some [(0, 1), (1, 1)] := by kernel_rfl
@[go_sem] theorem Tryz.xze154 : Tryz.prog.zeroT 154 = some [Value.pointer none, Value.pointer none] := by kernel_rfl
@[go_sem] theorem Tryz.xzk154 : zeroOk [Value.pointer none, Value.pointer none] = true := by kernel_rfl
@[go_sem] theorem Tryz.xsz155 : Tryz.prog.szT 155 = some 1 := by kernel_rfl
@[go_sem] theorem Tryz.xag155 : Tryz.prog.aggT 155 = some false := by kernel_rfl
@[go_sem] theorem Tryz.xel155 : Tryz.prog.elemT 155 = none := by kernel_rfl
@[go_sem] theorem Tryz.xby155 : Tryz.prog.bytesT 155 = some 8 := by kernel_rfl
@[go_sem] theorem Tryz.xze155 : Tryz.prog.zeroT 155 = some [Value.nilFunc] := by kernel_rfl
@[go_sem] theorem Tryz.xsz156 : Tryz.prog.szT 156 = some 1 := by kernel_rfl
@[go_sem] theorem Tryz.xag156 : Tryz.prog.aggT 156 = some false := by kernel_rfl
@[go_sem] theorem Tryz.xel156 : Tryz.prog.elemT 156 = none := by kernel_rfl
@[go_sem] theorem Tryz.xby156 : Tryz.prog.bytesT 156 = some 8 := by kernel_rfl
@[go_sem] theorem Tryz.xze156 : Tryz.prog.zeroT 156 = some [Value.nilFunc] := by kernel_rfl
@[go_sem] theorem Tryz.xsz157 : Tryz.prog.szT 157 = some 1 := by kernel_rfl
@[go_sem] theorem Tryz.xag157 : Tryz.prog.aggT 157 = some false := by kernel_rfl
@[go_sem] theorem Tryz.xel157 : Tryz.prog.elemT 157 = none := by kernel_rfl
@[go_sem] theorem Tryz.xby157 : Tryz.prog.bytesT 157 = some 8 := by kernel_rfl
@[go_sem] theorem Tryz.xze157 : Tryz.prog.zeroT 157 = some [Value.nilFunc] := by kernel_rfl
@[go_sem] theorem Tryz.xsz158 : Tryz.prog.szT 158 = some 1 := by kernel_rfl
@[go_sem] theorem Tryz.xag158 : Tryz.prog.aggT 158 = some false := by kernel_rfl
@[go_sem] theorem Tryz.xel158 : Tryz.prog.elemT 158 = none := by kernel_rfl
@[go_sem] theorem Tryz.xby158 : Tryz.prog.bytesT 158 = some 8 := by kernel_rfl
@[go_sem] theorem Tryz.xze158 : Tryz.prog.zeroT 158 = some [Value.nilFunc] := by kernel_rfl
@[go_sem] theorem Tryz.xsz159 : Tryz.prog.szT 159 = some 1 := by kernel_rfl
@[go_sem] theorem Tryz.xag159 : Tryz.prog.aggT 159 = some false := by kernel_rfl
@[go_sem] theorem Tryz.xel159 : Tryz.prog.elemT 159 = none := by kernel_rfl
@[go_sem] theorem Tryz.xby159 : Tryz.prog.bytesT 159 = some 8 := by kernel_rfl
@[go_sem] theorem Tryz.xze159 : Tryz.prog.zeroT 159 = some [Value.nilFunc] := by kernel_rfl
@[go_sem] theorem Tryz.xsz160 : Tryz.prog.szT 160 = some 1 := by kernel_rfl
@[go_sem] theorem Tryz.xag160 : Tryz.prog.aggT 160 = some false := by kernel_rfl
@[go_sem] theorem Tryz.xel160 : Tryz.prog.elemT 160 = none := by kernel_rfl
@[go_sem] theorem Tryz.xby160 : Tryz.prog.bytesT 160 = some 8 := by kernel_rfl
@[go_sem] theorem Tryz.xze160 : Tryz.prog.zeroT 160 = some [Value.nilFunc] := by kernel_rfl
@[go_sem] theorem Tryz.xsz161 : Tryz.prog.szT 161 = some 1 := by kernel_rfl
@[go_sem] theorem Tryz.xag161 : Tryz.prog.aggT 161 = some false := by kernel_rfl
@[go_sem] theorem Tryz.xel161 : Tryz.prog.elemT 161 = some 49 := by kernel_rfl
@[go_sem] theorem Tryz.xby161 : Tryz.prog.bytesT 161 = some 24 := by kernel_rfl
@[go_sem] theorem Tryz.xze161 : Tryz.prog.zeroT 161 = some [Value.slice none 0 0] := by kernel_rfl
@[go_sem] theorem Tryz.xsz162 : Tryz.prog.szT 162 = some 1 := by kernel_rfl
@[go_sem] theorem Tryz.xag162 : Tryz.prog.aggT 162 = some false := by kernel_rfl
@[go_sem] theorem Tryz.xel162 : Tryz.prog.elemT 162 = none := by kernel_rfl
@[go_sem] theorem Tryz.xby162 : Tryz.prog.bytesT 162 = some 8 := by kernel_rfl
@[go_sem] theorem Tryz.xze162 : Tryz.prog.zeroT 162 = some [Value.nilFunc] := by kernel_rfl
@[go_sem] theorem Tryz.xsz163 : Tryz.prog.szT 163 = some 1 := by kernel_rfl
@[go_sem] theorem Tryz.xag163 : Tryz.prog.aggT 163 = some false := by kernel_rfl
@[go_sem] theorem Tryz.xel163 : Tryz.prog.elemT 163 = none := by kernel_rfl
@[go_sem] theorem Tryz.xby163 : Tryz.prog.bytesT 163 = some 8 := by kernel_rfl
@[go_sem] theorem Tryz.xze163 : Tryz.prog.zeroT 163 = some [Value.nilFunc] := by kernel_rfl
@[go_sem] theorem Tryz.xsz164 : Tryz.prog.szT 164 = some 1 := by kernel_rfl
@[go_sem] theorem Tryz.xag164 : Tryz.prog.aggT 164 = some false := by kernel_rfl
@[go_sem] theorem Tryz.xel164 : Tryz.prog.elemT 164 = none := by kernel_rfl
@[go_sem] theorem Tryz.xby164 : Tryz.prog.bytesT 164 = some 8 := by kernel_rfl
@[go_sem] theorem Tryz.xze164 : Tryz.prog.zeroT 164 = some [Value.nilFunc] := by kernel_rfl
@[go_sem] theorem Tryz.xsz165 : Tryz.prog.szT 165 = some 1 := by kernel_rfl
@[go_sem] theorem Tryz.xag165 : Tryz.prog.aggT 165 = some false := by kernel_rfl
@[go_sem] theorem Tryz.xel165 : Tryz.prog.elemT 165 = none := by kernel_rfl
@[go_sem] theorem Tryz.xby165 : Tryz.prog.bytesT 165 = some 8 := by kernel_rfl
@[go_sem] theorem Tryz.xze165 : Tryz.prog.zeroT 165 = some [Value.nilFunc] := by kernel_rfl
@[go_sem] theorem Tryz.xsz166 : Tryz.prog.szT 166 = some 1 := by kernel_rfl
@[go_sem] theorem Tryz.xag166 : Tryz.prog.aggT 166 = some false := by kernel_rfl
@[go_sem] theorem Tryz.xel166 : Tryz.prog.elemT 166 = none := by kernel_rfl
@[go_sem] theorem Tryz.xby166 : Tryz.prog.bytesT 166 = some 8 := by kernel_rfl
@[go_sem] theorem Tryz.xze166 : Tryz.prog.zeroT 166 = some [Value.nilFunc] := by kernel_rfl
@[go_sem] theorem Tryz.xsz167 : Tryz.prog.szT 167 = some 1 := by kernel_rfl
@[go_sem] theorem Tryz.xag167 : Tryz.prog.aggT 167 = some false := by kernel_rfl
@[go_sem] theorem Tryz.xel167 : Tryz.prog.elemT 167 = none := by kernel_rfl
@[go_sem] theorem Tryz.xby167 : Tryz.prog.bytesT 167 = some 8 := by kernel_rfl
@[go_sem] theorem Tryz.xze167 : Tryz.prog.zeroT 167 = some [Value.nilFunc] := by kernel_rfl
@[go_sem] theorem Tryz.xsz168 : Tryz.prog.szT 168 = some 1 := by kernel_rfl
@[go_sem] theorem Tryz.xag168 : Tryz.prog.aggT 168 = some false := by kernel_rfl
@[go_sem] theorem Tryz.xel168 : Tryz.prog.elemT 168 = none := by kernel_rfl
@[go_sem] theorem Tryz.xby168 : Tryz.prog.bytesT 168 = some 8 := by kernel_rfl
@[go_sem] theorem Tryz.xze168 : Tryz.prog.zeroT 168 = some [Value.nilFunc] := by kernel_rfl
@[go_sem] theorem Tryz.xsz169 : Tryz.prog.szT 169 = some 1 := by kernel_rfl
@[go_sem] theorem Tryz.xag169 : Tryz.prog.aggT 169 = some false := by kernel_rfl
@[go_sem] theorem Tryz.xel169 : Tryz.prog.elemT 169 = none := by kernel_rfl
@[go_sem] theorem Tryz.xby169 : Tryz.prog.bytesT 169 = some 8 := by kernel_rfl
@[go_sem] theorem Tryz.xze169 : Tryz.prog.zeroT 169 = some [Value.nilFunc] := by kernel_rfl
@[go_sem] theorem Tryz.xsz170 : Tryz.prog.szT 170 = some 1 := by kernel_rfl
@[go_sem] theorem Tryz.xag170 : Tryz.prog.aggT 170 = some false := by kernel_rfl
@[go_sem] theorem Tryz.xel170 : Tryz.prog.elemT 170 = none := by kernel_rfl
@[go_sem] theorem Tryz.xby170 : Tryz.prog.bytesT 170 = some 8 := by kernel_rfl
@[go_sem] theorem Tryz.xze170 : Tryz.prog.zeroT 170 = some [Value.nilFunc] := by kernel_rfl
@[go_sem] theorem Tryz.xsz171 : Tryz.prog.szT 171 = some 1 := by kernel_rfl
@[go_sem] theorem Tryz.xag171 : Tryz.prog.aggT 171 = some false := by kernel_rfl
@[go_sem] theorem Tryz.xel171 : Tryz.prog.elemT 171 = none := by kernel_rfl
@[go_sem] theorem Tryz.xby171 : Tryz.prog.bytesT 171 = some 8 := by kernel_rfl
@[go_sem] theorem Tryz.xze171 : Tryz.prog.zeroT 171 = some [Value.nilFunc] := by kernel_rfl
@[go_sem] theorem Tryz.xsz172 : Tryz.prog.szT 172 = some 1 := by kernel_rfl
@[go_sem] theorem Tryz.xag172 : Tryz.prog.aggT 172 = some false := by kernel_rfl
@[go_sem] theorem Tryz.xel172 : Tryz.prog.elemT 172 = none := by kernel_rfl
@[go_sem] theorem Tryz.xby172 : Tryz.prog.bytesT 172 = some 8 := by kernel_rfl
@[go_sem] theorem Tryz.xze172 : Tryz.prog.zeroT 172 = some [Value.nilFunc] := by kernel_rfl
@[go_sem] theorem Tryz.xsz173 : Tryz.prog.szT 173 = some 1 := by kernel_rfl
@[go_sem] theorem Tryz.xag173 : Tryz.prog.aggT 173 = some false := by kernel_rfl
@[go_sem] theorem Tryz.xel173 : Tryz.prog.elemT 173 = none := by kernel_rfl
@[go_sem] theorem Tryz.xby173 : Tryz.prog.bytesT 173 = some 8 := by kernel_rfl
@[go_sem] theorem Tryz.xze173 : Tryz.prog.zeroT 173 = some [Value.nilFunc] := by kernel_rfl
@[go_sem] theorem Tryz.xsz174 : Tryz.prog.szT 174 = some 1 := by kernel_rfl
@[go_sem] theorem Tryz.xag174 : Tryz.prog.aggT 174 = some false := by kernel_rfl
@[go_sem] theorem Tryz.xel174 : Tryz.prog.elemT 174 = none := by kernel_rfl
@[go_sem] theorem Tryz.xby174 : Tryz.prog.bytesT 174 = some 8 := by kernel_rfl
@[go_sem] theorem Tryz.xze174 : Tryz.prog.zeroT 174 = some [Value.nilFunc] := by kernel_rfl
@[go_sem] theorem Tryz.xsz175 : Tryz.prog.szT 175 = some 1 := by kernel_rfl
@[go_sem] theorem Tryz.xag175 : Tryz.prog.aggT 175 = some false := by kernel_rfl
@[go_sem] theorem Tryz.xel175 : Tryz.prog.elemT 175 = none := by kernel_rfl
@[go_sem] theorem Tryz.xby175 : Tryz.prog.bytesT 175 = some 8 := by kernel_rfl
@[go_sem] theorem Tryz.xze175 : Tryz.prog.zeroT 175 = some [Value.nilFunc] := by kernel_rfl
@[go_sem] theorem Tryz.xsz176 : Tryz.prog.szT 176 = some 1 := by kernel_rfl
@[go_sem] theorem Tryz.xag176 : Tryz.prog.aggT 176 = some false := by kernel_rfl
@[go_sem] theorem Tryz.xel176 : Tryz.prog.elemT 176 = none := by kernel_rfl
@[go_sem] theorem Tryz.xby176 : Tryz.prog.bytesT 176 = some 8 := by kernel_rfl
@[go_sem] theorem Tryz.xze176 : Tryz.prog.zeroT 176 = some [Value.nilFunc] := by kernel_rfl
@[go_sem] theorem Tryz.xsz177 : Tryz.prog.szT 177 = some 1 := by kernel_rfl
@[go_sem] theorem Tryz.xag177 : Tryz.prog.aggT 177 = some false := by kernel_rfl
@[go_sem] theorem Tryz.xel177 : Tryz.prog.elemT 177 = none := by kernel_rfl
@[go_sem] theorem Tryz.xby177 : Tryz.prog.bytesT 177 = some 8 := by kernel_rfl
@[go_sem] theorem Tryz.xze177 : Tryz.prog.zeroT 177 = some [Value.nilFunc] := by kernel_rfl
@[go_sem] theorem Tryz.xsz178 : Tryz.prog.szT 178 = some 1 := by kernel_rfl
@[go_sem] theorem Tryz.xag178 : Tryz.prog.aggT 178 = some false := by kernel_rfl
@[go_sem] theorem Tryz.xel178 : Tryz.prog.elemT 178 = none := by kernel_rfl
@[go_sem] theorem Tryz.xby178 : Tryz.prog.bytesT 178 = some 8 := by kernel_rfl
@[go_sem] theorem Tryz.xze178 : Tryz.prog.zeroT 178 = some [Value.nilFunc] := by kernel_rfl
@[go_sem] theorem Tryz.xsz179 : Tryz.prog.szT 179 = some 1 := by kernel_rfl
@[go_sem] theorem Tryz.xag179 : Tryz.prog.aggT 179 = some false := by kernel_rfl
@[go_sem] theorem Tryz.xel179 : Tryz.prog.elemT 179 = none := by kernel_rfl
@[go_sem] theorem Tryz.xby179 : Tryz.prog.bytesT 179 = some 8 := by kernel_rfl
@[go_sem] theorem Tryz.xze179 : Tryz.prog.zeroT 179 = some [Value.nilFunc] := by kernel_rfl
@[go_sem] theorem Tryz.xsz180 : Tryz.prog.szT 180 = some 1 := by kernel_rfl
@[go_sem] theorem Tryz.xag180 : Tryz.prog.aggT 180 = some false := by kernel_rfl
@[go_sem] theorem Tryz.xel180 : Tryz.prog.elemT 180 = none := by kernel_rfl
@[go_sem] theorem Tryz.xby180 : Tryz.prog.bytesT 180 = some 8 := by kernel_rfl
@[go_sem] theorem Tryz.xze180 : Tryz.prog.zeroT 180 = some [Value.nilFunc] := by kernel_rfl
@[go_sem] theorem Tryz.xsz181 : Tryz.prog.szT 181 = some 1 := by kernel_rfl
@[go_sem] theorem Tryz.xag181 : Tryz.prog.aggT 181 = some false := by kernel_rfl
@[go_sem] theorem Tryz.xel181 : Tryz.prog.elemT 181 = none := by kernel_rfl
@[go_sem] theorem Tryz.xby181 : Tryz.prog.bytesT 181 = some 8 := by kernel_rfl
@[go_sem] theorem Tryz.xze181 : Tryz.prog.zeroT 181 = some [Value.nilFunc] := by kernel_rfl
@[go_sem] theorem Tryz.xsz182 : Tryz.prog.szT 182 = some 1 := by kernel_rfl
@[go_sem] theorem Tryz.xag182 : Tryz.prog.aggT 182 = some false := by kernel_rfl
@[go_sem] theorem Tryz.xel182 : Tryz.prog.elemT 182 = none := by kernel_rfl
@[go_sem] theorem Tryz.xby182 : Tryz.prog.bytesT 182 = some 8 := by kernel_rfl
@[go_sem] theorem Tryz.xze182 : Tryz.prog.zeroT 182 = some [Value.nilFunc] := by kernel_rfl
@[go_sem] theorem Tryz.xsz183 : Tryz.prog.szT 183 = some 1 := by kernel_rfl
@[go_sem] theorem Tryz.xag183 : Tryz.prog.aggT 183 = some false := by kernel_rfl
@[go_sem] theorem Tryz.xel183 : Tryz.prog.elemT 183 = none := by kernel_rfl
@[go_sem] theorem Tryz.xby183 : Tryz.prog.bytesT 183 = some 8 := by kernel_rfl
@[go_sem] theorem Tryz.xze183 : Tryz.prog.zeroT 183 = some [Value.nilFunc] := by kernel_rfl
@[go_sem] theorem Tryz.xsz184 : Tryz.prog.szT 184 = some 14 := by kernel_rfl
@[go_sem] theorem Tryz.xag184 : Tryz.prog.aggT 184 = some true := by kernel_rfl
@[go_sem] theorem Tryz.xel184 : Tryz.prog.elemT 184 = none := by kernel_rfl
@[go_sem] theorem Tryz.xby184 : Tryz.prog.bytesT 184 = some 128 := by kernel_rfl
@[go_sem] theorem Tryz.xpl184 : Tryz.prog.plT 184 = some [(0, 7), (7, 7)] := by kernel_rfl
@[go_sem] theorem Tryz.xze184 : Tryz.prog.zeroT 184 = some [Value.int IntKind.i64 0, Value.string ⟨#[]⟩, Value.int IntKind.i64 0, Value.int IntKind.i64 0, Value.int IntKind.i64 0, Value.int IntKind.i64 0, Value.bool false, Value.int IntKind.i64 0, Value.string ⟨#[]⟩, Value.int IntKind.i64 0, Value.int IntKind.i64 0, Value.int IntKind.i64 0, Value.int IntKind.i64 0, Value.bool false] := by kernel_rfl
@[go_sem] theorem Tryz.xzk184 : zeroOk [Value.int IntKind.i64 0, Value.string ⟨#[]⟩, Value.int IntKind.i64 0, Value.int IntKind.i64 0, Value.int IntKind.i64 0, Value.int IntKind.i64 0, Value.bool false, Value.int IntKind.i64 0, Value.string ⟨#[]⟩, Value.int IntKind.i64 0, Value.int IntKind.i64 0, Value.int IntKind.i64 0, Value.int IntKind.i64 0, Value.bool false] = true := by kernel_rfl
@[go_sem] theorem Tryz.xsz185 : Tryz.prog.szT 185 = some 1 := by kernel_rfl
@[go_sem] theorem Tryz.xag185 : Tryz.prog.aggT 185 = some false := by kernel_rfl
@[go_sem] theorem Tryz.xel185 : Tryz.prog.elemT 185 = none := by kernel_rfl
@[go_sem] theorem Tryz.xby185 : Tryz.prog.bytesT 185 = some 8 := by kernel_rfl
@[go_sem] theorem Tryz.xze185 : Tryz.prog.zeroT 185 = some [Value.nilFunc] := by kernel_rfl
@[go_sem] theorem Tryz.xsz186 : Tryz.prog.szT 186 = some 1 := by kernel_rfl
@[go_sem] theorem Tryz.xag186 : Tryz.prog.aggT 186 = some false := by kernel_rfl
@[go_sem] theorem Tryz.xel186 : Tryz.prog.elemT 186 = none := by kernel_rfl
@[go_sem] theorem Tryz.xby186 : Tryz.prog.bytesT 186 = some 8 := by kernel_rfl
@[go_sem] theorem Tryz.xze186 : Tryz.prog.zeroT 186 = some [Value.nilFunc] := by kernel_rfl
@[go_sem] theorem Tryz.xsz187 : Tryz.prog.szT 187 = some 1 := by kernel_rfl
@[go_sem] theorem Tryz.xag187 : Tryz.prog.aggT 187 = some false := by kernel_rfl
@[go_sem] theorem Tryz.xel187 : Tryz.prog.elemT 187 = none := by kernel_rfl
@[go_sem] theorem Tryz.xby187 : Tryz.prog.bytesT 187 = some 8 := by kernel_rfl
@[go_sem] theorem Tryz.xze187 : Tryz.prog.zeroT 187 = some [Value.map none] := by kernel_rfl
@[go_sem] theorem Tryz.xmt187 : Tryz.prog.mapT 187 = some (3, 4) := by kernel_rfl
@[go_sem] theorem Tryz.xsz188 : Tryz.prog.szT 188 = some 1 := by kernel_rfl
@[go_sem] theorem Tryz.xag188 : Tryz.prog.aggT 188 = some false := by kernel_rfl
@[go_sem] theorem Tryz.xel188 : Tryz.prog.elemT 188 = none := by kernel_rfl
@[go_sem] theorem Tryz.xby188 : Tryz.prog.bytesT 188 = some 8 := by kernel_rfl
@[go_sem] theorem Tryz.xze188 : Tryz.prog.zeroT 188 = some [Value.nilFunc] := by kernel_rfl
@[go_sem] theorem Tryz.xsz189 : Tryz.prog.szT 189 = some 1 := by kernel_rfl
@[go_sem] theorem Tryz.xag189 : Tryz.prog.aggT 189 = some false := by kernel_rfl
@[go_sem] theorem Tryz.xel189 : Tryz.prog.elemT 189 = none := by kernel_rfl
@[go_sem] theorem Tryz.xby189 : Tryz.prog.bytesT 189 = some 8 := by kernel_rfl
@[go_sem] theorem Tryz.xze189 : Tryz.prog.zeroT 189 = some [Value.nilFunc] := by kernel_rfl
@[go_sem] theorem Tryz.xsz190 : Tryz.prog.szT 190 = some 1 := by kernel_rfl
@[go_sem] theorem Tryz.xag190 : Tryz.prog.aggT 190 = some false := by kernel_rfl
@[go_sem] theorem Tryz.xel190 : Tryz.prog.elemT 190 = none := by kernel_rfl
@[go_sem] theorem Tryz.xby190 : Tryz.prog.bytesT 190 = some 8 := by kernel_rfl
@[go_sem] theorem Tryz.xze190 : Tryz.prog.zeroT 190 = some [Value.nilFunc] := by kernel_rfl
@[go_sem] theorem Tryz.xsz191 : Tryz.prog.szT 191 = some 1 := by kernel_rfl
@[go_sem] theorem Tryz.xag191 : Tryz.prog.aggT 191 = some false := by kernel_rfl
@[go_sem] theorem Tryz.xel191 : Tryz.prog.elemT 191 = none := by kernel_rfl
@[go_sem] theorem Tryz.xby191 : Tryz.prog.bytesT 191 = some 8 := by kernel_rfl
@[go_sem] theorem Tryz.xze191 : Tryz.prog.zeroT 191 = some [Value.nilFunc] := by kernel_rfl
@[go_sem] theorem Tryz.xsz192 : Tryz.prog.szT 192 = some 1 := by kernel_rfl
@[go_sem] theorem Tryz.xag192 : Tryz.prog.aggT 192 = some false := by kernel_rfl
@[go_sem] theorem Tryz.xel192 : Tryz.prog.elemT 192 = some 195 := by kernel_rfl
@[go_sem] theorem Tryz.xby192 : Tryz.prog.bytesT 192 = some 24 := by kernel_rfl
@[go_sem] theorem Tryz.xze192 : Tryz.prog.zeroT 192 = some [Value.slice none 0 0] := by kernel_rfl
@[go_sem] theorem Tryz.xsz193 : Tryz.prog.szT 193 = some 1 := by kernel_rfl
@[go_sem] theorem Tryz.xag193 : Tryz.prog.aggT 193 = some false := by kernel_rfl
@[go_sem] theorem Tryz.xel193 : Tryz.prog.elemT 193 = some 206 := by kernel_rfl
@[go_sem] theorem Tryz.xby193 : Tryz.prog.bytesT 193 = some 24 := by kernel_rfl
@[go_sem] theorem Tryz.xze193 : Tryz.prog.zeroT 193 = some [Value.slice none 0 0] := by kernel_rfl
@[go_sem] theorem Tryz.xsz194 : Tryz.prog.szT 194 = some 3 := by kernel_rfl
@[go_sem] theorem Tryz.xag194 : Tryz.prog.aggT 194 = some true := by kernel_rfl
@[go_sem] theorem Tryz.xel194 : Tryz.prog.elemT 194 = none := by kernel_rfl
@[go_sem] theorem Tryz.xby194 : Tryz.prog.bytesT 194 = some 72 := by kernel_rfl
@[go_sem] theorem Tryz.xpl194 : Tryz.prog.plT 194 = some [(0, 1), (1, 1), (2, 1)] := by kernel_rfl
@[go_sem] theorem Tryz.xze194 : Tryz.prog.zeroT 194 = some [Value.slice none 0 0, Value.slice none 0 0, Value.slice none 0 0] := by kernel_rfl
@[go_sem] theorem Tryz.xzk194 : zeroOk [Value.slice none 0 0, Value.slice none 0 0, Value.slice none 0 0] = true := by kernel_rfl
@[go_sem] theorem Tryz.xfl194_0 : Tryz.prog.fldT 194 0 = some (0, 45) := by kernel_rfl
@[go_sem] theorem Tryz.xfl194_1 : Tryz.prog.fldT 194 1 = some (1, 59) := by kernel_rfl
@[go_sem] theorem Tryz.xfl194_2 : Tryz.prog.fldT 194 2 = some (2, 193) := by kernel_rfl
@[go_sem] theorem Tryz.xsz195 : Tryz.prog.szT 195 = some 3 := by kernel_rfl
@[go_sem] theorem Tryz.xag195 : Tryz.prog.aggT 195 = some true := by kernel_rfl
@[go_sem] theorem Tryz.xel195 : Tryz.prog.elemT 195 = none := by kernel_rfl
@[go_sem] theorem Tryz.xby195 : Tryz.prog.bytesT 195 = some 72 := by kernel_rfl
@[go_sem] theorem Tryz.xpl195 : Tryz.prog.plT 195 = some [(0, 1), (1, 1), (2, 1)] := by kernel_rfl
@[go_sem] theorem Tryz.xze195 : Tryz.prog.zeroT 195 = some [Value.slice none 0 0, Value.slice none 0 0, Value.slice none 0 0] := by kernel_rfl
@[go_sem] theorem Tryz.xfl195_0 : Tryz.prog.fldT 195 0 = some (0, 45) := by kernel_rfl
@[go_sem] theorem Tryz.xfl195_1 : Tryz.prog.fldT 195 1 = some (1, 59) := by kernel_rfl
@[go_sem] theorem Tryz.xfl195_2 : Tryz.prog.fldT 195 2 = some (2, 193) := by kernel_rfl
@[go_sem] theorem Tryz.xsz196 : Tryz.prog.szT 196 = some 1 := by kernel_rfl
@[go_sem] theorem Tryz.xag196 : Tryz.prog.aggT 196 = some false := by kernel_rfl
@[go_sem] theorem Tryz.xel196 : Tryz.prog.elemT 196 = none := by kernel_rfl
@[go_sem] theorem Tryz.xby196 : Tryz.prog.bytesT 196 = some 8 := by kernel_rfl
@[go_sem] theorem Tryz.xze196 : Tryz.prog.zeroT 196 = some [Value.nilFunc] := by kernel_rfl
@[go_sem] theorem Tryz.xsz197 : Tryz.prog.szT 197 = some 1 := by kernel_rfl
@[go_sem] theorem Tryz.xag197 : Tryz.prog.aggT 197 = some false := by kernel_rfl
@[go_sem] theorem Tryz.xel197 : Tryz.prog.elemT 197 = none := by kernel_rfl
@[go_sem] theorem Tryz.xby197 : Tryz.prog.bytesT 197 = some 8 := by kernel_rfl
@[go_sem] theorem Tryz.xze197 : Tryz.prog.zeroT 197 = some [Value.nilFunc] := by kernel_rfl
@[go_sem] theorem Tryz.xsz198 : Tryz.prog.szT 198 = some 1 := by kernel_rfl
@[go_sem] theorem Tryz.xag198 : Tryz.prog.aggT 198 = some false := by kernel_rfl
@[go_sem] theorem Tryz.xel198 : Tryz.prog.elemT 198 = none := by kernel_rfl
@[go_sem] theorem Tryz.xby198 : Tryz.prog.bytesT 198 = some 8 := by kernel_rfl
@[go_sem] theorem Tryz.xze198 : Tryz.prog.zeroT 198 = some [Value.nilFunc] := by kernel_rfl
@[go_sem] theorem Tryz.xsz199 : Tryz.prog.szT 199 = some 1 := by kernel_rfl
@[go_sem] theorem Tryz.xag199 : Tryz.prog.aggT 199 = some false := by kernel_rfl
@[go_sem] theorem Tryz.xel199 : Tryz.prog.elemT 199 = none := by kernel_rfl
@[go_sem] theorem Tryz.xby199 : Tryz.prog.bytesT 199 = some 8 := by kernel_rfl
@[go_sem] theorem Tryz.xze199 : Tryz.prog.zeroT 199 = some [Value.nilFunc] := by kernel_rfl
@[go_sem] theorem Tryz.xsz200 : Tryz.prog.szT 200 = some 1 := by kernel_rfl
@[go_sem] theorem Tryz.xag200 : Tryz.prog.aggT 200 = some false := by kernel_rfl
@[go_sem] theorem Tryz.xel200 : Tryz.prog.elemT 200 = none := by kernel_rfl
@[go_sem] theorem Tryz.xby200 : Tryz.prog.bytesT 200 = some 8 := by kernel_rfl
@[go_sem] theorem Tryz.xze200 : Tryz.prog.zeroT 200 = some [Value.nilFunc] := by kernel_rfl
@[go_sem] theorem Tryz.xsz201 : Tryz.prog.szT 201 = some 1 := by kernel_rfl
@[go_sem] theorem Tryz.xag201 : Tryz.prog.aggT 201 = some false := by kernel_rfl
@[go_sem] theorem Tryz.xel201 : Tryz.prog.elemT 201 = none := by kernel_rfl
@[go_sem] theorem Tryz.xby201 : Tryz.prog.bytesT 201 = some 8 := by kernel_rfl
@[go_sem] theorem Tryz.xze201 : Tryz.prog.zeroT 201 = some [Value.nilFunc] := by kernel_rfl
@[go_sem] theorem Tryz.xsz202 : Tryz.prog.szT 202 = some 1 := by kernel_rfl
@[go_sem] theorem Tryz.xag202 : Tryz.prog.aggT 202 = some false := by kernel_rfl
@[go_sem] theorem Tryz.xel202 : Tryz.prog.elemT 202 = none := by kernel_rfl
@[go_sem] theorem Tryz.xby202 : Tryz.prog.bytesT 202 = some 8 := by kernel_rfl
@[go_sem] theorem Tryz.xze202 : Tryz.prog.zeroT 202 = some [Value.nilFunc] := by kernel_rfl
@[go_sem] theorem Tryz.xsz203 : Tryz.prog.szT 203 = some 1 := by kernel_rfl
@[go_sem] theorem Tryz.xag203 : Tryz.prog.aggT 203 = some false := by kernel_rfl
@[go_sem] theorem Tryz.xel203 : Tryz.prog.elemT 203 = none := by kernel_rfl
@[go_sem] theorem Tryz.xby203 : Tryz.prog.bytesT 203 = some 8 := by kernel_rfl
@[go_sem] theorem Tryz.xze203 : Tryz.prog.zeroT 203 = some [Value.nilFunc] := by kernel_rfl
@[go_sem] theorem Tryz.xsz204 : Tryz.prog.szT 204 = some 10 := by kernel_rfl
@[go_sem] theorem Tryz.xag204 : Tryz.prog.aggT 204 = some true := by kernel_rfl
@[go_sem] theorem Tryz.xel204 : Tryz.prog.elemT 204 = none := by kernel_rfl
@[go_sem] theorem Tryz.xby204 : Tryz.prog.bytesT 204 = some 88 := by kernel_rfl
@[go_sem] theorem Tryz.xpl204 : Tryz.prog.plT 204 = some [(0, 7), (7, 1), (8, 1), (9, 1)] := by kernel_rfl
@[go_sem] theorem Tryz.xze204 : Tryz.prog.zeroT 204 = some [Value.int IntKind.i64 0, Value.string ⟨#[]⟩, Value.int IntKind.i64 0, Value.int IntKind.i64 0, Value.int IntKind.i64 0, Value.int IntKind.i64 0, Value.bool false, Value.int IntKind.i64 0, Value.int IntKind.i64 0, Value.int IntKind.i64 0] := by kernel_rfl
@[go_sem] theorem Tryz.xzk204 : zeroOk [Value.int IntKind.i64 0, Value.string ⟨#[]⟩, Value.int IntKind.i64 0, Value.int IntKind.i64 0, Value.int IntKind.i64 0, Value.int IntKind.i64 0, Value.bool false, Value.int IntKind.i64 0, Value.int IntKind.i64 0, Value.int IntKind.i64 0] = true := by kernel_rfl
@[go_sem] theorem Tryz.xfl204_0 : Tryz.prog.fldT 204 0 = some (0, 102) := by kernel_rfl
@[go_sem] theorem Tryz.xfl204_1 : Tryz.prog.fldT 204 1 = some (7, 2) := by kernel_rfl
@[go_sem] theorem Tryz.xfl204_2 : Tryz.prog.fldT 204 2 = some (8, 2) := by kernel_rfl
@[go_sem] theorem Tryz.xfl204_3 : Tryz.prog.fldT 204 3 = some (9, 2) := by kernel_rfl
@[go_sem] theorem Tryz.xsz205 : Tryz.prog.szT 205 = some 10 := by kernel_rfl
@[go_sem] theorem Tryz.xag205 : Tryz.prog.aggT 205 = some true := by kernel_rfl
@[go_sem] theorem Tryz.xel205 : Tryz.prog.elemT 205 = none := by kernel_rfl
@[go_sem] theorem Tryz.xby205 : Tryz.prog.bytesT 205 = some 88 := by kernel_rfl
@[go_sem] theorem Tryz.xpl205 : Tryz.prog.plT 205 = some [(0, 7), (7, 1), (8, 1), (9, 1)] := by kernel_rfl
@[go_sem] theorem Tryz.xze205 : Tryz.prog.zeroT 205 = some [Value.int IntKind.i64 0, Value.string ⟨#[]⟩, Value.int IntKind.i64 0, Value.int IntKind.i64 0, Value.int IntKind.i64 0, Value.int IntKind.i64 0, Value.bool false, Value.int IntKind.i64 0, Value.int IntKind.i64 0, Value.int IntKind.i64 0] := by kernel_rfl
@[go_sem] theorem Tryz.xfl205_0 : Tryz.prog.fldT 205 0 = some (0, 102) := by kernel_rfl
@[go_sem] theorem Tryz.xfl205_1 : Tryz.prog.fldT 205 1 = some (7, 2) := by kernel_rfl
@[go_sem] theorem Tryz.xfl205_2 : Tryz.prog.fldT 205 2 = some (8, 2) := by kernel_rfl
@[go_sem] theorem Tryz.xfl205_3 : Tryz.prog.fldT 205 3 = some (9, 2) := by kernel_rfl
@[go_sem] theorem Tryz.xsz206 : Tryz.prog.szT 206 = some 20 := by kernel_rfl
@[go_sem] theorem Tryz.xag206 : Tryz.prog.aggT 206 = some true := by kernel_rfl
@[go_sem] theorem Tryz.xel206 : Tryz.prog.elemT 206 = none := by kernel_rfl
@[go_sem] theorem Tryz.xby206 : Tryz.prog.bytesT 206 = some 176 := by kernel_rfl
@[go_sem] theorem Tryz.xpl206 : Tryz.prog.plT 206 = some [(0, 10), (10, 10)] := by kernel_rfl
@[go_sem] theorem Tryz.xze206 : Tryz.prog.zeroT 206 = some [Value.int IntKind.i64 0, Value.string ⟨#[]⟩, Value.int IntKind.i64 0, Value.int IntKind.i64 0, Value.int IntKind.i64 0, Value.int IntKind.i64 0, Value.bool false, Value.int IntKind.i64 0, Value.int IntKind.i64 0, Value.int IntKind.i64 0, Value.int IntKind.i64 0, Value.string ⟨#[]⟩, Value.int IntKind.i64 0, Value.int IntKind.i64 0, Value.int IntKind.i64 0, Value.int IntKind.i64 0, Value.bool false, Value.int IntKind.i64 0, Value.int IntKind.i64 0, Value.int IntKind.i64 0] := by kernel_rfl
@[go_sem] theorem Tryz.xzk206 : zeroOk [Value.int IntKind.i64 0, Value.string ⟨#[]⟩, Value.int IntKind.i64 0, Value.int IntKind.i64 0, Value.int IntKind.i64 0, Value.int IntKind.i64 0, Value.bool false, Value.int IntKind.i64 0, Value.int IntKind.i64 0, Value.int IntKind.i64 0, Value.int IntKind.i64 0, Value.string ⟨#[]⟩, Value.int IntKind.i64 0, Value.int IntKind.i64 0, Value.int IntKind.i64 0, Value.int IntKind.i64 0, Value.bool false, Value.int IntKind.i64 0, Value.int IntKind.i64 0, Value.int IntKind.i64 0] = true := by kernel_rfl
@[go_sem] theorem Tryz.xsz207 : Tryz.prog.szT 207 = some 1 := by kernel_rfl
@[go_sem] theorem Tryz.xag207 : Tryz.prog.aggT 207 = some false := by kernel_rfl
@[go_sem] theorem Tryz.xel207 : Tryz.prog.elemT 207 = none := by kernel_rfl
@[go_sem] theorem Tryz.xby207 : Tryz.prog.bytesT 207 = some 8 := by kernel_rfl
@[go_sem] theorem Tryz.xze207 : Tryz.prog.zeroT 207 = some [Value.nilFunc] := by kernel_rfl
@[go_sem] theorem Tryz.xsz208 : Tryz.prog.szT 208 = some 1 := by kernel_rfl
@[go_sem] theorem Tryz.xag208 : Tryz.prog.aggT 208 = some false := by kernel_rfl
@[go_sem] theorem Tryz.xel208 : Tryz.prog.elemT 208 = none := by kernel_rfl
@[go_sem] theorem Tryz.xby208 : Tryz.prog.bytesT 208 = some 8 := by kernel_rfl
@[go_sem] theorem Tryz.xze208 : Tryz.prog.zeroT 208 = some [Value.nilFunc] := by kernel_rfl
@[go_sem] theorem Tryz.xsz209 : Tryz.prog.szT 209 = some 1 := by kernel_rfl
@[go_sem] theorem Tryz.xag209 : Tryz.prog.aggT 209 = some false := by kernel_rfl
@[go_sem] theorem Tryz.xel209 : Tryz.prog.elemT 209 = none := by kernel_rfl
@[go_sem] theorem Tryz.xby209 : Tryz.prog.bytesT 209 = some 8 := by kernel_rfl
@[go_sem] theorem Tryz.xze209 : Tryz.prog.zeroT 209 = some [Value.nilFunc] := by kernel_rfl
@[go_sem] theorem Tryz.xsz210 : Tryz.prog.szT 210 = some 1 := by kernel_rfl
@[go_sem] theorem Tryz.xag210 : Tryz.prog.aggT 210 = some false := by kernel_rfl
@[go_sem] theorem Tryz.xel210 : Tryz.prog.elemT 210 = none := by kernel_rfl
@[go_sem] theorem Tryz.xby210 : Tryz.prog.bytesT 210 = some 8 := by kernel_rfl
@[go_sem] theorem Tryz.xze210 : Tryz.prog.zeroT 210 = some [Value.nilFunc] := by kernel_rfl
@[go_sem] theorem Tryz.xsz211 : Tryz.prog.szT 211 = some 1 := by kernel_rfl
@[go_sem] theorem Tryz.xag211 : Tryz.prog.aggT 211 = some false := by kernel_rfl
@[go_sem] theorem Tryz.xel211 : Tryz.prog.elemT 211 = none := by kernel_rfl
@[go_sem] theorem Tryz.xby211 : Tryz.prog.bytesT 211 = some 0 := by kernel_rfl
@[go_sem] theorem Tryz.xsz212 : Tryz.prog.szT 212 = some 1 := by kernel_rfl
@[go_sem] theorem Tryz.xag212 : Tryz.prog.aggT 212 = some false := by kernel_rfl
@[go_sem] theorem Tryz.xel212 : Tryz.prog.elemT 212 = none := by kernel_rfl
@[go_sem] theorem Tryz.xby212 : Tryz.prog.bytesT 212 = some 8 := by kernel_rfl
@[go_sem] theorem Tryz.xze212 : Tryz.prog.zeroT 212 = some [Value.nilFunc] := by kernel_rfl
@[go_sem] theorem Tryz.xsz213 : Tryz.prog.szT 213 = some 1 := by kernel_rfl
@[go_sem] theorem Tryz.xag213 : Tryz.prog.aggT 213 = some false := by kernel_rfl
@[go_sem] theorem Tryz.xel213 : Tryz.prog.elemT 213 = none := by kernel_rfl
@[go_sem] theorem Tryz.xby213 : Tryz.prog.bytesT 213 = some 8 := by kernel_rfl
@[go_sem] theorem Tryz.xze213 : Tryz.prog.zeroT 213 = some [Value.nilFunc] := by kernel_rfl
@[go_sem] theorem Tryz.xsz214 : Tryz.prog.szT 214 = some 1 := by kernel_rfl
@[go_sem] theorem Tryz.xag214 : Tryz.prog.aggT 214 = some false := by kernel_rfl
@[go_sem] theorem Tryz.xel214 : Tryz.prog.elemT 214 = none := by kernel_rfl
@[go_sem] theorem Tryz.xby214 : Tryz.prog.bytesT 214 = some 0 := by kernel_rfl
@[go_sem] theorem Tryz.xsz215 : Tryz.prog.szT 215 = some 1 := by kernel_rfl
@[go_sem] theorem Tryz.xag215 : Tryz.prog.aggT 215 = some false := by kernel_rfl
@[go_sem] theorem Tryz.xel215 : Tryz.prog.elemT 215 = none := by kernel_rfl
@[go_sem] theorem Tryz.xby215 : Tryz.prog.bytesT 215 = some 8 := by kernel_rfl
@[go_sem] theorem Tryz.xze215 : Tryz.prog.zeroT 215 = some [Value.nilFunc] := by kernel_rfl
@[go_sem] theorem Tryz.xsz216 : Tryz.prog.szT 216 = some 1 := by kernel_rfl
@[go_sem] theorem Tryz.xag216 : Tryz.prog.aggT 216 = some false := by kernel_rfl
@[go_sem] theorem Tryz.xel216 : Tryz.prog.elemT 216 = none := by kernel_rfl
@[go_sem] theorem Tryz.xby216 : Tryz.prog.bytesT 216 = some 8 := by kernel_rfl
@[go_sem] theorem Tryz.xze216 : Tryz.prog.zeroT 216 = some [Value.nilFunc] := by kernel_rfl
@[go_sem] theorem Tryz.xsz217 : Tryz.prog.szT 217 = some 1 := by kernel_rfl
@[go_sem] theorem Tryz.xag217 : Tryz.prog.aggT 217 = some false := by kernel_rfl
@[go_sem] theorem Tryz.xel217 : Tryz.prog.elemT 217 = none := by kernel_rfl
@[go_sem] theorem Tryz.xby217 : Tryz.prog.bytesT 217 = some 8 := by kernel_rfl
@[go_sem] theorem Tryz.xze217 : Tryz.prog.zeroT 217 = some [Value.nilFunc] := by kernel_rfl
@[go_sem] theorem Tryz.xsz218 : Tryz.prog.szT 218 = some 1 := by kernel_rfl
@[go_sem] theorem Tryz.xag218 : Tryz.prog.aggT 218 = some false := by kernel_rfl
@[go_sem] theorem Tryz.xel218 : Tryz.prog.elemT 218 = none := by kernel_rfl
@[go_sem] theorem Tryz.xby218 : Tryz.prog.bytesT 218 = some 8 := by kernel_rfl
@[go_sem] theorem Tryz.xze218 : Tryz.prog.zeroT 218 = some [Value.nilFunc] := by kernel_rfl
@[go_sem] theorem Tryz.xsz219 : Tryz.prog.szT 219 = some 1 := by kernel_rfl
@[go_sem] theorem Tryz.xag219 : Tryz.prog.aggT 219 = some false := by kernel_rfl
@[go_sem] theorem Tryz.xel219 : Tryz.prog.elemT 219 = none := by kernel_rfl
@[go_sem] theorem Tryz.xby219 : Tryz.prog.bytesT 219 = some 8 := by kernel_rfl
@[go_sem] theorem Tryz.xze219 : Tryz.prog.zeroT 219 = some [Value.int IntKind.u64 0] := by kernel_rfl
@[go_sem] theorem Tryz.xsz220 : Tryz.prog.szT 220 = some 1 := by kernel_rfl
@[go_sem] theorem Tryz.xag220 : Tryz.prog.aggT 220 = some false := by kernel_rfl
@[go_sem] theorem Tryz.xel220 : Tryz.prog.elemT 220 = none := by kernel_rfl
@[go_sem] theorem Tryz.xby220 : Tryz.prog.bytesT 220 = some 8 := by kernel_rfl
@[go_sem] theorem Tryz.xze220 : Tryz.prog.zeroT 220 = some [Value.nilFunc] := by kernel_rfl
@[go_sem] theorem Tryz.xsz221 : Tryz.prog.szT 221 = some 1 := by kernel_rfl
@[go_sem] theorem Tryz.xag221 : Tryz.prog.aggT 221 = some false := by kernel_rfl
@[go_sem] theorem Tryz.xel221 : Tryz.prog.elemT 221 = none := by kernel_rfl
@[go_sem] theorem Tryz.xby221 : Tryz.prog.bytesT 221 = some 8 := by kernel_rfl
@[go_sem] theorem Tryz.xze221 : Tryz.prog.zeroT 221 = some [Value.nilFunc] := by kernel_rfl
@[go_sem] theorem Tryz.xsz222 : Tryz.prog.szT 222 = some 1 := by kernel_rfl
@[go_sem] theorem Tryz.xag222 : Tryz.prog.aggT 222 = some false := by kernel_rfl
@[go_sem] theorem Tryz.xel222 : Tryz.prog.elemT 222 = none := by kernel_rfl
@[go_sem] theorem Tryz.xby222 : Tryz.prog.bytesT 222 = some 8 := by kernel_rfl
@[go_sem] theorem Tryz.xze222 : Tryz.prog.zeroT 222 = some [Value.nilFunc] := by kernel_rfl
@[go_sem] theorem Tryz.xsz223 : Tryz.prog.szT 223 = some 1 := by kernel_rfl
@[go_sem] theorem Tryz.xag223 : Tryz.prog.aggT 223 = some false := by kernel_rfl
@[go_sem] theorem Tryz.xel223 : Tryz.prog.elemT 223 = none := by kernel_rfl
@[go_sem] theorem Tryz.xby223 : Tryz.prog.bytesT 223 = some 8 := by kernel_rfl
@[go_sem] theorem Tryz.xze223 : Tryz.prog.zeroT 223 = some [Value.nilFunc] := by kernel_rfl
@[go_sem] theorem Tryz.xsz224 : Tryz.prog.szT 224 = some 1 := by kernel_rfl
@[go_sem] theorem Tryz.xag224 : Tryz.prog.aggT 224 = some false := by kernel_rfl
@[go_sem] theorem Tryz.xel224 : Tryz.prog.elemT 224 = none := by kernel_rfl
@[go_sem] theorem Tryz.xby224 : Tryz.prog.bytesT 224 = some 8 := by kernel_rfl
@[go_sem] theorem Tryz.xze224 : Tryz.prog.zeroT 224 = some [Value.nilFunc] := by kernel_rfl
@[go_sem] theorem Tryz.xsz225 : Tryz.prog.szT 225 = some 1 := by kernel_rfl
@[go_sem] theorem Tryz.xag225 : Tryz.prog.aggT 225 = some false := by kernel_rfl
@[go_sem] theorem Tryz.xel225 : Tryz.prog.elemT 225 = none := by kernel_rfl
@[go_sem] theorem Tryz.xby225 : Tryz.prog.bytesT 225 = some 8 := by kernel_rfl
@[go_sem] theorem Tryz.xze225 : Tryz.prog.zeroT 225 = some [Value.nilFunc] := by kernel_rfl
@[go_sem] theorem Tryz.xsz226 : Tryz.prog.szT 226 = some 1 := by kernel_rfl
@[go_sem] theorem Tryz.xag226 : Tryz.prog.aggT 226 = some false := by kernel_rfl
@[go_sem] theorem Tryz.xel226 : Tryz.prog.elemT 226 = none := by kernel_rfl
@[go_sem] theorem Tryz.xby226 : Tryz.prog.bytesT 226 = some 8 := by kernel_rfl
@[go_sem] theorem Tryz.xze226 : Tryz.prog.zeroT 226 = some [Value.nilFunc] := by kernel_rfl
@[go_sem] theorem Tryz.xsz227 : Tryz.prog.szT 227 = some 1 := by kernel_rfl
@[go_sem] theorem Tryz.xag227 : Tryz.prog.aggT 227 = some false := by kernel_rfl
@[go_sem] theorem Tryz.xel227 : Tryz.prog.elemT 227 = none := by kernel_rfl
@[go_sem] theorem Tryz.xby227 : Tryz.prog.bytesT 227 = some 8 := by kernel_rfl
@[go_sem] theorem Tryz.xze227 : Tryz.prog.zeroT 227 = some [Value.nilFunc] := by kernel_rfl
@[go_sem] theorem Tryz.xsz228 : Tryz.prog.szT 228 = some 1 := by kernel_rfl
@[go_sem] theorem Tryz.xag228 : Tryz.prog.aggT 228 = some false := by kernel_rfl
@[go_sem] theorem Tryz.xel228 : Tryz.prog.elemT 228 = none := by kernel_rfl
@[go_sem] theorem Tryz.xby228 : Tryz.prog.bytesT 228 = some 0 := by kernel_rfl
@[go_sem] theorem Tryz.xsz229 : Tryz.prog.szT 229 = some 3 := by kernel_rfl
@[go_sem] theorem Tryz.xag229 : Tryz.prog.aggT 229 = some true := by kernel_rfl
@[go_sem] theorem Tryz.xel229 : Tryz.prog.elemT 229 = none := by kernel_rfl
@[go_sem] theorem Tryz.xby229 : Tryz.prog.bytesT 229 = some 24 := by kernel_rfl
@[go_sem] theorem Tryz.xpl229 : Tryz.prog.plT 229 = some [(0, 1), (1, 1), (2, 1)] := by kernel_rfl
@[go_sem] theorem Tryz.xze229 : Tryz.prog.zeroT 229 = some [Value.bool false, Value.int IntKind.u64 0, Value.int IntKind.u64 0] := by kernel_rfl
@[go_sem] theorem Tryz.xzk229 : zeroOk [Value.bool false, Value.int IntKind.u64 0, Value.int IntKind.u64 0] = true := by kernel_rfl
@[go_sem] theorem Tryz.xfl229_0 : Tryz.prog.fldT 229 0 = some (0, 4) := by kernel_rfl
@[go_sem] theorem Tryz.xfl229_1 : Tryz.prog.fldT 229 1 = some (1, 65) := by kernel_rfl
@[go_sem] theorem Tryz.xfl229_2 : Tryz.prog.fldT 229 2 = some (2, 65) := by kernel_rfl
@[go_sem] theorem Tryz.xsz230 : Tryz.prog.szT 230 = some 3 := by kernel_rfl
@[go_sem] theorem Tryz.xag230 : Tryz.prog.aggT 230 = some true := by kernel_rfl
@[go_sem] theorem Tryz.xel230 : Tryz.prog.elemT 230 = none := by kernel_rfl
@[go_sem] theorem Tryz.xby230 : Tryz.prog.bytesT 230 = some 24 := by kernel_rfl
@[go_sem] theorem Tryz.xpl230 : Tryz.prog.plT 230 = some [(0, 1), (1, 1), (2, 1)] := by kernel_rfl
@[go_sem] theorem Tryz.xze230 : Tryz.prog.zeroT 230 = some [Value.bool false, Value.int IntKind.u64 0, Value.int IntKind.u64 0] := by kernel_rfl
@[go_sem] theorem Tryz.xfl230_0 : Tryz.prog.fldT 230 0 = some (0, 4) := by kernel_rfl
@[go_sem] theorem Tryz.xfl230_1 : Tryz.prog.fldT 230 1 = some (1, 65) := by kernel_rfl
@[go_sem] theorem Tryz.xfl230_2 : Tryz.prog.fldT 230 2 = some (2, 65) := by kernel_rfl
@[go_sem] theorem Tryz.xsz231 : Tryz.prog.szT 231 = some 1 := by kernel_rfl
@[go_sem] theorem Tryz.xag231 : Tryz.prog.aggT 231 = some false := by kernel_rfl
@[go_sem] theorem Tryz.xel231 : Tryz.prog.elemT 231 = none := by kernel_rfl
@[go_sem] theorem Tryz.xby231 : Tryz.prog.bytesT 231 = some 8 := by kernel_rfl
@[go_sem] theorem Tryz.xze231 : Tryz.prog.zeroT 231 = some [Value.nilFunc] := by kernel_rfl
@[go_sem] theorem Tryz.xsz232 : Tryz.prog.szT 232 = some 1 := by kernel_rfl
@[go_sem] theorem Tryz.xag232 : Tryz.prog.aggT 232 = some false := by kernel_rfl
@[go_sem] theorem Tryz.xel232 : Tryz.prog.elemT 232 = none := by kernel_rfl
@[go_sem] theorem Tryz.xby232 : Tryz.prog.bytesT 232 = some 8 := by kernel_rfl
@[go_sem] theorem Tryz.xze232 : Tryz.prog.zeroT 232 = some [Value.nilFunc] := by kernel_rfl
@[go_sem] theorem Tryz.xsz233 : Tryz.prog.szT 233 = some 1 := by kernel_rfl
@[go_sem] theorem Tryz.xag233 : Tryz.prog.aggT 233 = some false := by kernel_rfl
@[go_sem] theorem Tryz.xel233 : Tryz.prog.elemT 233 = none := by kernel_rfl
@[go_sem] theorem Tryz.xby233 : Tryz.prog.bytesT 233 = some 8 := by kernel_rfl
@[go_sem] theorem Tryz.xze233 : Tryz.prog.zeroT 233 = some [Value.nilFunc] := by kernel_rfl
@[go_sem] theorem Tryz.xsz234 : Tryz.prog.szT 234 = some 1 := by kernel_rfl
@[go_sem] theorem Tryz.xag234 : Tryz.prog.aggT 234 = some false := by kernel_rfl
@[go_sem] theorem Tryz.xel234 : Tryz.prog.elemT 234 = none := by kernel_rfl
@[go_sem] theorem Tryz.xby234 : Tryz.prog.bytesT 234 = some 8 := by kernel_rfl
@[go_sem] theorem Tryz.xze234 : Tryz.prog.zeroT 234 = some [Value.nilFunc] := by kernel_rfl
@[go_sem] theorem Tryz.xsz235 : Tryz.prog.szT 235 = some 1 := by kernel_rfl
@[go_sem] theorem Tryz.xag235 : Tryz.prog.aggT 235 = some false := by kernel_rfl
@[go_sem] theorem Tryz.xel235 : Tryz.prog.elemT 235 = none := by kernel_rfl
@[go_sem] theorem Tryz.xby235 : Tryz.prog.bytesT 235 = some 8 := by kernel_rfl
@[go_sem] theorem Tryz.xze235 : Tryz.prog.zeroT 235 = some [Value.nilFunc] := by kernel_rfl
@[go_sem] theorem Tryz.xsz236 : Tryz.prog.szT 236 = some 1 := by kernel_rfl
@[go_sem] theorem Tryz.xag236 : Tryz.prog.aggT 236 = some false := by kernel_rfl
@[go_sem] theorem Tryz.xel236 : Tryz.prog.elemT 236 = none := by kernel_rfl
@[go_sem] theorem Tryz.xby236 : Tryz.prog.bytesT 236 = some 8 := by kernel_rfl
@[go_sem] theorem Tryz.xze236 : Tryz.prog.zeroT 236 = some [Value.nilFunc] := by kernel_rfl
@[go_sem] theorem Tryz.xsz237 : Tryz.prog.szT 237 = some 1 := by kernel_rfl
@[go_sem] theorem Tryz.xag237 : Tryz.prog.aggT 237 = some false := by kernel_rfl
@[go_sem] theorem Tryz.xel237 : Tryz.prog.elemT 237 = none := by kernel_rfl
@[go_sem] theorem Tryz.xby237 : Tryz.prog.bytesT 237 = some 0 := by kernel_rfl
@[go_sem] theorem Tryz.xsz238 : Tryz.prog.szT 238 = some 1 := by kernel_rfl
@[go_sem] theorem Tryz.xag238 : Tryz.prog.aggT 238 = some false := by kernel_rfl
@[go_sem] theorem Tryz.xel238 : Tryz.prog.elemT 238 = none := by kernel_rfl
@[go_sem] theorem Tryz.xby238 : Tryz.prog.bytesT 238 = some 8 := by kernel_rfl
@[go_sem] theorem Tryz.xze238 : Tryz.prog.zeroT 238 = some [Value.nilFunc] := by kernel_rfl
@[go_sem] theorem Tryz.xsz239 : Tryz.prog.szT 239 = some 1 := by kernel_rfl
@[go_sem] theorem Tryz.xag239 : Tryz.prog.aggT 239 = some false := by kernel_rfl
@[go_sem] theorem Tryz.xel239 : Tryz.prog.elemT 239 = none := by kernel_rfl
@[go_sem] theorem Tryz.xby239 : Tryz.prog.bytesT 239 = some 8 := by kernel_rfl
@[go_sem] theorem Tryz.xze239 : Tryz.prog.zeroT 239 = some [Value.nilFunc] := by kernel_rfl
@[go_sem] theorem Tryz.xsz240 : Tryz.prog.szT 240 = some 1 := by kernel_rfl
@[go_sem] theorem Tryz.xag240 : Tryz.prog.aggT 240 = some false := by kernel_rfl
@[go_sem] theorem Tryz.xel240 : Tryz.prog.elemT 240 = none := by kernel_rfl
@[go_sem] theorem Tryz.xby240 : Tryz.prog.bytesT 240 = some 8 := by kernel_rfl
@[go_sem] theorem Tryz.xze240 : Tryz.prog.zeroT 240 = some [Value.int IntKind.i64 0] := by kernel_rfl
@[go_sem] theorem Tryz.xsz241 : Tryz.prog.szT 241 = some 1 := by kernel_rfl
@[go_sem] theorem Tryz.xag241 : Tryz.prog.aggT 241 = some false := by kernel_rfl
@[go_sem] theorem Tryz.xel241 : Tryz.prog.elemT 241 = none := by kernel_rfl
@[go_sem] theorem Tryz.xby241 : Tryz.prog.bytesT 241 = some 0 := by kernel_rfl
@[go_sem] theorem Tryz.xsz242 : Tryz.prog.szT 242 = some 1 := by kernel_rfl
@[go_sem] theorem Tryz.xag242 : Tryz.prog.aggT 242 = some false := by kernel_rfl
@[go_sem] theorem Tryz.xel242 : Tryz.prog.elemT 242 = none := by kernel_rfl
@[go_sem] theorem Tryz.xby242 : Tryz.prog.bytesT 242 = some 8 := by kernel_rfl
@[go_sem] theorem Tryz.xze242 : Tryz.prog.zeroT 242 = some [Value.nilFunc] := by kernel_rfl
@[go_sem] theorem Tryz.xsz243 : Tryz.prog.szT 243 = some 1 := by kernel_rfl
@[go_sem] theorem Tryz.xag243 : Tryz.prog.aggT 243 = some false := by kernel_rfl
@[go_sem] theorem Tryz.xel243 : Tryz.prog.elemT 243 = none := by kernel_rfl
@[go_sem] theorem Tryz.xby243 : Tryz.prog.bytesT 243 = some 8 := by kernel_rfl
@[go_sem] theorem Tryz.xze243 : Tryz.prog.zeroT 243 = some [Value.nilFunc] := by kernel_rfl
@[go_sem] theorem Tryz.xsz244 : Tryz.prog.szT 244 = some 1 := by kernel_rfl
@[go_sem] theorem Tryz.xag244 : Tryz.prog.aggT 244 = some false := by kernel_rfl
@[go_sem] theorem Tryz.xel244 : Tryz.prog.elemT 244 = none := by kernel_rfl
@[go_sem] theorem Tryz.xby244 : Tryz.prog.bytesT 244 = some 8 := by kernel_rfl
@[go_sem] theorem Tryz.xze244 : Tryz.prog.zeroT 244 = some [Value.nilFunc] := by kernel_rfl
@[go_sem] theorem Tryz.xsz245 : Tryz.prog.szT 245 = some 1 := by kernel_rfl
@[go_sem] theorem Tryz.xag245 : Tryz.prog.aggT 245 = some false := by kernel_rfl
@[go_sem] theorem Tryz.xel245 : Tryz.prog.elemT 245 = none := by kernel_rfl
@[go_sem] theorem Tryz.xby245 : Tryz.prog.bytesT 245 = some 8 := by kernel_rfl
@[go_sem] theorem Tryz.xze245 : Tryz.prog.zeroT 245 = some [Value.nilFunc] := by kernel_rfl
@[go_sem] theorem Tryz.xsz246 : Tryz.prog.szT 246 = some 1 := by kernel_rfl
@[go_sem] theorem Tryz.xag246 : Tryz.prog.aggT 246 = some false := by kernel_rfl
@[go_sem] theorem Tryz.xel246 : Tryz.prog.elemT 246 = none := by kernel_rfl
@[go_sem] theorem Tryz.xby246 : Tryz.prog.bytesT 246 = some 0 := by kernel_rfl
@[go_sem] theorem Tryz.xsz247 : Tryz.prog.szT 247 = some 1 := by kernel_rfl
@[go_sem] theorem Tryz.xag247 : Tryz.prog.aggT 247 = some false := by kernel_rfl
@[go_sem] theorem Tryz.xel247 : Tryz.prog.elemT 247 = none := by kernel_rfl
@[go_sem] theorem Tryz.xby247 : Tryz.prog.bytesT 247 = some 8 := by kernel_rfl
@[go_sem] theorem Tryz.xze247 : Tryz.prog.zeroT 247 = some [Value.nilFunc] := by kernel_rfl
@[go_sem] theorem Tryz.xsz248 : Tryz.prog.szT 248 = some 1 := by kernel_rfl
@[go_sem] theorem Tryz.xag248 : Tryz.prog.aggT 248 = some false := by kernel_rfl
@[go_sem] theorem Tryz.xel248 : Tryz.prog.elemT 248 = none := by kernel_rfl
@[go_sem] theorem Tryz.xby248 : Tryz.prog.bytesT 248 = some 8 := by kernel_rfl
@[go_sem] theorem Tryz.xze248 : Tryz.prog.zeroT 248 = some [Value.nilFunc] := by kernel_rfl
@[go_sem] theorem Tryz.xsz249 : Tryz.prog.szT 249 = some 1 := by kernel_rfl
@[go_sem] theorem Tryz.xag249 : Tryz.prog.aggT 249 = some false := by kernel_rfl
@[go_sem] theorem Tryz.xel249 : Tryz.prog.elemT 249 = none := by kernel_rfl
@[go_sem] theorem Tryz.xby249 : Tryz.prog.bytesT 249 = some 4 := by kernel_rfl
@[go_sem] theorem Tryz.xze249 : Tryz.prog.zeroT 249 = some [Value.int IntKind.u32 0] := by kernel_rfl
@[go_sem] theorem Tryz.xzk249 : zeroOk [Value.int IntKind.u32 0] = true := by kernel_rfl
@[go_sem] theorem Tryz.xsz250 : Tryz.prog.szT 250 = some 1 := by kernel_rfl
@[go_sem] theorem Tryz.xag250 : Tryz.prog.aggT 250 = some false := by kernel_rfl
@[go_sem] theorem Tryz.xel250 : Tryz.prog.elemT 250 = none := by kernel_rfl
@[go_sem] theorem Tryz.xby250 : Tryz.prog.bytesT 250 = some 8 := by kernel_rfl
@[go_sem] theorem Tryz.xze250 : Tryz.prog.zeroT 250 = some [Value.nilFunc] := by kernel_rfl
@[go_sem] theorem Tryz.xsz251 : Tryz.prog.szT 251 = some 1 := by kernel_rfl
@[go_sem] theorem Tryz.xag251 : Tryz.prog.aggT 251 = some false := by kernel_rfl
@[go_sem] theorem Tryz.xel251 : Tryz.prog.elemT 251 = none := by kernel_rfl
@[go_sem] theorem Tryz.xby251 : Tryz.prog.bytesT 251 = some 8 := by kernel_rfl
@[go_sem] theorem Tryz.xze251 : Tryz.prog.zeroT 251 = some [Value.nilFunc] := by kernel_rfl
@[go_sem] theorem Tryz.xsz252 : Tryz.prog.szT 252 = some 1 := by kernel_rfl
@[go_sem] theorem Tryz.xag252 : Tryz.prog.aggT 252 = some false := by kernel_rfl
@[go_sem] theorem Tryz.xel252 : Tryz.prog.elemT 252 = none := by kernel_rfl
@[go_sem] theorem Tryz.xby252 : Tryz.prog.bytesT 252 = some 0 := by kernel_rfl
@[go_sem] theorem Tryz.xsz253 : Tryz.prog.szT 253 = some 1 := by kernel_rfl
@[go_sem] theorem Tryz.xag253 : Tryz.prog.aggT 253 = some false := by kernel_rfl
@[go_sem] theorem Tryz.xel253 : Tryz.prog.elemT 253 = none := by kernel_rfl
@[go_sem] theorem Tryz.xby253 : Tryz.prog.bytesT 253 = some 8 := by kernel_rfl
@[go_sem] theorem Tryz.xze253 : Tryz.prog.zeroT 253 = some [Value.nilFunc] := by kernel_rfl
@[go_sem] theorem Tryz.xsz254 : Tryz.prog.szT 254 = some 1 := by kernel_rfl
@[go_sem] theorem Tryz.xag254 : Tryz.prog.aggT 254 = some false := by kernel_rfl
@[go_sem] theorem Tryz.xel254 : Tryz.prog.elemT 254 = none := by kernel_rfl
@[go_sem] theorem Tryz.xby254 : Tryz.prog.bytesT 254 = some 8 := by kernel_rfl
@[go_sem] theorem Tryz.xze254 : Tryz.prog.zeroT 254 = some [Value.nilFunc] := by kernel_rfl
@[go_sem] theorem Tryz.xsz255 : Tryz.prog.szT 255 = some 1 := by kernel_rfl
@[go_sem] theorem Tryz.xag255 : Tryz.prog.aggT 255 = some false := by kernel_rfl
@[go_sem] theorem Tryz.xel255 : Tryz.prog.elemT 255 = none := by kernel_rfl
@[go_sem] theorem Tryz.xby255 : Tryz.prog.bytesT 255 = some 8 := by kernel_rfl
@[go_sem] theorem Tryz.xze255 : Tryz.prog.zeroT 255 = some [Value.nilFunc] := by kernel_rfl
@[go_sem] theorem Tryz.xsz256 : Tryz.prog.szT 256 = some 1 := by kernel_rfl
@[go_sem] theorem Tryz.xag256 : Tryz.prog.aggT 256 = some false := by kernel_rfl
@[go_sem] theorem Tryz.xel256 : Tryz.prog.elemT 256 = none := by kernel_rfl
@[go_sem] theorem Tryz.xby256 : Tryz.prog.bytesT 256 = some 8 := by kernel_rfl
@[go_sem] theorem Tryz.xze256 : Tryz.prog.zeroT 256 = some [Value.int IntKind.u64 0] := by kernel_rfl
@[go_sem] theorem Tryz.xsz257 : Tryz.prog.szT 257 = some 1 := by kernel_rfl
@[go_sem] theorem Tryz.xag257 : Tryz.prog.aggT 257 = some false := by kernel_rfl
@[go_sem] theorem Tryz.xel257 : Tryz.prog.elemT 257 = none := by kernel_rfl
@[go_sem] theorem Tryz.xby257 : Tryz.prog.bytesT 257 = some 8 := by kernel_rfl
@[go_sem] theorem Tryz.xze257 : Tryz.prog.zeroT 257 = some [Value.nilFunc] := by kernel_rfl
@[go_sem] theorem Tryz.xsz258 : Tryz.prog.szT 258 = some 1 := by kernel_rfl
@[go_sem] theorem Tryz.xag258 : Tryz.prog.aggT 258 = some false := by kernel_rfl
@[go_sem] theorem Tryz.xel258 : Tryz.prog.elemT 258 = none := by kernel_rfl
@[go_sem] theorem Tryz.xby258 : Tryz.prog.bytesT 258 = some 8 := by kernel_rfl
@[go_sem] theorem Tryz.xze258 : Tryz.prog.zeroT 258 = some [Value.nilFunc] := by kernel_rfl
@[go_sem] theorem Tryz.xsz259 : Tryz.prog.szT 259 = some 1 := by kernel_rfl
@[go_sem] theorem Tryz.xag259 : Tryz.prog.aggT 259 = some false := by kernel_rfl
@[go_sem] theorem Tryz.xel259 : Tryz.prog.elemT 259 = none := by kernel_rfl
@[go_sem] theorem Tryz.xby259 : Tryz.prog.bytesT 259 = some 8 := by kernel_rfl
@[go_sem] theorem Tryz.xze259 : Tryz.prog.zeroT 259 = some [Value.nilFunc] := by kernel_rfl
@[go_sem] theorem Tryz.xsz260 : Tryz.prog.szT 260 = some 1 := by kernel_rfl
@[go_sem] theorem Tryz.xag260 : Tryz.prog.aggT 260 = some false := by kernel_rfl
@[go_sem] theorem Tryz.xel260 : Tryz.prog.elemT 260 = none := by kernel_rfl
@[go_sem] theorem Tryz.xby260 : Tryz.prog.bytesT 260 = some 8 := by kernel_rfl
@[go_sem] theorem Tryz.xze260 : Tryz.prog.zeroT 260 = some [Value.pointer none] := by kernel_rfl
@[go_sem] theorem Tryz.xsz261 : Tryz.prog.szT 261 = some 1 := by kernel_rfl
@[go_sem] theorem Tryz.xag261 : Tryz.prog.aggT 261 = some false := by kernel_rfl
@[go_sem] theorem Tryz.xel261 : Tryz.prog.elemT 261 = none := by kernel_rfl
@[go_sem] theorem Tryz.xby261 : Tryz.prog.bytesT 261 = some 8 := by kernel_rfl
@[go_sem] theorem Tryz.xze261 : Tryz.prog.zeroT 261 = some [Value.nilFunc] := by kernel_rfl
@[go_sem] theorem Tryz.xsz262 : Tryz.prog.szT 262 = some 1 := by kernel_rfl
@[go_sem] theorem Tryz.xag262 : Tryz.prog.aggT 262 = some false := by kernel_rfl
@[go_sem] theorem Tryz.xel262 : Tryz.prog.elemT 262 = none := by kernel_rfl
@[go_sem] theorem Tryz.xby262 : Tryz.prog.bytesT 262 = some 16 := by kernel_rfl
@[go_sem] theorem Tryz.xze262 : Tryz.prog.zeroT 262 = some [Value.nilIface] := by kernel_rfl
@[go_sem] theorem Tryz.xsz263 : Tryz.prog.szT 263 = some 1 := by kernel_rfl
@[go_sem] theorem Tryz.xag263 : Tryz.prog.aggT 263 = some false := by kernel_rfl
@[go_sem] theorem Tryz.xel263 : Tryz.prog.elemT 263 = none := by kernel_rfl
@[go_sem] theorem Tryz.xby263 : Tryz.prog.bytesT 263 = some 16 := by kernel_rfl
@[go_sem] theorem Tryz.xze263 : Tryz.prog.zeroT 263 = some [Value.nilIface] := by kernel_rfl
@[go_sem] theorem Tryz.xsz264 : Tryz.prog.szT 264 = some 1 := by kernel_rfl
@[go_sem] theorem Tryz.xag264 : Tryz.prog.aggT 264 = some false := by kernel_rfl
@[go_sem] theorem Tryz.xel264 : Tryz.prog.elemT 264 = none := by kernel_rfl
@[go_sem] theorem Tryz.xby264 : Tryz.prog.bytesT 264 = some 8 := by kernel_rfl
@[go_sem] theorem Tryz.xze264 : Tryz.prog.zeroT 264 = some [Value.pointer none] := by kernel_rfl
@[go_sem] theorem Tryz.xsz265 : Tryz.prog.szT 265 = some 1 := by kernel_rfl
@[go_sem] theorem Tryz.xag265 : Tryz.prog.aggT 265 = some false := by kernel_rfl
@[go_sem] theorem Tryz.xel265 : Tryz.prog.elemT 265 = none := by kernel_rfl
@[go_sem] theorem Tryz.xby265 : Tryz.prog.bytesT 265 = some 0 := by kernel_rfl
@[go_sem] theorem Tryz.xsz266 : Tryz.prog.szT 266 = some 1 := by kernel_rfl
@[go_sem] theorem Tryz.xag266 : Tryz.prog.aggT 266 = some false := by kernel_rfl
@[go_sem] theorem Tryz.xel266 : Tryz.prog.elemT 266 = none := by kernel_rfl
@[go_sem] theorem Tryz.xby266 : Tryz.prog.bytesT 266 = some 8 := by kernel_rfl
@[go_sem] theorem Tryz.xze266 : Tryz.prog.zeroT 266 = some [Value.nilFunc] := by kernel_rfl
@[go_sem] theorem Tryz.xsz267 : Tryz.prog.szT 267 = some 1 := by kernel_rfl
@[go_sem] theorem Tryz.xag267 : Tryz.prog.aggT 267 = some false := by kernel_rfl
@[go_sem] theorem Tryz.xel267 : Tryz.prog.elemT 267 = none := by kernel_rfl
@[go_sem] theorem Tryz.xby267 : Tryz.prog.bytesT 267 = some 8 := by kernel_rfl
@[go_sem] theorem Tryz.xze267 : Tryz.prog.zeroT 267 = some [Value.pointer none] := by kernel_rfl
@[go_sem] theorem Tryz.xsz268 : Tryz.prog.szT 268 = some 1 := by kernel_rfl
@[go_sem] theorem Tryz.xag268 : Tryz.prog.aggT 268 = some false := by kernel_rfl
@[go_sem] theorem Tryz.xel268 : Tryz.prog.elemT 268 = none := by kernel_rfl
@[go_sem] theorem Tryz.xby268 : Tryz.prog.bytesT 268 = some 8 := by kernel_rfl
@[go_sem] theorem Tryz.xze268 : Tryz.prog.zeroT 268 = some [Value.nilFunc] := by kernel_rfl
@[go_sem] theorem Tryz.xsz269 : Tryz.prog.szT 269 = some 4 := by kernel_rfl
@[go_sem] theorem Tryz.xag269 : Tryz.prog.aggT 269 = some true := by kernel_rfl
@[go_sem] theorem Tryz.xel269 : Tryz.prog.elemT 269 = none := by kernel_rfl
@[go_sem] theorem Tryz.xby269 : Tryz.prog.bytesT 269 = some 40 := by kernel_rfl
@[go_sem] theorem Tryz.xpl269 : Tryz.prog.plT 269 = some [(0, 1), (1, 1), (2, 1), (3, 1)] := by kernel_rfl
@[go_sem] theorem Tryz.xze269 : Tryz.prog.zeroT 269 = some [Value.pointer none, Value.pointer none, Value.pointer none, Value.string ⟨#[]⟩] := by kernel_rfl
@[go_sem] theorem Tryz.xzk269 : zeroOk [Value.pointer none, Value.pointer none, Value.pointer none, Value.string ⟨#[]⟩] = true := by kernel_rfl
@[go_sem] theorem Tryz.xfl269_0 : Tryz.prog.fldT 269 0 = some (0, 17) := by kernel_rfl
@[go_sem] theorem Tryz.xfl269_1 : Tryz.prog.fldT 269 1 = some (1, 17) := by kernel_rfl
@[go_sem] theorem Tryz.xfl269_2 : Tryz.prog.fldT 269 2 = some (2, 17) := by kernel_rfl
@[go_sem] theorem Tryz.xfl269_3 : Tryz.prog.fldT 269 3 = some (3, 9) := by kernel_rfl
@[go_sem] theorem Tryz.xsz270 : Tryz.prog.szT 270 = some 4 := by kernel_rfl
@[go_sem] theorem Tryz.xag270 : Tryz.prog.aggT 270 = some true := by kernel_rfl
@[go_sem] theorem Tryz.xel270 : Tryz.prog.elemT 270 = none := by kernel_rfl
@[go_sem] theorem Tryz.xby270 : Tryz.prog.bytesT 270 = some 40 := by kernel_rfl
@[go_sem] theorem Tryz.xpl270 : Tryz.prog.plT 270 = some [(0, 1), (1, 1), (2, 1), (3, 1)] := by kernel_rfl
@[go_sem] theorem Tryz.xze270 : Tryz.prog.zeroT 270 = some [Value.pointer none, Value.pointer none, Value.pointer none, Value.string ⟨#[]⟩] := by kernel_rfl
@[go_sem] theorem Tryz.xfl270_0 : Tryz.prog.fldT 270 0 = some (0, 17) := by kernel_rfl
@[go_sem] theorem Tryz.xfl270_1 : Tryz.prog.fldT 270 1 = some (1, 17) := by kernel_rfl
@[go_sem] theorem Tryz.xfl270_2 : Tryz.prog.fldT 270 2 = some (2, 17) := by kernel_rfl
@[go_sem] theorem Tryz.xfl270_3 : Tryz.prog.fldT 270 3 = some (3, 9) := by kernel_rfl
@[go_sem] theorem Tryz.xsz271 : Tryz.prog.szT 271 = some 0 := by kernel_rfl
@[go_sem] theorem Tryz.xag271 : Tryz.prog.aggT 271 = some true := by kernel_rfl
@[go_sem] theorem Tryz.xel271 : Tryz.prog.elemT 271 = none := by kernel_rfl
@[go_sem] theorem Tryz.xby271 : Tryz.prog.bytesT 271 = some 0 := by kernel_rfl
@[go_sem] theorem Tryz.xpl271 : Tryz.prog.plT 271 = some [] := by kernel_rfl
@[go_sem] theorem Tryz.xze271 : Tryz.prog.zeroT 271 = some [] := by kernel_rfl
@[go_sem] theorem Tryz.xzk271 : zeroOk [] = true := by kernel_rfl
@[go_sem] theorem Tryz.xsz272 : Tryz.prog.szT 272 = some 0 := by kernel_rfl
@[go_sem] theorem Tryz.xag272 : Tryz.prog.aggT 272 = some true := by kernel_rfl
@[go_sem] theorem Tryz.xel272 : Tryz.prog.elemT 272 = none := by kernel_rfl
@[go_sem] theorem Tryz.xby272 : Tryz.prog.bytesT 272 = some 0 := by kernel_rfl
@[go_sem] theorem Tryz.xpl272 : Tryz.prog.plT 272 = some [(0, 0)] := by kernel_rfl
@[go_sem] theorem Tryz.xze272 : Tryz.prog.zeroT 272 = some [] := by kernel_rfl
@[go_sem] theorem Tryz.xfl272_0 : Tryz.prog.fldT 272 0 = some (0, 271) := by kernel_rfl
@[go_sem] theorem Tryz.xsz273 : Tryz.prog.szT 273 = some 0 := by kernel_rfl
@[go_sem] theorem Tryz.xag273 : Tryz.prog.aggT 273 = some true := by kernel_rfl
@[go_sem] theorem Tryz.xel273 : Tryz.prog.elemT 273 = none := by kernel_rfl
@[go_sem] theorem Tryz.xby273 : Tryz.prog.bytesT 273 = some 0 := by kernel_rfl
@[go_sem] theorem Tryz.xpl273 : Tryz.prog.plT 273 = some [(0, 0)] := by kernel_rfl
@[go_sem] theorem Tryz.xze273 : Tryz.prog.zeroT 273 = some [] := by kernel_rfl
@[go_sem] theorem Tryz.xfl273_0 : Tryz.prog.fldT 273 0 = some (0, 271) := by kernel_rfl
@[go_sem] theorem Tryz.xsz274 : Tryz.prog.szT 274 = some 1 := by kernel_rfl
@[go_sem] theorem Tryz.xag274 : Tryz.prog.aggT 274 = some false := by kernel_rfl
@[go_sem] theorem Tryz.xel274 : Tryz.prog.elemT 274 = none := by kernel_rfl
@[go_sem] theorem Tryz.xby274 : Tryz.prog.bytesT 274 = some 8 := by kernel_rfl
@[go_sem] theorem Tryz.xze274 : Tryz.prog.zeroT 274 = some [Value.nilFunc] := by kernel_rfl
@[go_sem] theorem Tryz.xsz275 : Tryz.prog.szT 275 = some 1 := by kernel_rfl
@[go_sem] theorem Tryz.xag275 : Tryz.prog.aggT 275 = some false := by kernel_rfl
@[go_sem] theorem Tryz.xel275 : Tryz.prog.elemT 275 = none := by kernel_rfl
@[go_sem] theorem Tryz.xby275 : Tryz.prog.bytesT 275 = some 1 := by kernel_rfl
@[go_sem] theorem Tryz.xze275 : Tryz.prog.zeroT 275 = some [Value.int IntKind.u8 0] := by kernel_rfl
@[go_sem] theorem Tryz.xsz276 : Tryz.prog.szT 276 = some 1 := by kernel_rfl
@[go_sem] theorem Tryz.xag276 : Tryz.prog.aggT 276 = some false := by kernel_rfl
@[go_sem] theorem Tryz.xel276 : Tryz.prog.elemT 276 = none := by kernel_rfl
@[go_sem] theorem Tryz.xby276 : Tryz.prog.bytesT 276 = some 1 := by kernel_rfl
@[go_sem] theorem Tryz.xze276 : Tryz.prog.zeroT 276 = some [Value.int IntKind.u8 0] := by kernel_rfl
@[go_sem] theorem Tryz.xsz277 : Tryz.prog.szT 277 = some 1 := by kernel_rfl
@[go_sem] theorem Tryz.xag277 : Tryz.prog.aggT 277 = some false := by kernel_rfl
@[go_sem] theorem Tryz.xel277 : Tryz.prog.elemT 277 = none := by kernel_rfl
@[go_sem] theorem Tryz.xby277 : Tryz.prog.bytesT 277 = some 8 := by kernel_rfl
@[go_sem] theorem Tryz.xze277 : Tryz.prog.zeroT 277 = some [Value.nilFunc] := by kernel_rfl
@[go_sem] theorem Tryz.xsz278 : Tryz.prog.szT 278 = some 1 := by kernel_rfl
@[go_sem] theorem Tryz.xag278 : Tryz.prog.aggT 278 = some false := by kernel_rfl
@[go_sem] theorem Tryz.xel278 : Tryz.prog.elemT 278 = none := by kernel_rfl
@[go_sem] theorem Tryz.xby278 : Tryz.prog.bytesT 278 = some 8 := by kernel_rfl
@[go_sem] theorem Tryz.xze278 : Tryz.prog.zeroT 278 = some [Value.pointer none] := by kernel_rfl
@[go_sem] theorem Tryz.xsz279 : Tryz.prog.szT 279 = some 1 := by kernel_rfl
@[go_sem] theorem Tryz.xag279 : Tryz.prog.aggT 279 = some false := by kernel_rfl
@[go_sem] theorem Tryz.xel279 : Tryz.prog.elemT 279 = none := by kernel_rfl
@[go_sem] theorem Tryz.xby279 : Tryz.prog.bytesT 279 = some 4 := by kernel_rfl
@[go_sem] theorem Tryz.xze279 : Tryz.prog.zeroT 279 = some [Value.int IntKind.i32 0] := by kernel_rfl
@[go_sem] theorem Tryz.xsz280 : Tryz.prog.szT 280 = some 1 := by kernel_rfl
@[go_sem] theorem Tryz.xag280 : Tryz.prog.aggT 280 = some false := by kernel_rfl
@[go_sem] theorem Tryz.xel280 : Tryz.prog.elemT 280 = none := by kernel_rfl
@[go_sem] theorem Tryz.xby280 : Tryz.prog.bytesT 280 = some 4 := by kernel_rfl
@[go_sem] theorem Tryz.xze280 : Tryz.prog.zeroT 280 = some [Value.int IntKind.i32 0] := by kernel_rfl
@[go_sem] theorem Tryz.xsz281 : Tryz.prog.szT 281 = some 11 := by kernel_rfl
@[go_sem] theorem Tryz.xag281 : Tryz.prog.aggT 281 = some true := by kernel_rfl
@[go_sem] theorem Tryz.xel281 : Tryz.prog.elemT 281 = none := by kernel_rfl
@[go_sem] theorem Tryz.xby281 : Tryz.prog.bytesT 281 = some 48 := by kernel_rfl
@[go_sem] theorem Tryz.xpl281 : Tryz.prog.plT 281 = some [(0, 1), (1, 1), (2, 1), (3, 1), (4, 1), (5, 1), (6, 1), (7, 1), (8, 1), (9, 1), (10, 1)] := by kernel_rfl
@[go_sem] theorem Tryz.xze281 : Tryz.prog.zeroT 281 = some [Value.int IntKind.u64 0, Value.int IntKind.u64 0, Value.int IntKind.u32 0, Value.int IntKind.u8 0, Value.int IntKind.u8 0, Value.int IntKind.u8 0, Value.int IntKind.u8 0, Value.nilFunc, Value.pointer none, Value.int IntKind.i32 0, Value.int IntKind.i32 0] := by kernel_rfl
@[go_sem] theorem Tryz.xzk281 : zeroOk [Value.int IntKind.u64 0, Value.int IntKind.u64 0, Value.int IntKind.u32 0, Value.int IntKind.u8 0, Value.int IntKind.u8 0, Value.int IntKind.u8 0, Value.int IntKind.u8 0, Value.nilFunc, Value.pointer none, Value.int IntKind.i32 0, Value.int IntKind.i32 0] = true := by kernel_rfl
@[go_sem] theorem Tryz.xfl281_0 : Tryz.prog.fldT 281 0 = some (0, 12) := by kernel_rfl
@[go_sem] theorem Tryz.xfl281_1 : Tryz.prog.fldT 281 1 = some (1, 12) := by kernel_rfl
@[go_sem] theorem Tryz.xfl281_2 : Tryz.prog.fldT 281 2 = some (2, 249) := by kernel_rfl
@[go_sem] theorem Tryz.xfl281_3 : Tryz.prog.fldT 281 3 = some (3, 275) := by kernel_rfl
@[go_sem] theorem Tryz.xfl281_4 : Tryz.prog.fldT 281 4 = some (4, 5) := by kernel_rfl
@[go_sem] theorem Tryz.xfl281_5 : Tryz.prog.fldT 281 5 = some (5, 5) := by kernel_rfl
@[go_sem] theorem Tryz.xfl281_6 : Tryz.prog.fldT 281 6 = some (6, 276) := by kernel_rfl
@[go_sem] theorem Tryz.xfl281_7 : Tryz.prog.fldT 281 7 = some (7, 277) := by kernel_rfl
@[go_sem] theorem Tryz.xfl281_8 : Tryz.prog.fldT 281 8 = some (8, 278) := by kernel_rfl
@[go_sem] theorem Tryz.xfl281_9 : Tryz.prog.fldT 281 9 = some (9, 279) := by kernel_rfl
@[go_sem] theorem Tryz.xfl281_10 : Tryz.prog.fldT 281 10 = some (10, 280) := by kernel_rfl
@[go_sem] theorem Tryz.xsz282 : Tryz.prog.szT 282 = some 11 := by kernel_rfl
@[go_sem] theorem Tryz.xag282 : Tryz.prog.aggT 282 = some true := by kernel_rfl
@[go_sem] theorem Tryz.xel282 : Tryz.prog.elemT 282 = none := by kernel_rfl
@[go_sem] theorem Tryz.xby282 : Tryz.prog.bytesT 282 = some 48 := by kernel_rfl
@[go_sem] theorem Tryz.xpl282 : Tryz.prog.plT 282 = some [(0, 1), (1, 1), (2, 1), (3, 1), (4, 1), (5, 1), (6, 1), (7, 1), (8, 1), (9, 1), (10, 1)] := by kernel_rfl
@[go_sem] theorem Tryz.xze282 : Tryz.prog.zeroT 282 = some [Value.int IntKind.u64 0, Value.int IntKind.u64 0, Value.int IntKind.u32 0, Value.int IntKind.u8 0, Value.int IntKind.u8 0, Value.int IntKind.u8 0, Value.int IntKind.u8 0, Value.nilFunc, Value.pointer none, Value.int IntKind.i32 0, Value.int IntKind.i32 0] := by kernel_rfl
@[go_sem] theorem Tryz.xfl282_0 : Tryz.prog.fldT 282 0 = some (0, 12) := by kernel_rfl
@[go_sem] theorem Tryz.xfl282_1 : Tryz.prog.fldT 282 1 = some (1, 12) := by kernel_rfl
@[go_sem] theorem Tryz.xfl282_2 : Tryz.prog.fldT 282 2 = some (2, 249) := by kernel_rfl
@[go_sem] theorem Tryz.xfl282_3 : Tryz.prog.fldT 282 3 = some (3, 275) := by kernel_rfl
@[go_sem] theorem Tryz.xfl282_4 : Tryz.prog.fldT 282 4 = some (4, 5) := by kernel_rfl
@[go_sem] theorem Tryz.xfl282_5 : Tryz.prog.fldT 282 5 = some (5, 5) := by kernel_rfl
@[go_sem] theorem Tryz.xfl282_6 : Tryz.prog.fldT 282 6 = some (6, 276) := by kernel_rfl
@[go_sem] theorem Tryz.xfl282_7 : Tryz.prog.fldT 282 7 = some (7, 277) := by kernel_rfl
@[go_sem] theorem Tryz.xfl282_8 : Tryz.prog.fldT 282 8 = some (8, 278) := by kernel_rfl
@[go_sem] theorem Tryz.xfl282_9 : Tryz.prog.fldT 282 9 = some (9, 279) := by kernel_rfl
@[go_sem] theorem Tryz.xfl282_10 : Tryz.prog.fldT 282 10 = some (10, 280) := by kernel_rfl
@[go_sem] theorem Tryz.xsz283 : Tryz.prog.szT 283 = some 1 := by kernel_rfl
@[go_sem] theorem Tryz.xag283 : Tryz.prog.aggT 283 = some true := by kernel_rfl
@[go_sem] theorem Tryz.xel283 : Tryz.prog.elemT 283 = none := by kernel_rfl
@[go_sem] theorem Tryz.xby283 : Tryz.prog.bytesT 283 = some 16 := by kernel_rfl
@[go_sem] theorem Tryz.xpl283 : Tryz.prog.plT 283 = some [(0, 1)] := by kernel_rfl
@[go_sem] theorem Tryz.xze283 : Tryz.prog.zeroT 283 = some [Value.string ⟨#[]⟩] := by kernel_rfl
@[go_sem] theorem Tryz.xfl283_0 : Tryz.prog.fldT 283 0 = some (0, 9) := by kernel_rfl
@[go_sem] theorem Tryz.xsz284 : Tryz.prog.szT 284 = some 1 := by kernel_rfl
@[go_sem] theorem Tryz.xag284 : Tryz.prog.aggT 284 = some true := by kernel_rfl
@[go_sem] theorem Tryz.xel284 : Tryz.prog.elemT 284 = none := by kernel_rfl
@[go_sem] theorem Tryz.xby284 : Tryz.prog.bytesT 284 = some 16 := by kernel_rfl
@[go_sem] theorem Tryz.xpl284 : Tryz.prog.plT 284 = some [(0, 1)] := by kernel_rfl
@[go_sem] theorem Tryz.xze284 : Tryz.prog.zeroT 284 = some [Value.string ⟨#[]⟩] := by kernel_rfl
@[go_sem] theorem Tryz.xfl284_0 : Tryz.prog.fldT 284 0 = some (0, 9) := by kernel_rfl
@[go_sem] theorem Tryz.xsz285 : Tryz.prog.szT 285 = some 1 := by kernel_rfl
@[go_sem] theorem Tryz.xag285 : Tryz.prog.aggT 285 = some false := by kernel_rfl
@[go_sem] theorem Tryz.xel285 : Tryz.prog.elemT 285 = none := by kernel_rfl
@[go_sem] theorem Tryz.xby285 : Tryz.prog.bytesT 285 = some 8 := by kernel_rfl
@[go_sem] theorem Tryz.xze285 : Tryz.prog.zeroT 285 = some [Value.pointer none] := by kernel_rfl
attribute [go_sem] Tryz.underlying0 Tryz.underlying1 Tryz.underlying2 Tryz.underlying3 Tryz.underlying4 Tryz.underlying5 Tryz.underlying6 Tryz.underlying7 Tryz.underlying8 Tryz.underlying9 Tryz.underlying10 Tryz.underlying11 Tryz.underlying12 Tryz.underlying13 Tryz.underlying14 Tryz.underlying15 Tryz.underlying16 Tryz.underlying17 Tryz.underlying18 Tryz.underlying19 Tryz.underlying20 Tryz.underlying21 Tryz.underlying22 Tryz.underlying23 Tryz.underlying24 Tryz.underlying25 Tryz.underlying26 Tryz.underlying27 Tryz.underlying28 Tryz.underlying29 Tryz.underlying30 Tryz.underlying31 Tryz.underlying32 Tryz.underlying33 Tryz.underlying34 Tryz.underlying35 Tryz.underlying36 Tryz.underlying37 Tryz.underlying38 Tryz.underlying39 Tryz.underlying40 Tryz.underlying41 Tryz.underlying42 Tryz.underlying43 Tryz.underlying44 Tryz.underlying45 Tryz.underlying46 Tryz.underlying47 Tryz.underlying48 Tryz.underlying49 Tryz.underlying50 Tryz.underlying51 Tryz.underlying52 Tryz.underlying53 Tryz.underlying54 Tryz.underlying55 Tryz.underlying56 Tryz.underlying57 Tryz.underlying58 Tryz.underlying59 Tryz.underlying60 Tryz.underlying61 Tryz.underlying62 Tryz.underlying63 Tryz.underlying64 Tryz.underlying65 Tryz.underlying66 Tryz.underlying67 Tryz.underlying68 Tryz.underlying69 Tryz.underlying70 Tryz.underlying71 Tryz.underlying72 Tryz.underlying73 Tryz.underlying74 Tryz.underlying75 Tryz.underlying76 Tryz.underlying77 Tryz.underlying78 Tryz.underlying79 Tryz.underlying80 Tryz.underlying81 Tryz.underlying82 Tryz.underlying83 Tryz.underlying84 Tryz.underlying85 Tryz.underlying86 Tryz.underlying87 Tryz.underlying88 Tryz.underlying89 Tryz.underlying90 Tryz.underlying91 Tryz.underlying92 Tryz.underlying93 Tryz.underlying94 Tryz.underlying95 Tryz.underlying96 Tryz.underlying97 Tryz.underlying98 Tryz.underlying99 Tryz.underlying100 Tryz.underlying101 Tryz.underlying102 Tryz.underlying103 Tryz.underlying104 Tryz.underlying105 Tryz.underlying106 Tryz.underlying107 Tryz.underlying108 Tryz.underlying109 Tryz.underlying110 Tryz.underlying111 Tryz.underlying112 Tryz.underlying113 Tryz.underlying114 Tryz.underlying115 Tryz.underlying116 Tryz.underlying117 Tryz.underlying118 Tryz.underlying119 Tryz.underlying120 Tryz.underlying121 Tryz.underlying122 Tryz.underlying123 Tryz.underlying124 Tryz.underlying125 Tryz.underlying126 Tryz.underlying127 Tryz.underlying128 Tryz.underlying129 Tryz.underlying130 Tryz.underlying131 Tryz.underlying132 Tryz.underlying133 Tryz.underlying134 Tryz.underlying135 Tryz.underlying136 Tryz.underlying137 Tryz.underlying138 Tryz.underlying139 Tryz.underlying140 Tryz.underlying141 Tryz.underlying142 Tryz.underlying143 Tryz.underlying144 Tryz.underlying145 Tryz.underlying146 Tryz.underlying147 Tryz.underlying148 Tryz.underlying149 Tryz.underlying150 Tryz.underlying151 Tryz.underlying152 Tryz.underlying153 Tryz.underlying154 Tryz.underlying155 Tryz.underlying156 Tryz.underlying157 Tryz.underlying158 Tryz.underlying159 Tryz.underlying160 Tryz.underlying161 Tryz.underlying162 Tryz.underlying163 Tryz.underlying164 Tryz.underlying165 Tryz.underlying166 Tryz.underlying167 Tryz.underlying168 Tryz.underlying169 Tryz.underlying170 Tryz.underlying171 Tryz.underlying172 Tryz.underlying173 Tryz.underlying174 Tryz.underlying175 Tryz.underlying176 Tryz.underlying177 Tryz.underlying178 Tryz.underlying179 Tryz.underlying180 Tryz.underlying181 Tryz.underlying182 Tryz.underlying183 Tryz.underlying184 Tryz.underlying185 Tryz.underlying186 Tryz.underlying187 Tryz.underlying188 Tryz.underlying189 Tryz.underlying190 Tryz.underlying191 Tryz.underlying192 Tryz.underlying193 Tryz.underlying194 Tryz.underlying195 Tryz.underlying196 Tryz.underlying197 Tryz.underlying198 Tryz.underlying199 Tryz.underlying200 Tryz.underlying201 Tryz.underlying202 Tryz.underlying203 Tryz.underlying204 Tryz.underlying205 Tryz.underlying206 Tryz.underlying207 Tryz.underlying208 Tryz.underlying209 Tryz.underlying210 Tryz.underlying211 Tryz.underlying212 Tryz.underlying213 Tryz.underlying214 Tryz.underlying215 Tryz.underlying216 Tryz.underlying217 Tryz.underlying218 Tryz.underlying219 Tryz.underlying220 Tryz.underlying221 Tryz.underlying222 Tryz.underlying223 Tryz.underlying224 Tryz.underlying225 Tryz.underlying226 Tryz.underlying227 Tryz.underlying228 Tryz.underlying229 Tryz.underlying230 Tryz.underlying231 Tryz.underlying232 Tryz.underlying233 Tryz.underlying234 Tryz.underlying235 Tryz.underlying236 Tryz.underlying237 Tryz.underlying238 Tryz.underlying239 Tryz.underlying240 Tryz.underlying241 Tryz.underlying242 Tryz.underlying243 Tryz.underlying244 Tryz.underlying245 Tryz.underlying246 Tryz.underlying247 Tryz.underlying248 Tryz.underlying249 Tryz.underlying250 Tryz.underlying251 Tryz.underlying252 Tryz.underlying253 Tryz.underlying254 Tryz.underlying255 Tryz.underlying256 Tryz.underlying257 Tryz.underlying258 Tryz.underlying259 Tryz.underlying260 Tryz.underlying261 Tryz.underlying262 Tryz.underlying263 Tryz.underlying264 Tryz.underlying265 Tryz.underlying266 Tryz.underlying267 Tryz.underlying268 Tryz.underlying269 Tryz.underlying270 Tryz.underlying271 Tryz.underlying272 Tryz.underlying273 Tryz.underlying274 Tryz.underlying275 Tryz.underlying276 Tryz.underlying277 Tryz.underlying278 Tryz.underlying279 Tryz.underlying280 Tryz.underlying281 Tryz.underlying282 Tryz.underlying283 Tryz.underlying284 Tryz.underlying285
@[go_sem] theorem Tryz.xio2 : Tryz.prog.ioF 2 = false := by kernel_rfl
theorem Tryz.xen2 : Tryz.prog.enters 2 = true := by kernel_rfl
@[go_sem] theorem Tryz.xio3 : Tryz.prog.ioF 3 = false := by kernel_rfl
theorem Tryz.xen3 : Tryz.prog.enters 3 = true := by kernel_rfl
@[go_sem] theorem Tryz.xio4 : Tryz.prog.ioF 4 = false := by kernel_rfl
theorem Tryz.xen4 : Tryz.prog.enters 4 = true := by kernel_rfl
@[go_sem] theorem Tryz.xio5 : Tryz.prog.ioF 5 = false := by kernel_rfl
theorem Tryz.xen5 : Tryz.prog.enters 5 = true := by kernel_rfl
@[go_sem] theorem Tryz.xio6 : Tryz.prog.ioF 6 = false := by kernel_rfl
theorem Tryz.xen6 : Tryz.prog.enters 6 = true := by kernel_rfl
@[go_sem] theorem Tryz.xio7 : Tryz.prog.ioF 7 = false := by kernel_rfl
theorem Tryz.xen7 : Tryz.prog.enters 7 = true := by kernel_rfl
@[go_sem] theorem Tryz.xio8 : Tryz.prog.ioF 8 = false := by kernel_rfl
theorem Tryz.xen8 : Tryz.prog.enters 8 = true := by kernel_rfl
@[go_sem] theorem Tryz.xio9 : Tryz.prog.ioF 9 = false := by kernel_rfl
theorem Tryz.xen9 : Tryz.prog.enters 9 = true := by kernel_rfl
@[go_sem] theorem Tryz.xio10 : Tryz.prog.ioF 10 = false := by kernel_rfl
theorem Tryz.xen10 : Tryz.prog.enters 10 = true := by kernel_rfl
@[go_sem] theorem Tryz.xio11 : Tryz.prog.ioF 11 = false := by kernel_rfl
theorem Tryz.xen11 : Tryz.prog.enters 11 = true := by kernel_rfl
@[go_sem] theorem Tryz.xio12 : Tryz.prog.ioF 12 = true := by kernel_rfl
theorem Tryz.xen12 : Tryz.prog.enters 12 = true := by kernel_rfl
@[go_sem] theorem Tryz.xio13 : Tryz.prog.ioF 13 = false := by kernel_rfl
theorem Tryz.xen13 : Tryz.prog.enters 13 = true := by kernel_rfl
@[go_sem] theorem Tryz.xio14 : Tryz.prog.ioF 14 = false := by kernel_rfl
theorem Tryz.xen14 : Tryz.prog.enters 14 = true := by kernel_rfl
@[go_sem] theorem Tryz.xio15 : Tryz.prog.ioF 15 = false := by kernel_rfl
theorem Tryz.xen15 : Tryz.prog.enters 15 = true := by kernel_rfl
@[go_sem] theorem Tryz.xio16 : Tryz.prog.ioF 16 = false := by kernel_rfl
theorem Tryz.xen16 : Tryz.prog.enters 16 = true := by kernel_rfl
@[go_sem] theorem Tryz.xio17 : Tryz.prog.ioF 17 = false := by kernel_rfl
theorem Tryz.xen17 : Tryz.prog.enters 17 = true := by kernel_rfl
@[go_sem] theorem Tryz.xio18 : Tryz.prog.ioF 18 = false := by kernel_rfl
theorem Tryz.xen18 : Tryz.prog.enters 18 = true := by kernel_rfl
@[go_sem] theorem Tryz.xio19 : Tryz.prog.ioF 19 = false := by kernel_rfl
theorem Tryz.xen19 : Tryz.prog.enters 19 = true := by kernel_rfl
@[go_sem] theorem Tryz.xio20 : Tryz.prog.ioF 20 = false := by kernel_rfl
theorem Tryz.xen20 : Tryz.prog.enters 20 = true := by kernel_rfl
@[go_sem] theorem Tryz.xio21 : Tryz.prog.ioF 21 = false := by kernel_rfl
theorem Tryz.xen21 : Tryz.prog.enters 21 = true := by kernel_rfl
@[go_sem] theorem Tryz.xio22 : Tryz.prog.ioF 22 = false := by kernel_rfl
theorem Tryz.xen22 : Tryz.prog.enters 22 = true := by kernel_rfl
@[go_sem] theorem Tryz.xio23 : Tryz.prog.ioF 23 = false := by kernel_rfl
theorem Tryz.xen23 : Tryz.prog.enters 23 = true := by kernel_rfl
@[go_sem] theorem Tryz.xio24 : Tryz.prog.ioF 24 = false := by kernel_rfl
theorem Tryz.xen24 : Tryz.prog.enters 24 = true := by kernel_rfl
@[go_sem] theorem Tryz.xio25 : Tryz.prog.ioF 25 = false := by kernel_rfl
theorem Tryz.xen25 : Tryz.prog.enters 25 = true := by kernel_rfl
@[go_sem] theorem Tryz.xio26 : Tryz.prog.ioF 26 = true := by kernel_rfl
theorem Tryz.xen26 : Tryz.prog.enters 26 = true := by kernel_rfl
@[go_sem] theorem Tryz.xio27 : Tryz.prog.ioF 27 = false := by kernel_rfl
theorem Tryz.xen27 : Tryz.prog.enters 27 = true := by kernel_rfl
@[go_sem] theorem Tryz.xio28 : Tryz.prog.ioF 28 = false := by kernel_rfl
theorem Tryz.xen28 : Tryz.prog.enters 28 = true := by kernel_rfl
@[go_sem] theorem Tryz.xio29 : Tryz.prog.ioF 29 = false := by kernel_rfl
theorem Tryz.xen29 : Tryz.prog.enters 29 = true := by kernel_rfl
@[go_sem] theorem Tryz.xio30 : Tryz.prog.ioF 30 = false := by kernel_rfl
theorem Tryz.xen30 : Tryz.prog.enters 30 = true := by kernel_rfl
@[go_sem] theorem Tryz.xio31 : Tryz.prog.ioF 31 = false := by kernel_rfl
theorem Tryz.xen31 : Tryz.prog.enters 31 = true := by kernel_rfl
@[go_sem] theorem Tryz.xio32 : Tryz.prog.ioF 32 = false := by kernel_rfl
theorem Tryz.xen32 : Tryz.prog.enters 32 = true := by kernel_rfl
@[go_sem] theorem Tryz.xio33 : Tryz.prog.ioF 33 = false := by kernel_rfl
theorem Tryz.xen33 : Tryz.prog.enters 33 = true := by kernel_rfl
@[go_sem] theorem Tryz.xio34 : Tryz.prog.ioF 34 = false := by kernel_rfl
theorem Tryz.xen34 : Tryz.prog.enters 34 = true := by kernel_rfl
@[go_sem] theorem Tryz.xio35 : Tryz.prog.ioF 35 = false := by kernel_rfl
theorem Tryz.xen35 : Tryz.prog.enters 35 = true := by kernel_rfl
@[go_sem] theorem Tryz.xio36 : Tryz.prog.ioF 36 = true := by kernel_rfl
theorem Tryz.xen36 : Tryz.prog.enters 36 = true := by kernel_rfl
@[go_sem] theorem Tryz.xio37 : Tryz.prog.ioF 37 = false := by kernel_rfl
theorem Tryz.xen37 : Tryz.prog.enters 37 = true := by kernel_rfl
@[go_sem] theorem Tryz.xio38 : Tryz.prog.ioF 38 = false := by kernel_rfl
theorem Tryz.xen38 : Tryz.prog.enters 38 = true := by kernel_rfl
@[go_sem] theorem Tryz.xio39 : Tryz.prog.ioF 39 = false := by kernel_rfl
theorem Tryz.xen39 : Tryz.prog.enters 39 = true := by kernel_rfl
@[go_sem] theorem Tryz.xio40 : Tryz.prog.ioF 40 = false := by kernel_rfl
theorem Tryz.xen40 : Tryz.prog.enters 40 = true := by kernel_rfl
@[go_sem] theorem Tryz.xio41 : Tryz.prog.ioF 41 = true := by kernel_rfl
theorem Tryz.xen41 : Tryz.prog.enters 41 = true := by kernel_rfl
@[go_sem] theorem Tryz.xio42 : Tryz.prog.ioF 42 = false := by kernel_rfl
theorem Tryz.xen42 : Tryz.prog.enters 42 = true := by kernel_rfl
@[go_sem] theorem Tryz.xio43 : Tryz.prog.ioF 43 = false := by kernel_rfl
theorem Tryz.xen43 : Tryz.prog.enters 43 = true := by kernel_rfl
@[go_sem] theorem Tryz.xio44 : Tryz.prog.ioF 44 = false := by kernel_rfl
theorem Tryz.xen44 : Tryz.prog.enters 44 = true := by kernel_rfl
@[go_sem] theorem Tryz.xio45 : Tryz.prog.ioF 45 = false := by kernel_rfl
theorem Tryz.xen45 : Tryz.prog.enters 45 = true := by kernel_rfl
@[go_sem] theorem Tryz.xio46 : Tryz.prog.ioF 46 = false := by kernel_rfl
theorem Tryz.xen46 : Tryz.prog.enters 46 = true := by kernel_rfl
@[go_sem] theorem Tryz.xio47 : Tryz.prog.ioF 47 = false := by kernel_rfl
theorem Tryz.xen47 : Tryz.prog.enters 47 = true := by kernel_rfl
@[go_sem] theorem Tryz.xio48 : Tryz.prog.ioF 48 = false := by kernel_rfl
theorem Tryz.xen48 : Tryz.prog.enters 48 = true := by kernel_rfl
@[go_sem] theorem Tryz.xio49 : Tryz.prog.ioF 49 = false := by kernel_rfl
theorem Tryz.xen49 : Tryz.prog.enters 49 = true := by kernel_rfl
@[go_sem] theorem Tryz.xio50 : Tryz.prog.ioF 50 = false := by kernel_rfl
theorem Tryz.xen50 : Tryz.prog.enters 50 = true := by kernel_rfl
@[go_sem] theorem Tryz.xio51 : Tryz.prog.ioF 51 = false := by kernel_rfl
theorem Tryz.xen51 : Tryz.prog.enters 51 = true := by kernel_rfl
@[go_sem] theorem Tryz.xio52 : Tryz.prog.ioF 52 = false := by kernel_rfl
theorem Tryz.xen52 : Tryz.prog.enters 52 = true := by kernel_rfl
@[go_sem] theorem Tryz.xio53 : Tryz.prog.ioF 53 = false := by kernel_rfl
theorem Tryz.xen53 : Tryz.prog.enters 53 = true := by kernel_rfl
@[go_sem] theorem Tryz.xio54 : Tryz.prog.ioF 54 = false := by kernel_rfl
theorem Tryz.xen54 : Tryz.prog.enters 54 = true := by kernel_rfl
@[go_sem] theorem Tryz.xio55 : Tryz.prog.ioF 55 = false := by kernel_rfl
theorem Tryz.xen55 : Tryz.prog.enters 55 = true := by kernel_rfl
@[go_sem] theorem Tryz.xio56 : Tryz.prog.ioF 56 = true := by kernel_rfl
theorem Tryz.xen56 : Tryz.prog.enters 56 = true := by kernel_rfl
@[go_sem] theorem Tryz.xio57 : Tryz.prog.ioF 57 = true := by kernel_rfl
theorem Tryz.xen57 : Tryz.prog.enters 57 = true := by kernel_rfl
@[go_sem] theorem Tryz.xio58 : Tryz.prog.ioF 58 = true := by kernel_rfl
theorem Tryz.xen58 : Tryz.prog.enters 58 = true := by kernel_rfl
@[go_sem] theorem Tryz.xio59 : Tryz.prog.ioF 59 = true := by kernel_rfl
theorem Tryz.xen59 : Tryz.prog.enters 59 = true := by kernel_rfl
@[go_sem] theorem Tryz.xio60 : Tryz.prog.ioF 60 = false := by kernel_rfl
theorem Tryz.xen60 : Tryz.prog.enters 60 = true := by kernel_rfl
@[go_sem] theorem Tryz.xio61 : Tryz.prog.ioF 61 = false := by kernel_rfl
theorem Tryz.xen61 : Tryz.prog.enters 61 = true := by kernel_rfl
@[go_sem] theorem Tryz.xio62 : Tryz.prog.ioF 62 = false := by kernel_rfl
theorem Tryz.xen62 : Tryz.prog.enters 62 = true := by kernel_rfl
@[go_sem] theorem Tryz.xio63 : Tryz.prog.ioF 63 = false := by kernel_rfl
theorem Tryz.xen63 : Tryz.prog.enters 63 = true := by kernel_rfl
@[go_sem] theorem Tryz.xio64 : Tryz.prog.ioF 64 = false := by kernel_rfl
theorem Tryz.xen64 : Tryz.prog.enters 64 = true := by kernel_rfl
@[go_sem] theorem Tryz.xio65 : Tryz.prog.ioF 65 = false := by kernel_rfl
theorem Tryz.xen65 : Tryz.prog.enters 65 = true := by kernel_rfl
@[go_sem] theorem Tryz.xio66 : Tryz.prog.ioF 66 = true := by kernel_rfl
theorem Tryz.xen66 : Tryz.prog.enters 66 = true := by kernel_rfl
@[go_sem] theorem Tryz.xio67 : Tryz.prog.ioF 67 = false := by kernel_rfl
theorem Tryz.xen67 : Tryz.prog.enters 67 = true := by kernel_rfl
@[go_sem] theorem Tryz.xio68 : Tryz.prog.ioF 68 = false := by kernel_rfl
theorem Tryz.xen68 : Tryz.prog.enters 68 = true := by kernel_rfl
@[go_sem] theorem Tryz.xio69 : Tryz.prog.ioF 69 = false := by kernel_rfl
theorem Tryz.xen69 : Tryz.prog.enters 69 = true := by kernel_rfl
@[go_sem] theorem Tryz.xio70 : Tryz.prog.ioF 70 = false := by kernel_rfl
theorem Tryz.xen70 : Tryz.prog.enters 70 = true := by kernel_rfl
@[go_sem] theorem Tryz.xio71 : Tryz.prog.ioF 71 = false := by kernel_rfl
theorem Tryz.xen71 : Tryz.prog.enters 71 = true := by kernel_rfl
@[go_sem] theorem Tryz.xio72 : Tryz.prog.ioF 72 = false := by kernel_rfl
theorem Tryz.xen72 : Tryz.prog.enters 72 = true := by kernel_rfl
@[go_sem] theorem Tryz.xio73 : Tryz.prog.ioF 73 = false := by kernel_rfl
theorem Tryz.xen73 : Tryz.prog.enters 73 = true := by kernel_rfl
@[go_sem] theorem Tryz.xio74 : Tryz.prog.ioF 74 = false := by kernel_rfl
theorem Tryz.xen74 : Tryz.prog.enters 74 = true := by kernel_rfl
@[go_sem] theorem Tryz.xio75 : Tryz.prog.ioF 75 = false := by kernel_rfl
theorem Tryz.xen75 : Tryz.prog.enters 75 = true := by kernel_rfl
@[go_sem] theorem Tryz.xio76 : Tryz.prog.ioF 76 = false := by kernel_rfl
theorem Tryz.xen76 : Tryz.prog.enters 76 = true := by kernel_rfl
@[go_sem] theorem Tryz.xio77 : Tryz.prog.ioF 77 = false := by kernel_rfl
theorem Tryz.xen77 : Tryz.prog.enters 77 = true := by kernel_rfl
@[go_sem] theorem Tryz.xio78 : Tryz.prog.ioF 78 = false := by kernel_rfl
theorem Tryz.xen78 : Tryz.prog.enters 78 = true := by kernel_rfl
@[go_sem] theorem Tryz.xio79 : Tryz.prog.ioF 79 = false := by kernel_rfl
theorem Tryz.xen79 : Tryz.prog.enters 79 = true := by kernel_rfl
@[go_sem] theorem Tryz.xio80 : Tryz.prog.ioF 80 = false := by kernel_rfl
theorem Tryz.xen80 : Tryz.prog.enters 80 = true := by kernel_rfl
@[go_sem] theorem Tryz.xio81 : Tryz.prog.ioF 81 = false := by kernel_rfl
theorem Tryz.xen81 : Tryz.prog.enters 81 = true := by kernel_rfl
@[go_sem] theorem Tryz.xio82 : Tryz.prog.ioF 82 = false := by kernel_rfl
theorem Tryz.xen82 : Tryz.prog.enters 82 = true := by kernel_rfl
@[go_sem] theorem Tryz.xio83 : Tryz.prog.ioF 83 = false := by kernel_rfl
theorem Tryz.xen83 : Tryz.prog.enters 83 = true := by kernel_rfl
@[go_sem] theorem Tryz.xio84 : Tryz.prog.ioF 84 = false := by kernel_rfl
theorem Tryz.xen84 : Tryz.prog.enters 84 = true := by kernel_rfl
@[go_sem] theorem Tryz.xio85 : Tryz.prog.ioF 85 = false := by kernel_rfl
theorem Tryz.xen85 : Tryz.prog.enters 85 = true := by kernel_rfl
@[go_sem] theorem Tryz.xio86 : Tryz.prog.ioF 86 = false := by kernel_rfl
theorem Tryz.xen86 : Tryz.prog.enters 86 = true := by kernel_rfl
@[go_sem] theorem Tryz.xio87 : Tryz.prog.ioF 87 = false := by kernel_rfl
theorem Tryz.xen87 : Tryz.prog.enters 87 = true := by kernel_rfl
@[go_sem] theorem Tryz.xio88 : Tryz.prog.ioF 88 = false := by kernel_rfl
theorem Tryz.xen88 : Tryz.prog.enters 88 = true := by kernel_rfl
@[go_sem] theorem Tryz.xio89 : Tryz.prog.ioF 89 = false := by kernel_rfl
theorem Tryz.xen89 : Tryz.prog.enters 89 = true := by kernel_rfl
@[go_sem] theorem Tryz.xio90 : Tryz.prog.ioF 90 = false := by kernel_rfl
theorem Tryz.xen90 : Tryz.prog.enters 90 = true := by kernel_rfl
@[go_sem] theorem Tryz.xio91 : Tryz.prog.ioF 91 = true := by kernel_rfl
theorem Tryz.xen91 : Tryz.prog.enters 91 = true := by kernel_rfl
@[go_sem] theorem Tryz.xio92 : Tryz.prog.ioF 92 = false := by kernel_rfl
theorem Tryz.xen92 : Tryz.prog.enters 92 = true := by kernel_rfl
@[go_sem] theorem Tryz.xio93 : Tryz.prog.ioF 93 = false := by kernel_rfl
theorem Tryz.xen93 : Tryz.prog.enters 93 = true := by kernel_rfl
@[go_sem] theorem Tryz.xio94 : Tryz.prog.ioF 94 = false := by kernel_rfl
theorem Tryz.xen94 : Tryz.prog.enters 94 = true := by kernel_rfl
@[go_sem] theorem Tryz.xio95 : Tryz.prog.ioF 95 = true := by kernel_rfl
theorem Tryz.xen95 : Tryz.prog.enters 95 = true := by kernel_rfl
@[go_sem] theorem Tryz.xio96 : Tryz.prog.ioF 96 = true := by kernel_rfl
theorem Tryz.xen96 : Tryz.prog.enters 96 = true := by kernel_rfl
@[go_sem] theorem Tryz.xio97 : Tryz.prog.ioF 97 = false := by kernel_rfl
theorem Tryz.xen97 : Tryz.prog.enters 97 = true := by kernel_rfl
@[go_sem] theorem Tryz.xio98 : Tryz.prog.ioF 98 = false := by kernel_rfl
theorem Tryz.xen98 : Tryz.prog.enters 98 = true := by kernel_rfl
@[go_sem] theorem Tryz.xio99 : Tryz.prog.ioF 99 = true := by kernel_rfl
theorem Tryz.xen99 : Tryz.prog.enters 99 = true := by kernel_rfl
@[go_sem] theorem Tryz.xio100 : Tryz.prog.ioF 100 = true := by kernel_rfl
theorem Tryz.xen100 : Tryz.prog.enters 100 = true := by kernel_rfl
@[go_sem] theorem Tryz.xio101 : Tryz.prog.ioF 101 = false := by kernel_rfl
theorem Tryz.xen101 : Tryz.prog.enters 101 = true := by kernel_rfl
@[go_sem] theorem Tryz.xio102 : Tryz.prog.ioF 102 = true := by kernel_rfl
theorem Tryz.xen102 : Tryz.prog.enters 102 = true := by kernel_rfl
@[go_sem] theorem Tryz.xio103 : Tryz.prog.ioF 103 = false := by kernel_rfl
theorem Tryz.xen103 : Tryz.prog.enters 103 = true := by kernel_rfl
@[go_sem] theorem Tryz.xio104 : Tryz.prog.ioF 104 = false := by kernel_rfl
theorem Tryz.xen104 : Tryz.prog.enters 104 = true := by kernel_rfl
@[go_sem] theorem Tryz.xio105 : Tryz.prog.ioF 105 = false := by kernel_rfl
theorem Tryz.xen105 : Tryz.prog.enters 105 = true := by kernel_rfl
@[go_sem] theorem Tryz.xio106 : Tryz.prog.ioF 106 = false := by kernel_rfl
theorem Tryz.xen106 : Tryz.prog.enters 106 = true := by kernel_rfl
@[go_sem] theorem Tryz.xio107 : Tryz.prog.ioF 107 = false := by kernel_rfl
theorem Tryz.xen107 : Tryz.prog.enters 107 = true := by kernel_rfl
@[go_sem] theorem Tryz.xio108 : Tryz.prog.ioF 108 = false := by kernel_rfl
theorem Tryz.xen108 : Tryz.prog.enters 108 = true := by kernel_rfl
@[go_sem] theorem Tryz.xio109 : Tryz.prog.ioF 109 = false := by kernel_rfl
theorem Tryz.xen109 : Tryz.prog.enters 109 = true := by kernel_rfl
@[go_sem] theorem Tryz.xio110 : Tryz.prog.ioF 110 = false := by kernel_rfl
theorem Tryz.xen110 : Tryz.prog.enters 110 = true := by kernel_rfl
@[go_sem] theorem Tryz.xio111 : Tryz.prog.ioF 111 = false := by kernel_rfl
theorem Tryz.xen111 : Tryz.prog.enters 111 = true := by kernel_rfl
@[go_sem] theorem Tryz.xio112 : Tryz.prog.ioF 112 = false := by kernel_rfl
theorem Tryz.xen112 : Tryz.prog.enters 112 = true := by kernel_rfl
@[go_sem] theorem Tryz.xio113 : Tryz.prog.ioF 113 = false := by kernel_rfl
theorem Tryz.xen113 : Tryz.prog.enters 113 = true := by kernel_rfl
@[go_sem] theorem Tryz.xio114 : Tryz.prog.ioF 114 = false := by kernel_rfl
theorem Tryz.xen114 : Tryz.prog.enters 114 = true := by kernel_rfl
@[go_sem] theorem Tryz.xio115 : Tryz.prog.ioF 115 = false := by kernel_rfl
theorem Tryz.xen115 : Tryz.prog.enters 115 = true := by kernel_rfl
@[go_sem] theorem Tryz.xio116 : Tryz.prog.ioF 116 = false := by kernel_rfl
theorem Tryz.xen116 : Tryz.prog.enters 116 = true := by kernel_rfl
@[go_sem] theorem Tryz.xio117 : Tryz.prog.ioF 117 = false := by kernel_rfl
theorem Tryz.xen117 : Tryz.prog.enters 117 = true := by kernel_rfl
@[go_sem] theorem Tryz.xio118 : Tryz.prog.ioF 118 = false := by kernel_rfl
theorem Tryz.xen118 : Tryz.prog.enters 118 = true := by kernel_rfl
@[go_sem] theorem Tryz.xio119 : Tryz.prog.ioF 119 = true := by kernel_rfl
theorem Tryz.xen119 : Tryz.prog.enters 119 = true := by kernel_rfl
@[go_sem] theorem Tryz.xio120 : Tryz.prog.ioF 120 = false := by kernel_rfl
theorem Tryz.xen120 : Tryz.prog.enters 120 = true := by kernel_rfl
@[go_sem] theorem Tryz.xio121 : Tryz.prog.ioF 121 = true := by kernel_rfl
theorem Tryz.xen121 : Tryz.prog.enters 121 = true := by kernel_rfl
@[go_sem] theorem Tryz.xio122 : Tryz.prog.ioF 122 = false := by kernel_rfl
theorem Tryz.xen122 : Tryz.prog.enters 122 = true := by kernel_rfl
@[go_sem] theorem Tryz.xio123 : Tryz.prog.ioF 123 = false := by kernel_rfl
theorem Tryz.xen123 : Tryz.prog.enters 123 = true := by kernel_rfl
@[go_sem] theorem Tryz.xio124 : Tryz.prog.ioF 124 = false := by kernel_rfl
theorem Tryz.xen124 : Tryz.prog.enters 124 = true := by kernel_rfl
@[go_sem] theorem Tryz.xio125 : Tryz.prog.ioF 125 = false := by kernel_rfl
theorem Tryz.xen125 : Tryz.prog.enters 125 = true := by kernel_rfl
@[go_sem] theorem Tryz.xio126 : Tryz.prog.ioF 126 = false := by kernel_rfl
theorem Tryz.xen126 : Tryz.prog.enters 126 = true := by kernel_rfl
@[go_sem] theorem Tryz.xio127 : Tryz.prog.ioF 127 = false := by kernel_rfl
theorem Tryz.xen127 : Tryz.prog.enters 127 = true := by kernel_rfl
@[go_sem] theorem Tryz.xio128 : Tryz.prog.ioF 128 = false := by kernel_rfl
theorem Tryz.xen128 : Tryz.prog.enters 128 = true := by kernel_rfl
@[go_sem] theorem Tryz.xio129 : Tryz.prog.ioF 129 = false := by kernel_rfl
theorem Tryz.xen129 : Tryz.prog.enters 129 = true := by kernel_rfl
@[go_sem] theorem Tryz.xio130 : Tryz.prog.ioF 130 = false := by kernel_rfl
theorem Tryz.xen130 : Tryz.prog.enters 130 = true := by kernel_rfl
@[go_sem] theorem Tryz.xio131 : Tryz.prog.ioF 131 = false := by kernel_rfl
theorem Tryz.xen131 : Tryz.prog.enters 131 = true := by kernel_rfl
@[go_sem] theorem Tryz.xio132 : Tryz.prog.ioF 132 = false := by kernel_rfl
theorem Tryz.xen132 : Tryz.prog.enters 132 = true := by kernel_rfl
@[go_sem] theorem Tryz.xio133 : Tryz.prog.ioF 133 = true := by kernel_rfl
theorem Tryz.xen133 : Tryz.prog.enters 133 = true := by kernel_rfl
@[go_sem] theorem Tryz.xio134 : Tryz.prog.ioF 134 = false := by kernel_rfl
theorem Tryz.xen134 : Tryz.prog.enters 134 = true := by kernel_rfl
@[go_sem] theorem Tryz.xio135 : Tryz.prog.ioF 135 = false := by kernel_rfl
theorem Tryz.xen135 : Tryz.prog.enters 135 = true := by kernel_rfl
@[go_sem] theorem Tryz.xio136 : Tryz.prog.ioF 136 = false := by kernel_rfl
theorem Tryz.xen136 : Tryz.prog.enters 136 = true := by kernel_rfl
@[go_sem] theorem Tryz.xio137 : Tryz.prog.ioF 137 = false := by kernel_rfl
theorem Tryz.xen137 : Tryz.prog.enters 137 = true := by kernel_rfl
@[go_sem] theorem Tryz.xio138 : Tryz.prog.ioF 138 = false := by kernel_rfl
theorem Tryz.xen138 : Tryz.prog.enters 138 = true := by kernel_rfl
@[go_sem] theorem Tryz.xio139 : Tryz.prog.ioF 139 = false := by kernel_rfl
theorem Tryz.xen139 : Tryz.prog.enters 139 = true := by kernel_rfl
@[go_sem] theorem Tryz.xio140 : Tryz.prog.ioF 140 = false := by kernel_rfl
theorem Tryz.xen140 : Tryz.prog.enters 140 = true := by kernel_rfl
@[go_sem] theorem Tryz.xio141 : Tryz.prog.ioF 141 = false := by kernel_rfl
theorem Tryz.xen141 : Tryz.prog.enters 141 = true := by kernel_rfl
@[go_sem] theorem Tryz.xio142 : Tryz.prog.ioF 142 = false := by kernel_rfl
theorem Tryz.xen142 : Tryz.prog.enters 142 = true := by kernel_rfl
@[go_sem] theorem Tryz.xio143 : Tryz.prog.ioF 143 = false := by kernel_rfl
theorem Tryz.xen143 : Tryz.prog.enters 143 = true := by kernel_rfl
@[go_sem] theorem Tryz.xio144 : Tryz.prog.ioF 144 = false := by kernel_rfl
theorem Tryz.xen144 : Tryz.prog.enters 144 = true := by kernel_rfl
@[go_sem] theorem Tryz.xio145 : Tryz.prog.ioF 145 = false := by kernel_rfl
theorem Tryz.xen145 : Tryz.prog.enters 145 = true := by kernel_rfl
@[go_sem] theorem Tryz.xio146 : Tryz.prog.ioF 146 = false := by kernel_rfl
theorem Tryz.xen146 : Tryz.prog.enters 146 = true := by kernel_rfl
@[go_sem] theorem Tryz.xio147 : Tryz.prog.ioF 147 = true := by kernel_rfl
theorem Tryz.xen147 : Tryz.prog.enters 147 = true := by kernel_rfl
@[go_sem] theorem Tryz.xio148 : Tryz.prog.ioF 148 = false := by kernel_rfl
theorem Tryz.xen148 : Tryz.prog.enters 148 = true := by kernel_rfl
@[go_sem] theorem Tryz.xio149 : Tryz.prog.ioF 149 = false := by kernel_rfl
theorem Tryz.xen149 : Tryz.prog.enters 149 = true := by kernel_rfl
@[go_sem] theorem Tryz.xio150 : Tryz.prog.ioF 150 = false := by kernel_rfl
theorem Tryz.xen150 : Tryz.prog.enters 150 = true := by kernel_rfl
@[go_sem] theorem Tryz.xio151 : Tryz.prog.ioF 151 = false := by kernel_rfl
theorem Tryz.xen151 : Tryz.prog.enters 151 = true := by kernel_rfl
@[go_sem] theorem Tryz.xio152 : Tryz.prog.ioF 152 = false := by kernel_rfl
theorem Tryz.xen152 : Tryz.prog.enters 152 = true := by kernel_rfl
@[go_sem] theorem Tryz.xio153 : Tryz.prog.ioF 153 = false := by kernel_rfl
theorem Tryz.xen153 : Tryz.prog.enters 153 = true := by kernel_rfl
@[go_sem] theorem Tryz.xio154 : Tryz.prog.ioF 154 = false := by kernel_rfl
theorem Tryz.xen154 : Tryz.prog.enters 154 = true := by kernel_rfl
@[go_sem] theorem Tryz.xio155 : Tryz.prog.ioF 155 = false := by kernel_rfl
theorem Tryz.xen155 : Tryz.prog.enters 155 = true := by kernel_rfl
@[go_sem] theorem Tryz.xio156 : Tryz.prog.ioF 156 = false := by kernel_rfl
theorem Tryz.xen156 : Tryz.prog.enters 156 = true := by kernel_rfl
@[go_sem] theorem Tryz.xio157 : Tryz.prog.ioF 157 = false := by kernel_rfl
theorem Tryz.xen157 : Tryz.prog.enters 157 = true := by kernel_rfl
@[go_sem] theorem Tryz.xio158 : Tryz.prog.ioF 158 = true := by kernel_rfl
theorem Tryz.xen158 : Tryz.prog.enters 158 = true := by kernel_rfl
@[go_sem] theorem Tryz.xio159 : Tryz.prog.ioF 159 = true := by kernel_rfl
theorem Tryz.xen159 : Tryz.prog.enters 159 = true := by kernel_rfl
@[go_sem] theorem Tryz.xio160 : Tryz.prog.ioF 160 = true := by kernel_rfl
theorem Tryz.xen160 : Tryz.prog.enters 160 = true := by kernel_rfl
@[go_sem] theorem Tryz.xio161 : Tryz.prog.ioF 161 = true := by kernel_rfl
theorem Tryz.xen161 : Tryz.prog.enters 161 = true := by kernel_rfl
@[go_sem] theorem Tryz.xio162 : Tryz.prog.ioF 162 = true := by kernel_rfl
theorem Tryz.xen162 : Tryz.prog.enters 162 = true := by kernel_rfl
@[go_sem] theorem Tryz.xio163 : Tryz.prog.ioF 163 = false := by kernel_rfl
theorem Tryz.xen163 : Tryz.prog.enters 163 = true := by kernel_rfl
@[go_sem] theorem Tryz.xio164 : Tryz.prog.ioF 164 = false := by kernel_rfl
theorem Tryz.xen164 : Tryz.prog.enters 164 = true := by kernel_rfl
@[go_sem] theorem Tryz.xio165 : Tryz.prog.ioF 165 = false := by kernel_rfl
theorem Tryz.xen165 : Tryz.prog.enters 165 = true := by kernel_rfl
@[go_sem] theorem Tryz.xio166 : Tryz.prog.ioF 166 = false := by kernel_rfl
theorem Tryz.xen166 : Tryz.prog.enters 166 = true := by kernel_rfl
@[go_sem] theorem Tryz.xio167 : Tryz.prog.ioF 167 = false := by kernel_rfl
theorem Tryz.xen167 : Tryz.prog.enters 167 = true := by kernel_rfl
@[go_sem] theorem Tryz.xio168 : Tryz.prog.ioF 168 = false := by kernel_rfl
theorem Tryz.xen168 : Tryz.prog.enters 168 = true := by kernel_rfl
@[go_sem] theorem Tryz.xio169 : Tryz.prog.ioF 169 = false := by kernel_rfl
theorem Tryz.xen169 : Tryz.prog.enters 169 = true := by kernel_rfl
@[go_sem] theorem Tryz.xio170 : Tryz.prog.ioF 170 = true := by kernel_rfl
theorem Tryz.xen170 : Tryz.prog.enters 170 = true := by kernel_rfl
@[go_sem] theorem Tryz.xio171 : Tryz.prog.ioF 171 = true := by kernel_rfl
theorem Tryz.xen171 : Tryz.prog.enters 171 = true := by kernel_rfl
@[go_sem] theorem Tryz.xio172 : Tryz.prog.ioF 172 = false := by kernel_rfl
theorem Tryz.xen172 : Tryz.prog.enters 172 = true := by kernel_rfl
@[go_sem] theorem Tryz.xio173 : Tryz.prog.ioF 173 = false := by kernel_rfl
theorem Tryz.xen173 : Tryz.prog.enters 173 = true := by kernel_rfl
@[go_sem] theorem Tryz.xio174 : Tryz.prog.ioF 174 = false := by kernel_rfl
theorem Tryz.xen174 : Tryz.prog.enters 174 = true := by kernel_rfl
@[go_sem] theorem Tryz.xio175 : Tryz.prog.ioF 175 = false := by kernel_rfl
theorem Tryz.xen175 : Tryz.prog.enters 175 = true := by kernel_rfl
@[go_sem] theorem Tryz.xio176 : Tryz.prog.ioF 176 = false := by kernel_rfl
theorem Tryz.xen176 : Tryz.prog.enters 176 = true := by kernel_rfl
@[go_sem] theorem Tryz.xio177 : Tryz.prog.ioF 177 = false := by kernel_rfl
theorem Tryz.xen177 : Tryz.prog.enters 177 = true := by kernel_rfl
@[go_sem] theorem Tryz.xio178 : Tryz.prog.ioF 178 = false := by kernel_rfl
theorem Tryz.xen178 : Tryz.prog.enters 178 = true := by kernel_rfl
@[go_sem] theorem Tryz.xio179 : Tryz.prog.ioF 179 = false := by kernel_rfl
theorem Tryz.xen179 : Tryz.prog.enters 179 = true := by kernel_rfl
@[go_sem] theorem Tryz.xio180 : Tryz.prog.ioF 180 = false := by kernel_rfl
theorem Tryz.xen180 : Tryz.prog.enters 180 = true := by kernel_rfl
@[go_sem] theorem Tryz.xio181 : Tryz.prog.ioF 181 = false := by kernel_rfl
theorem Tryz.xen181 : Tryz.prog.enters 181 = true := by kernel_rfl
@[go_sem] theorem Tryz.xio182 : Tryz.prog.ioF 182 = false := by kernel_rfl
theorem Tryz.xen182 : Tryz.prog.enters 182 = true := by kernel_rfl
@[go_sem] theorem Tryz.xio183 : Tryz.prog.ioF 183 = false := by kernel_rfl
theorem Tryz.xen183 : Tryz.prog.enters 183 = true := by kernel_rfl
@[go_sem] theorem Tryz.xio184 : Tryz.prog.ioF 184 = false := by kernel_rfl
theorem Tryz.xen184 : Tryz.prog.enters 184 = true := by kernel_rfl
@[go_sem] theorem Tryz.xio185 : Tryz.prog.ioF 185 = false := by kernel_rfl
theorem Tryz.xen185 : Tryz.prog.enters 185 = true := by kernel_rfl
@[go_sem] theorem Tryz.xio186 : Tryz.prog.ioF 186 = false := by kernel_rfl
theorem Tryz.xen186 : Tryz.prog.enters 186 = true := by kernel_rfl
@[go_sem] theorem Tryz.xio187 : Tryz.prog.ioF 187 = false := by kernel_rfl
theorem Tryz.xen187 : Tryz.prog.enters 187 = true := by kernel_rfl
@[go_sem] theorem Tryz.xio188 : Tryz.prog.ioF 188 = false := by kernel_rfl
theorem Tryz.xen188 : Tryz.prog.enters 188 = true := by kernel_rfl
@[go_sem] theorem Tryz.xio189 : Tryz.prog.ioF 189 = false := by kernel_rfl
theorem Tryz.xen189 : Tryz.prog.enters 189 = true := by kernel_rfl
@[go_sem] theorem Tryz.xio190 : Tryz.prog.ioF 190 = false := by kernel_rfl
theorem Tryz.xen190 : Tryz.prog.enters 190 = true := by kernel_rfl
@[go_sem] theorem Tryz.xio191 : Tryz.prog.ioF 191 = false := by kernel_rfl
theorem Tryz.xen191 : Tryz.prog.enters 191 = true := by kernel_rfl
@[go_sem] theorem Tryz.xio192 : Tryz.prog.ioF 192 = false := by kernel_rfl
theorem Tryz.xen192 : Tryz.prog.enters 192 = true := by kernel_rfl
@[go_sem] theorem Tryz.xio193 : Tryz.prog.ioF 193 = false := by kernel_rfl
theorem Tryz.xen193 : Tryz.prog.enters 193 = true := by kernel_rfl
@[go_sem] theorem Tryz.xio194 : Tryz.prog.ioF 194 = false := by kernel_rfl
theorem Tryz.xen194 : Tryz.prog.enters 194 = true := by kernel_rfl
@[go_sem] theorem Tryz.xio195 : Tryz.prog.ioF 195 = false := by kernel_rfl
theorem Tryz.xen195 : Tryz.prog.enters 195 = true := by kernel_rfl
@[go_sem] theorem Tryz.xio196 : Tryz.prog.ioF 196 = true := by kernel_rfl
theorem Tryz.xen196 : Tryz.prog.enters 196 = true := by kernel_rfl
@[go_sem] theorem Tryz.xio197 : Tryz.prog.ioF 197 = false := by kernel_rfl
theorem Tryz.xen197 : Tryz.prog.enters 197 = true := by kernel_rfl
@[go_sem] theorem Tryz.xio198 : Tryz.prog.ioF 198 = false := by kernel_rfl
theorem Tryz.xen198 : Tryz.prog.enters 198 = true := by kernel_rfl
@[go_sem] theorem Tryz.xio199 : Tryz.prog.ioF 199 = false := by kernel_rfl
theorem Tryz.xen199 : Tryz.prog.enters 199 = true := by kernel_rfl
@[go_sem] theorem Tryz.xio200 : Tryz.prog.ioF 200 = false := by kernel_rfl
theorem Tryz.xen200 : Tryz.prog.enters 200 = true := by kernel_rfl
@[go_sem] theorem Tryz.xio201 : Tryz.prog.ioF 201 = false := by kernel_rfl
theorem Tryz.xen201 : Tryz.prog.enters 201 = true := by kernel_rfl
@[go_sem] theorem Tryz.xio202 : Tryz.prog.ioF 202 = false := by kernel_rfl
theorem Tryz.xen202 : Tryz.prog.enters 202 = true := by kernel_rfl
@[go_sem] theorem Tryz.xio203 : Tryz.prog.ioF 203 = false := by kernel_rfl
theorem Tryz.xen203 : Tryz.prog.enters 203 = true := by kernel_rfl
@[go_sem] theorem Tryz.xio204 : Tryz.prog.ioF 204 = false := by kernel_rfl
theorem Tryz.xen204 : Tryz.prog.enters 204 = true := by kernel_rfl
@[go_sem] theorem Tryz.xio205 : Tryz.prog.ioF 205 = false := by kernel_rfl
theorem Tryz.xen205 : Tryz.prog.enters 205 = true := by kernel_rfl
@[go_sem] theorem Tryz.xio206 : Tryz.prog.ioF 206 = false := by kernel_rfl
theorem Tryz.xen206 : Tryz.prog.enters 206 = true := by kernel_rfl
@[go_sem] theorem Tryz.xio207 : Tryz.prog.ioF 207 = false := by kernel_rfl
theorem Tryz.xen207 : Tryz.prog.enters 207 = true := by kernel_rfl
@[go_sem] theorem Tryz.xio208 : Tryz.prog.ioF 208 = false := by kernel_rfl
theorem Tryz.xen208 : Tryz.prog.enters 208 = true := by kernel_rfl
@[go_sem] theorem Tryz.xio209 : Tryz.prog.ioF 209 = false := by kernel_rfl
theorem Tryz.xen209 : Tryz.prog.enters 209 = true := by kernel_rfl
@[go_sem] theorem Tryz.xio210 : Tryz.prog.ioF 210 = false := by kernel_rfl
theorem Tryz.xen210 : Tryz.prog.enters 210 = true := by kernel_rfl
@[go_sem] theorem Tryz.xio211 : Tryz.prog.ioF 211 = false := by kernel_rfl
theorem Tryz.xen211 : Tryz.prog.enters 211 = true := by kernel_rfl
@[go_sem] theorem Tryz.xio212 : Tryz.prog.ioF 212 = false := by kernel_rfl
theorem Tryz.xen212 : Tryz.prog.enters 212 = true := by kernel_rfl
@[go_sem] theorem Tryz.xio213 : Tryz.prog.ioF 213 = false := by kernel_rfl
theorem Tryz.xen213 : Tryz.prog.enters 213 = true := by kernel_rfl
@[go_sem] theorem Tryz.xio214 : Tryz.prog.ioF 214 = false := by kernel_rfl
theorem Tryz.xen214 : Tryz.prog.enters 214 = true := by kernel_rfl
@[go_sem] theorem Tryz.xio215 : Tryz.prog.ioF 215 = false := by kernel_rfl
theorem Tryz.xen215 : Tryz.prog.enters 215 = true := by kernel_rfl
@[go_sem] theorem Tryz.xio216 : Tryz.prog.ioF 216 = false := by kernel_rfl
theorem Tryz.xen216 : Tryz.prog.enters 216 = true := by kernel_rfl
@[go_sem] theorem Tryz.xio217 : Tryz.prog.ioF 217 = false := by kernel_rfl
theorem Tryz.xen217 : Tryz.prog.enters 217 = true := by kernel_rfl
@[go_sem] theorem Tryz.xio218 : Tryz.prog.ioF 218 = false := by kernel_rfl
theorem Tryz.xen218 : Tryz.prog.enters 218 = true := by kernel_rfl
@[go_sem] theorem Tryz.xio219 : Tryz.prog.ioF 219 = false := by kernel_rfl
theorem Tryz.xen219 : Tryz.prog.enters 219 = true := by kernel_rfl
@[go_sem] theorem Tryz.xio220 : Tryz.prog.ioF 220 = false := by kernel_rfl
theorem Tryz.xen220 : Tryz.prog.enters 220 = true := by kernel_rfl
@[go_sem] theorem Tryz.xio221 : Tryz.prog.ioF 221 = true := by kernel_rfl
@[go_sem] theorem Tryz.xio222 : Tryz.prog.ioF 222 = true := by kernel_rfl
@[go_sem] theorem Tryz.xio223 : Tryz.prog.ioF 223 = false := by kernel_rfl
theorem Tryz.xen223 : Tryz.prog.enters 223 = true := by kernel_rfl
@[go_sem] theorem Tryz.xio224 : Tryz.prog.ioF 224 = false := by kernel_rfl
theorem Tryz.xen224 : Tryz.prog.enters 224 = true := by kernel_rfl
@[go_sem] theorem Tryz.xio225 : Tryz.prog.ioF 225 = false := by kernel_rfl
theorem Tryz.xen225 : Tryz.prog.enters 225 = true := by kernel_rfl
@[go_sem] theorem Tryz.xio226 : Tryz.prog.ioF 226 = true := by kernel_rfl
theorem Tryz.xen226 : Tryz.prog.enters 226 = true := by kernel_rfl
@[go_sem] theorem Tryz.xio227 : Tryz.prog.ioF 227 = true := by kernel_rfl
theorem Tryz.xen227 : Tryz.prog.enters 227 = true := by kernel_rfl
@[go_sem] theorem Tryz.xio228 : Tryz.prog.ioF 228 = true := by kernel_rfl
theorem Tryz.xen228 : Tryz.prog.enters 228 = true := by kernel_rfl
@[go_sem] theorem Tryz.xio229 : Tryz.prog.ioF 229 = false := by kernel_rfl
theorem Tryz.xen229 : Tryz.prog.enters 229 = true := by kernel_rfl
@[go_sem] theorem Tryz.xio230 : Tryz.prog.ioF 230 = false := by kernel_rfl
theorem Tryz.xen230 : Tryz.prog.enters 230 = true := by kernel_rfl
@[go_sem] theorem Tryz.xio231 : Tryz.prog.ioF 231 = true := by kernel_rfl
theorem Tryz.xen231 : Tryz.prog.enters 231 = true := by kernel_rfl
@[go_sem] theorem Tryz.xio240 : Tryz.prog.ioF 240 = true := by kernel_rfl
@[go_sem] theorem Tryz.xio241 : Tryz.prog.ioF 241 = true := by kernel_rfl
@[go_sem] theorem Tryz.xio242 : Tryz.prog.ioF 242 = true := by kernel_rfl
@[go_sem] theorem Tryz.xio243 : Tryz.prog.ioF 243 = true := by kernel_rfl
@[go_sem] theorem Tryz.xio244 : Tryz.prog.ioF 244 = true := by kernel_rfl
@[go_sem] theorem Tryz.xio249 : Tryz.prog.ioF 249 = true := by kernel_rfl
end Go.Proofs.YtkppmlignfhdeaaGreat
