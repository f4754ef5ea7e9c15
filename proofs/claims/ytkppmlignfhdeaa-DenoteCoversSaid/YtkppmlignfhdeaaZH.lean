/- Proved here: Sources, clips, tracks and expressions as plain data, and how they lie in cells, for use in the proofs of the given statements; conditions stand in each theorem. -/
import Derived.Test.YtkppmlignfhdeaaZG
import Derived.Test.YtkppmlignfhdeaaZC
import Derived.Test.YtkppmlignfhdeaaProg
set_option linter.unusedSimpArgs false
set_option linter.unusedVariables false
set_option linter.unusedSectionVars false
set_option linter.unusedSimpArgs false
set_option linter.unusedVariables false
set_option linter.unnecessarySimpa false
namespace Go.Proofs.Ytkppmlignfhdeaa
open Go.RowKit
set_option maxRecDepth 4000
abbrev ti (n : Int) : T := .lit (.int .i64 n)
abbrev tu (n : Int) : T := .lit (.int .u64 n)
abbrev tstr (s : ByteArray) : T := .lit (.string s)
abbrev tbl (b : Bool) : T := .lit (.bool b)
abbrev vu64 (n : Int) : V := .t (.lit (.int .u64 n))
def intC (n : Int) : List T := [ti n]
def strC (s : ByteArray) : List T := [tstr s]
@[go_sem] abbrev tints (l : List Int) : T := .list 1 (intC 0) (l.map intC)
@[go_sem] abbrev tstrs (l : List ByteArray) : T := .list 1 (strC ⟨#[]⟩) (l.map strC)
@[go_sem] theorem intC_t (n : Int) : (intC n).map V.t = [vint n] := rfl
@[go_sem] theorem strC_t (n : ByteArray) : (strC n).map V.t = [vstr n] := rfl
@[go_sem] theorem intC_l (n : Int) : (intC n).length = 1 := rfl
@[go_sem] theorem strC_l (n : ByteArray) : (strC n).length = 1 := rfl
structure RatR where
  num : Int
  den : Int
  deriving Inhabited
structure SourceR where
  kind : Int
  name : ByteArray
  pos : RatR
  speed : RatR
  smooth : Bool
  deriving Inhabited
structure ClipR where
  len : Int
  kind : Int
  a : SourceR
  b : SourceR
  off : Int
  total : Int
  param : Int
  text : ByteArray
  gain : Int
  chan : List Int
  deriving Inhabited
def RatR.c (r : RatR) : List T := [ti r.num, ti r.den]
def SourceR.c (s : SourceR) : List T := [ti s.kind, tstr s.name, ti s.pos.num, ti s.pos.den, ti s.speed.num, ti s.speed.den, tbl s.smooth]
def ClipR.c (c : ClipR) : List T := [ti c.len, ti c.kind, ti c.a.kind, tstr c.a.name, ti c.a.pos.num, ti c.a.pos.den, ti c.a.speed.num, ti c.a.speed.den, tbl c.a.smooth,
  ti c.b.kind, tstr c.b.name, ti c.b.pos.num, ti c.b.pos.den, ti c.b.speed.num, ti c.b.speed.den, tbl c.b.smooth, ti c.off, ti c.total, ti c.param, tstr c.text, ti c.gain, tints c.chan]
abbrev vrat (r : RatR) : V := .agg [vint r.num, vint r.den]
abbrev vsource (s : SourceR) : V := .agg [vint s.kind, vstr s.name, vint s.pos.num, vint s.pos.den, vint s.speed.num, vint s.speed.den, vbool s.smooth]
abbrev vclip (c : ClipR) : V := .agg [vint c.len, vint c.kind, vint c.a.kind, vstr c.a.name, vint c.a.pos.num, vint c.a.pos.den, vint c.a.speed.num, vint c.a.speed.den, vbool c.a.smooth,
  vint c.b.kind, vstr c.b.name, vint c.b.pos.num, vint c.b.pos.den, vint c.b.speed.num, vint c.b.speed.den, vbool c.b.smooth, vint c.off, vint c.total, vint c.param, vstr c.text, vint c.gain, .t (tints c.chan)]
@[go_sem] theorem RatR.ct (r : RatR) : (RatR.c r).map V.t = [vint r.num, vint r.den] := rfl
@[go_sem] theorem SourceR.ct (s : SourceR) : (SourceR.c s).map V.t = [vint s.kind, vstr s.name, vint s.pos.num, vint s.pos.den, vint s.speed.num, vint s.speed.den, vbool s.smooth] := rfl
@[go_sem] theorem ClipR.ct (c : ClipR) : (ClipR.c c).map V.t = [vint c.len, vint c.kind, vint c.a.kind, vstr c.a.name, vint c.a.pos.num, vint c.a.pos.den, vint c.a.speed.num, vint c.a.speed.den, vbool c.a.smooth,
  vint c.b.kind, vstr c.b.name, vint c.b.pos.num, vint c.b.pos.den, vint c.b.speed.num, vint c.b.speed.den, vbool c.b.smooth, vint c.off, vint c.total, vint c.param, vstr c.text, vint c.gain, .t (tints c.chan)] := rfl
@[go_sem] theorem RatR.cl (r : RatR) : (RatR.c r).length = 2 := rfl
@[go_sem] theorem SourceR.cl (r : SourceR) : (SourceR.c r).length = 7 := rfl
@[go_sem] theorem ClipR.cl (r : ClipR) : (ClipR.c r).length = 22 := rfl
@[go_sem] abbrev tclips (l : List ClipR) : T := .list 22 (ClipR.c default) (l.map ClipR.c)
theorem getD_of_lt {α : Type} [Inhabited α] {xs : List α} {k : Nat} (h : k < xs.length) : xs.getD k default = xs[k] := by simp [List.getD_eq_getElem?_getD, h]

/-- a branch, by another name of its condition -/
theorem brW {B b : Bool} {A C : Prop} (h : B = b) (k : (b = true → A) ∧ (b = false → C)) : (B = true → A) ∧ (B = false → C) := by rw [h]; exact k

theorem nt {b : Bool} (h : (!b) = true) : b = false := by cases b <;> simp_all
theorem nf {b : Bool} (h : (!b) = false) : b = true := by cases b <;> simp_all
@[go_sem] theorem bne_f {b : Bool} : (b != false) = b := by cases b <;> rfl
@[go_sem] theorem bne_t {b : Bool} : (b != true) = !b := by cases b <;> rfl
/-! 64 bits -/
def I64 (n : Int) : Prop := -9223372036854775808 ≤ n ∧ n ≤ 9223372036854775807
theorem wrap64 {x : Int} (h1 : -9223372036854775808 ≤ x) (h2 : x ≤ 9223372036854775807) : IntKind.i64.wrap x = x := by
  have e1 : (2 : Int) ^ IntKind.i64.bits = 18446744073709551616 := by decide
  have e2 : (2 : Int) ^ (IntKind.i64.bits - 1) = 9223372036854775808 := by decide
  unfold IntKind.wrap
  simp only [IntKind.signed, e1, e2, Bool.true_and, decide_eq_true_eq]
  split <;> omega
theorem wrapN {n : Nat} (h : n ≤ 9223372036854775807) : IntKind.i64.wrap (n : Int) = n := wrap64 (by omega) (by omega)
theorem wrap1 {k : Nat} (h : k < 9223372036854775807) : IntKind.i64.wrap ((k : Int) + 1) = (k : Int) + 1 := wrap64 (by omega) (by omega)
theorem wrapU64 {x : Int} (h1 : 0 ≤ x) (h2 : x ≤ 18446744073709551615) : IntKind.u64.wrap x = x := by
  have e1 : (2 : Int) ^ IntKind.u64.bits = 18446744073709551616 := by decide
  unfold IntKind.wrap
  simp only [IntKind.signed, e1, Bool.false_and, Bool.false_eq_true, if_false]
  omega
theorem wrapU64_neg {x : Int} (h1 : -18446744073709551616 ≤ x) (h2 : x < 0) : IntKind.u64.wrap x = x + 18446744073709551616 := by
  have e1 : (2 : Int) ^ IntKind.u64.bits = 18446744073709551616 := by decide
  unfold IntKind.wrap
  simp only [IntKind.signed, e1, Bool.false_and, Bool.false_eq_true, if_false]
  omega
structure RatR.fit (r : RatR) : Prop where
  num : I64 r.num
  den : I64 r.den
structure SourceR.fit (s : SourceR) : Prop where
  kind : I64 s.kind
  pos : s.pos.fit
  speed : s.speed.fit
structure ClipR.fit (c : ClipR) : Prop where
  len : I64 c.len
  kind : I64 c.kind
  a : c.a.fit
  b : c.b.fit
  off : I64 c.off
  total : I64 c.total
  param : I64 c.param
  gain : I64 c.gain

/-! names and lines -/
def nmI (n : Int) : Bool := (decide (97 ≤ n) && decide (n ≤ 122)) || (decide (48 ≤ n) && decide (n ≤ 57)) || n == 45 || n == 95 || n == 46
def lnI (n : Int) : Bool := decide (32 ≤ n) && decide (n ≤ 126)
def bytesAll (p : Int → Bool) (s : ByteArray) : Bool := s.data.toList.all fun c => p c.toNat
def byteAt (s : ByteArray) (k : Nat) : Int := (s.data.toList.getD k 0).toNat
theorem bytes_len (s : ByteArray) : s.data.toList.length = s.size := Array.length_toList
theorem bytes_hit {p : Int → Bool} {s : ByteArray} {k : Nat} (h : k < s.size) (hp : p (byteAt s k) = false) : bytesAll p s = false := by
  have hl : k < s.data.toList.length := by rw [bytes_len]; exact h
  unfold byteAt at hp
  rw [List.getD_eq_getElem?_getD, List.getElem?_eq_getElem hl] at hp
  unfold bytesAll
  rw [Bool.eq_false_iff, ne_eq, List.all_eq_true]
  intro h'
  have := h' _ (List.getElem_mem hl)
  simp only [Option.getD_some] at hp
  rw [hp] at this; cases this
theorem bytes_done {p : Int → Bool} {s : ByteArray} (h : ∀ k, k < s.size → p (byteAt s k) = true) : bytesAll p s = true := by
  unfold bytesAll
  rw [List.all_eq_true]
  intro c hc
  obtain ⟨k, hk, rfl⟩ := List.mem_iff_getElem.1 hc
  have := h k (by rw [← bytes_len]; exact hk)
  unfold byteAt at this
  rw [List.getD_eq_getElem?_getD, List.getElem?_eq_getElem hk] at this
  exact this
def vName (s : ByteArray) : Bool := decide (1 ≤ s.size) && decide (s.size ≤ 32) && bytesAll nmI s
def vLine (s : ByteArray) : Bool := decide (1 ≤ s.size) && decide (s.size ≤ 64) && bytesAll lnI s
end Go.Proofs.Ytkppmlignfhdeaa
/- Proved here: The layout of the types of the program, for use in the proofs of the given statements; conditions stand in each theorem. -/
set_option linter.unusedSimpArgs false
namespace Go.Proofs.Ytkppmlignfhdeaa
open Go.RowKit
@[go_sem] theorem Try.xsz0 : Try.prog.szT 0 = some 1 := by kernel_rfl
@[go_sem] theorem Try.xag0 : Try.prog.aggT 0 = some false := by kernel_rfl
@[go_sem] theorem Try.xel0 : Try.prog.elemT 0 = none := by kernel_rfl
@[go_sem] theorem Try.xby0 : Try.prog.bytesT 0 = some 0 := by kernel_rfl
@[go_sem] theorem Try.xsz1 : Try.prog.szT 1 = some 1 := by kernel_rfl
@[go_sem] theorem Try.xag1 : Try.prog.aggT 1 = some false := by kernel_rfl
@[go_sem] theorem Try.xel1 : Try.prog.elemT 1 = none := by kernel_rfl
@[go_sem] theorem Try.xby1 : Try.prog.bytesT 1 = some 8 := by kernel_rfl
@[go_sem] theorem Try.xze1 : Try.prog.zeroT 1 = some [Value.nilFunc] := by kernel_rfl
@[go_sem] theorem Try.xzk1 : zeroOk [Value.nilFunc] = true := by kernel_rfl
@[go_sem] theorem Try.xsz2 : Try.prog.szT 2 = some 1 := by kernel_rfl
@[go_sem] theorem Try.xag2 : Try.prog.aggT 2 = some false := by kernel_rfl
@[go_sem] theorem Try.xel2 : Try.prog.elemT 2 = none := by kernel_rfl
@[go_sem] theorem Try.xby2 : Try.prog.bytesT 2 = some 8 := by kernel_rfl
@[go_sem] theorem Try.xze2 : Try.prog.zeroT 2 = some [Value.int IntKind.i64 0] := by kernel_rfl
@[go_sem] theorem Try.xzk2 : zeroOk [Value.int IntKind.i64 0] = true := by kernel_rfl
@[go_sem] theorem Try.xsz3 : Try.prog.szT 3 = some 1 := by kernel_rfl
@[go_sem] theorem Try.xag3 : Try.prog.aggT 3 = some false := by kernel_rfl
@[go_sem] theorem Try.xel3 : Try.prog.elemT 3 = none := by kernel_rfl
@[go_sem] theorem Try.xby3 : Try.prog.bytesT 3 = some 8 := by kernel_rfl
@[go_sem] theorem Try.xze3 : Try.prog.zeroT 3 = some [Value.int IntKind.i64 0] := by kernel_rfl
@[go_sem] theorem Try.xsz4 : Try.prog.szT 4 = some 1 := by kernel_rfl
@[go_sem] theorem Try.xag4 : Try.prog.aggT 4 = some false := by kernel_rfl
@[go_sem] theorem Try.xel4 : Try.prog.elemT 4 = none := by kernel_rfl
@[go_sem] theorem Try.xby4 : Try.prog.bytesT 4 = some 1 := by kernel_rfl
@[go_sem] theorem Try.xze4 : Try.prog.zeroT 4 = some [Value.bool false] := by kernel_rfl
@[go_sem] theorem Try.xzk4 : zeroOk [Value.bool false] = true := by kernel_rfl
@[go_sem] theorem Try.xsz5 : Try.prog.szT 5 = some 1 := by kernel_rfl
@[go_sem] theorem Try.xag5 : Try.prog.aggT 5 = some false := by kernel_rfl
@[go_sem] theorem Try.xel5 : Try.prog.elemT 5 = none := by kernel_rfl
@[go_sem] theorem Try.xby5 : Try.prog.bytesT 5 = some 1 := by kernel_rfl
@[go_sem] theorem Try.xze5 : Try.prog.zeroT 5 = some [Value.int IntKind.u8 0] := by kernel_rfl
@[go_sem] theorem Try.xzk5 : zeroOk [Value.int IntKind.u8 0] = true := by kernel_rfl
@[go_sem] theorem Try.xsz6 : Try.prog.szT 6 = some 1 := by kernel_rfl
@[go_sem] theorem Try.xag6 : Try.prog.aggT 6 = some false := by kernel_rfl
@[go_sem] theorem Try.xel6 : Try.prog.elemT 6 = none := by kernel_rfl
@[go_sem] theorem Try.xby6 : Try.prog.bytesT 6 = some 1 := by kernel_rfl
@[go_sem] theorem Try.xze6 : Try.prog.zeroT 6 = some [Value.int IntKind.u8 0] := by kernel_rfl
@[go_sem] theorem Try.xsz7 : Try.prog.szT 7 = some 4 := by kernel_rfl
@[go_sem] theorem Try.xag7 : Try.prog.aggT 7 = some true := by kernel_rfl
@[go_sem] theorem Try.xel7 : Try.prog.elemT 7 = none := by kernel_rfl
@[go_sem] theorem Try.xby7 : Try.prog.bytesT 7 = some 24 := by kernel_rfl
@[go_sem] theorem Try.xpl7 : Try.prog.plT 7 = some [(0, 1), (1, 1), (2, 1), (3, 1)] := by kernel_rfl
@[go_sem] theorem Try.xze7 : Try.prog.zeroT 7 = some [Value.int IntKind.i64 0, Value.int IntKind.i64 0, Value.bool false, Value.int IntKind.u8 0] := by kernel_rfl
@[go_sem] theorem Try.xzk7 : zeroOk [Value.int IntKind.i64 0, Value.int IntKind.i64 0, Value.bool false, Value.int IntKind.u8 0] = true := by kernel_rfl
@[go_sem] theorem Try.xfl7_0 : Try.prog.fldT 7 0 = some (0, 2) := by kernel_rfl
@[go_sem] theorem Try.xfl7_1 : Try.prog.fldT 7 1 = some (1, 3) := by kernel_rfl
@[go_sem] theorem Try.xfl7_2 : Try.prog.fldT 7 2 = some (2, 4) := by kernel_rfl
@[go_sem] theorem Try.xfl7_3 : Try.prog.fldT 7 3 = some (3, 6) := by kernel_rfl
@[go_sem] theorem Try.xsz8 : Try.prog.szT 8 = some 4 := by kernel_rfl
@[go_sem] theorem Try.xag8 : Try.prog.aggT 8 = some true := by kernel_rfl
@[go_sem] theorem Try.xel8 : Try.prog.elemT 8 = none := by kernel_rfl
@[go_sem] theorem Try.xby8 : Try.prog.bytesT 8 = some 24 := by kernel_rfl
@[go_sem] theorem Try.xpl8 : Try.prog.plT 8 = some [(0, 1), (1, 1), (2, 1), (3, 1)] := by kernel_rfl
@[go_sem] theorem Try.xze8 : Try.prog.zeroT 8 = some [Value.int IntKind.i64 0, Value.int IntKind.i64 0, Value.bool false, Value.int IntKind.u8 0] := by kernel_rfl
@[go_sem] theorem Try.xfl8_0 : Try.prog.fldT 8 0 = some (0, 2) := by kernel_rfl
@[go_sem] theorem Try.xfl8_1 : Try.prog.fldT 8 1 = some (1, 3) := by kernel_rfl
@[go_sem] theorem Try.xfl8_2 : Try.prog.fldT 8 2 = some (2, 4) := by kernel_rfl
@[go_sem] theorem Try.xfl8_3 : Try.prog.fldT 8 3 = some (3, 6) := by kernel_rfl
@[go_sem] theorem Try.xsz9 : Try.prog.szT 9 = some 1 := by kernel_rfl
@[go_sem] theorem Try.xag9 : Try.prog.aggT 9 = some false := by kernel_rfl
@[go_sem] theorem Try.xel9 : Try.prog.elemT 9 = none := by kernel_rfl
@[go_sem] theorem Try.xby9 : Try.prog.bytesT 9 = some 16 := by kernel_rfl
@[go_sem] theorem Try.xze9 : Try.prog.zeroT 9 = some [Value.string ⟨#[]⟩] := by kernel_rfl
@[go_sem] theorem Try.xzk9 : zeroOk [Value.string ⟨#[]⟩] = true := by kernel_rfl
@[go_sem] theorem Try.xsz10 : Try.prog.szT 10 = some 1 := by kernel_rfl
@[go_sem] theorem Try.xag10 : Try.prog.aggT 10 = some false := by kernel_rfl
@[go_sem] theorem Try.xel10 : Try.prog.elemT 10 = none := by kernel_rfl
@[go_sem] theorem Try.xby10 : Try.prog.bytesT 10 = some 16 := by kernel_rfl
@[go_sem] theorem Try.xze10 : Try.prog.zeroT 10 = some [Value.string ⟨#[]⟩] := by kernel_rfl
@[go_sem] theorem Try.xsz11 : Try.prog.szT 11 = some 1 := by kernel_rfl
@[go_sem] theorem Try.xag11 : Try.prog.aggT 11 = some false := by kernel_rfl
@[go_sem] theorem Try.xel11 : Try.prog.elemT 11 = none := by kernel_rfl
@[go_sem] theorem Try.xby11 : Try.prog.bytesT 11 = some 16 := by kernel_rfl
@[go_sem] theorem Try.xze11 : Try.prog.zeroT 11 = some [Value.string ⟨#[]⟩] := by kernel_rfl
@[go_sem] theorem Try.xsz12 : Try.prog.szT 12 = some 1 := by kernel_rfl
@[go_sem] theorem Try.xag12 : Try.prog.aggT 12 = some false := by kernel_rfl
@[go_sem] theorem Try.xel12 : Try.prog.elemT 12 = none := by kernel_rfl
@[go_sem] theorem Try.xby12 : Try.prog.bytesT 12 = some 8 := by kernel_rfl
@[go_sem] theorem Try.xze12 : Try.prog.zeroT 12 = some [Value.int IntKind.u64 0] := by kernel_rfl
@[go_sem] theorem Try.xzk12 : zeroOk [Value.int IntKind.u64 0] = true := by kernel_rfl
@[go_sem] theorem Try.xsz13 : Try.prog.szT 13 = some 2 := by kernel_rfl
@[go_sem] theorem Try.xag13 : Try.prog.aggT 13 = some true := by kernel_rfl
@[go_sem] theorem Try.xel13 : Try.prog.elemT 13 = none := by kernel_rfl
@[go_sem] theorem Try.xby13 : Try.prog.bytesT 13 = some 24 := by kernel_rfl
@[go_sem] theorem Try.xpl13 : Try.prog.plT 13 = some [(0, 1), (1, 1)] := by kernel_rfl
@[go_sem] theorem Try.xze13 : Try.prog.zeroT 13 = some [Value.string ⟨#[]⟩, Value.int IntKind.u64 0] := by kernel_rfl
@[go_sem] theorem Try.xzk13 : zeroOk [Value.string ⟨#[]⟩, Value.int IntKind.u64 0] = true := by kernel_rfl
@[go_sem] theorem Try.xfl13_0 : Try.prog.fldT 13 0 = some (0, 9) := by kernel_rfl
@[go_sem] theorem Try.xfl13_1 : Try.prog.fldT 13 1 = some (1, 12) := by kernel_rfl
@[go_sem] theorem Try.xsz14 : Try.prog.szT 14 = some 2 := by kernel_rfl
@[go_sem] theorem Try.xag14 : Try.prog.aggT 14 = some true := by kernel_rfl
@[go_sem] theorem Try.xel14 : Try.prog.elemT 14 = none := by kernel_rfl
@[go_sem] theorem Try.xby14 : Try.prog.bytesT 14 = some 24 := by kernel_rfl
@[go_sem] theorem Try.xpl14 : Try.prog.plT 14 = some [(0, 1), (1, 1)] := by kernel_rfl
@[go_sem] theorem Try.xze14 : Try.prog.zeroT 14 = some [Value.string ⟨#[]⟩, Value.int IntKind.u64 0] := by kernel_rfl
@[go_sem] theorem Try.xfl14_0 : Try.prog.fldT 14 0 = some (0, 9) := by kernel_rfl
@[go_sem] theorem Try.xfl14_1 : Try.prog.fldT 14 1 = some (1, 12) := by kernel_rfl
@[go_sem] theorem Try.xsz15 : Try.prog.szT 15 = some 1 := by kernel_rfl
@[go_sem] theorem Try.xag15 : Try.prog.aggT 15 = some false := by kernel_rfl
@[go_sem] theorem Try.xel15 : Try.prog.elemT 15 = none := by kernel_rfl
@[go_sem] theorem Try.xby15 : Try.prog.bytesT 15 = some 8 := by kernel_rfl
@[go_sem] theorem Try.xze15 : Try.prog.zeroT 15 = some [Value.pointer none] := by kernel_rfl
@[go_sem] theorem Try.xzk15 : zeroOk [Value.pointer none] = true := by kernel_rfl
@[go_sem] theorem Try.xsz16 : Try.prog.szT 16 = some 1 := by kernel_rfl
@[go_sem] theorem Try.xag16 : Try.prog.aggT 16 = some false := by kernel_rfl
@[go_sem] theorem Try.xel16 : Try.prog.elemT 16 = none := by kernel_rfl
@[go_sem] theorem Try.xby16 : Try.prog.bytesT 16 = some 8 := by kernel_rfl
@[go_sem] theorem Try.xze16 : Try.prog.zeroT 16 = some [Value.pointer none] := by kernel_rfl
@[go_sem] theorem Try.xsz17 : Try.prog.szT 17 = some 1 := by kernel_rfl
@[go_sem] theorem Try.xag17 : Try.prog.aggT 17 = some false := by kernel_rfl
@[go_sem] theorem Try.xel17 : Try.prog.elemT 17 = none := by kernel_rfl
@[go_sem] theorem Try.xby17 : Try.prog.bytesT 17 = some 8 := by kernel_rfl
@[go_sem] theorem Try.xze17 : Try.prog.zeroT 17 = some [Value.pointer none] := by kernel_rfl
@[go_sem] theorem Try.xsz18 : Try.prog.szT 18 = some 1 := by kernel_rfl
@[go_sem] theorem Try.xag18 : Try.prog.aggT 18 = some true := by kernel_rfl
@[go_sem] theorem Try.xel18 : Try.prog.elemT 18 = none := by kernel_rfl
@[go_sem] theorem Try.xby18 : Try.prog.bytesT 18 = some 8 := by kernel_rfl
@[go_sem] theorem Try.xpl18 : Try.prog.plT 18 = some [(0, 1)] := by kernel_rfl
@[go_sem] theorem Try.xze18 : Try.prog.zeroT 18 = some [Value.pointer none] := by kernel_rfl
@[go_sem] theorem Try.xfl18_0 : Try.prog.fldT 18 0 = some (0, 17) := by kernel_rfl
@[go_sem] theorem Try.xsz19 : Try.prog.szT 19 = some 1 := by kernel_rfl
@[go_sem] theorem Try.xag19 : Try.prog.aggT 19 = some true := by kernel_rfl
@[go_sem] theorem Try.xel19 : Try.prog.elemT 19 = none := by kernel_rfl
@[go_sem] theorem Try.xby19 : Try.prog.bytesT 19 = some 8 := by kernel_rfl
@[go_sem] theorem Try.xpl19 : Try.prog.plT 19 = some [(0, 1)] := by kernel_rfl
@[go_sem] theorem Try.xze19 : Try.prog.zeroT 19 = some [Value.pointer none] := by kernel_rfl
@[go_sem] theorem Try.xfl19_0 : Try.prog.fldT 19 0 = some (0, 17) := by kernel_rfl
@[go_sem] theorem Try.xsz20 : Try.prog.szT 20 = some 1 := by kernel_rfl
@[go_sem] theorem Try.xag20 : Try.prog.aggT 20 = some false := by kernel_rfl
@[go_sem] theorem Try.xel20 : Try.prog.elemT 20 = none := by kernel_rfl
@[go_sem] theorem Try.xby20 : Try.prog.bytesT 20 = some 16 := by kernel_rfl
@[go_sem] theorem Try.xze20 : Try.prog.zeroT 20 = some [Value.nilIface] := by kernel_rfl
@[go_sem] theorem Try.xzk20 : zeroOk [Value.nilIface] = true := by kernel_rfl
@[go_sem] theorem Try.xsz21 : Try.prog.szT 21 = some 1 := by kernel_rfl
@[go_sem] theorem Try.xag21 : Try.prog.aggT 21 = some false := by kernel_rfl
@[go_sem] theorem Try.xel21 : Try.prog.elemT 21 = none := by kernel_rfl
@[go_sem] theorem Try.xby21 : Try.prog.bytesT 21 = some 4 := by kernel_rfl
@[go_sem] theorem Try.xze21 : Try.prog.zeroT 21 = some [Value.int IntKind.i32 0] := by kernel_rfl
@[go_sem] theorem Try.xzk21 : zeroOk [Value.int IntKind.i32 0] = true := by kernel_rfl
@[go_sem] theorem Try.xsz22 : Try.prog.szT 22 = some 1 := by kernel_rfl
@[go_sem] theorem Try.xag22 : Try.prog.aggT 22 = some false := by kernel_rfl
@[go_sem] theorem Try.xel22 : Try.prog.elemT 22 = some 3 := by kernel_rfl
@[go_sem] theorem Try.xby22 : Try.prog.bytesT 22 = some 24 := by kernel_rfl
@[go_sem] theorem Try.xze22 : Try.prog.zeroT 22 = some [Value.slice none 0 0] := by kernel_rfl
@[go_sem] theorem Try.xzk22 : zeroOk [Value.slice none 0 0] = true := by kernel_rfl
@[go_sem] theorem Try.xsz23 : Try.prog.szT 23 = some 1 := by kernel_rfl
@[go_sem] theorem Try.xag23 : Try.prog.aggT 23 = some false := by kernel_rfl
@[go_sem] theorem Try.xel23 : Try.prog.elemT 23 = some 25 := by kernel_rfl
@[go_sem] theorem Try.xby23 : Try.prog.bytesT 23 = some 24 := by kernel_rfl
@[go_sem] theorem Try.xze23 : Try.prog.zeroT 23 = some [Value.slice none 0 0] := by kernel_rfl
@[go_sem] theorem Try.xsz24 : Try.prog.szT 24 = some 8 := by kernel_rfl
@[go_sem] theorem Try.xag24 : Try.prog.aggT 24 = some true := by kernel_rfl
@[go_sem] theorem Try.xel24 : Try.prog.elemT 24 = none := by kernel_rfl
@[go_sem] theorem Try.xby24 : Try.prog.bytesT 24 = some 96 := by kernel_rfl
@[go_sem] theorem Try.xpl24 : Try.prog.plT 24 = some [(0, 1), (1, 1), (2, 1), (3, 1), (4, 1), (5, 1), (6, 1), (7, 1)] := by kernel_rfl
@[go_sem] theorem Try.xze24 : Try.prog.zeroT 24 = some [Value.int IntKind.i64 0, Value.string ⟨#[]⟩, Value.int IntKind.i64 0, Value.int IntKind.i64 0, Value.int IntKind.i64 0, Value.int IntKind.i64 0, Value.string ⟨#[]⟩, Value.slice none 0 0] := by kernel_rfl
@[go_sem] theorem Try.xzk24 : zeroOk [Value.int IntKind.i64 0, Value.string ⟨#[]⟩, Value.int IntKind.i64 0, Value.int IntKind.i64 0, Value.int IntKind.i64 0, Value.int IntKind.i64 0, Value.string ⟨#[]⟩, Value.slice none 0 0] = true := by kernel_rfl
@[go_sem] theorem Try.xfl24_0 : Try.prog.fldT 24 0 = some (0, 3) := by kernel_rfl
@[go_sem] theorem Try.xfl24_1 : Try.prog.fldT 24 1 = some (1, 9) := by kernel_rfl
@[go_sem] theorem Try.xfl24_2 : Try.prog.fldT 24 2 = some (2, 2) := by kernel_rfl
@[go_sem] theorem Try.xfl24_3 : Try.prog.fldT 24 3 = some (3, 2) := by kernel_rfl
@[go_sem] theorem Try.xfl24_4 : Try.prog.fldT 24 4 = some (4, 2) := by kernel_rfl
@[go_sem] theorem Try.xfl24_5 : Try.prog.fldT 24 5 = some (5, 3) := by kernel_rfl
@[go_sem] theorem Try.xfl24_6 : Try.prog.fldT 24 6 = some (6, 9) := by kernel_rfl
@[go_sem] theorem Try.xfl24_7 : Try.prog.fldT 24 7 = some (7, 23) := by kernel_rfl
@[go_sem] theorem Try.xsz25 : Try.prog.szT 25 = some 8 := by kernel_rfl
@[go_sem] theorem Try.xag25 : Try.prog.aggT 25 = some true := by kernel_rfl
@[go_sem] theorem Try.xel25 : Try.prog.elemT 25 = none := by kernel_rfl
@[go_sem] theorem Try.xby25 : Try.prog.bytesT 25 = some 96 := by kernel_rfl
@[go_sem] theorem Try.xpl25 : Try.prog.plT 25 = some [(0, 1), (1, 1), (2, 1), (3, 1), (4, 1), (5, 1), (6, 1), (7, 1)] := by kernel_rfl
@[go_sem] theorem Try.xze25 : Try.prog.zeroT 25 = some [Value.int IntKind.i64 0, Value.string ⟨#[]⟩, Value.int IntKind.i64 0, Value.int IntKind.i64 0, Value.int IntKind.i64 0, Value.int IntKind.i64 0, Value.string ⟨#[]⟩, Value.slice none 0 0] := by kernel_rfl
@[go_sem] theorem Try.xfl25_0 : Try.prog.fldT 25 0 = some (0, 3) := by kernel_rfl
@[go_sem] theorem Try.xfl25_1 : Try.prog.fldT 25 1 = some (1, 9) := by kernel_rfl
@[go_sem] theorem Try.xfl25_2 : Try.prog.fldT 25 2 = some (2, 2) := by kernel_rfl
@[go_sem] theorem Try.xfl25_3 : Try.prog.fldT 25 3 = some (3, 2) := by kernel_rfl
@[go_sem] theorem Try.xfl25_4 : Try.prog.fldT 25 4 = some (4, 2) := by kernel_rfl
@[go_sem] theorem Try.xfl25_5 : Try.prog.fldT 25 5 = some (5, 3) := by kernel_rfl
@[go_sem] theorem Try.xfl25_6 : Try.prog.fldT 25 6 = some (6, 9) := by kernel_rfl
@[go_sem] theorem Try.xfl25_7 : Try.prog.fldT 25 7 = some (7, 23) := by kernel_rfl
@[go_sem] theorem Try.xsz26 : Try.prog.szT 26 = some 1 := by kernel_rfl
@[go_sem] theorem Try.xag26 : Try.prog.aggT 26 = some false := by kernel_rfl
@[go_sem] theorem Try.xel26 : Try.prog.elemT 26 = none := by kernel_rfl
@[go_sem] theorem Try.xby26 : Try.prog.bytesT 26 = some 8 := by kernel_rfl
@[go_sem] theorem Try.xze26 : Try.prog.zeroT 26 = some [Value.nilFunc] := by kernel_rfl
@[go_sem] theorem Try.xsz27 : Try.prog.szT 27 = some 1 := by kernel_rfl
@[go_sem] theorem Try.xag27 : Try.prog.aggT 27 = some false := by kernel_rfl
@[go_sem] theorem Try.xel27 : Try.prog.elemT 27 = none := by kernel_rfl
@[go_sem] theorem Try.xby27 : Try.prog.bytesT 27 = some 8 := by kernel_rfl
@[go_sem] theorem Try.xze27 : Try.prog.zeroT 27 = some [Value.pointer none] := by kernel_rfl
@[go_sem] theorem Try.xsz28 : Try.prog.szT 28 = some 2 := by kernel_rfl
@[go_sem] theorem Try.xag28 : Try.prog.aggT 28 = some true := by kernel_rfl
@[go_sem] theorem Try.xel28 : Try.prog.elemT 28 = none := by kernel_rfl
@[go_sem] theorem Try.xby28 : Try.prog.bytesT 28 = some 32 := by kernel_rfl
@[go_sem] theorem Try.xpl28 : Try.prog.plT 28 = some [(0, 1), (1, 1)] := by kernel_rfl
@[go_sem] theorem Try.xze28 : Try.prog.zeroT 28 = some [Value.slice none 0 0, Value.int IntKind.i64 0] := by kernel_rfl
@[go_sem] theorem Try.xzk28 : zeroOk [Value.slice none 0 0, Value.int IntKind.i64 0] = true := by kernel_rfl
@[go_sem] theorem Try.xfl28_0 : Try.prog.fldT 28 0 = some (0, 22) := by kernel_rfl
@[go_sem] theorem Try.xfl28_1 : Try.prog.fldT 28 1 = some (1, 3) := by kernel_rfl
@[go_sem] theorem Try.xsz29 : Try.prog.szT 29 = some 2 := by kernel_rfl
@[go_sem] theorem Try.xag29 : Try.prog.aggT 29 = some true := by kernel_rfl
@[go_sem] theorem Try.xel29 : Try.prog.elemT 29 = none := by kernel_rfl
@[go_sem] theorem Try.xby29 : Try.prog.bytesT 29 = some 32 := by kernel_rfl
@[go_sem] theorem Try.xpl29 : Try.prog.plT 29 = some [(0, 1), (1, 1)] := by kernel_rfl
@[go_sem] theorem Try.xze29 : Try.prog.zeroT 29 = some [Value.slice none 0 0, Value.int IntKind.i64 0] := by kernel_rfl
@[go_sem] theorem Try.xfl29_0 : Try.prog.fldT 29 0 = some (0, 22) := by kernel_rfl
@[go_sem] theorem Try.xfl29_1 : Try.prog.fldT 29 1 = some (1, 3) := by kernel_rfl
@[go_sem] theorem Try.xsz30 : Try.prog.szT 30 = some 1 := by kernel_rfl
@[go_sem] theorem Try.xag30 : Try.prog.aggT 30 = some false := by kernel_rfl
@[go_sem] theorem Try.xel30 : Try.prog.elemT 30 = none := by kernel_rfl
@[go_sem] theorem Try.xby30 : Try.prog.bytesT 30 = some 8 := by kernel_rfl
@[go_sem] theorem Try.xze30 : Try.prog.zeroT 30 = some [Value.nilFunc] := by kernel_rfl
@[go_sem] theorem Try.xsz31 : Try.prog.szT 31 = some 1 := by kernel_rfl
@[go_sem] theorem Try.xag31 : Try.prog.aggT 31 = some false := by kernel_rfl
@[go_sem] theorem Try.xel31 : Try.prog.elemT 31 = none := by kernel_rfl
@[go_sem] theorem Try.xby31 : Try.prog.bytesT 31 = some 8 := by kernel_rfl
@[go_sem] theorem Try.xze31 : Try.prog.zeroT 31 = some [Value.nilFunc] := by kernel_rfl
@[go_sem] theorem Try.xsz32 : Try.prog.szT 32 = some 1 := by kernel_rfl
@[go_sem] theorem Try.xag32 : Try.prog.aggT 32 = some false := by kernel_rfl
@[go_sem] theorem Try.xel32 : Try.prog.elemT 32 = none := by kernel_rfl
@[go_sem] theorem Try.xby32 : Try.prog.bytesT 32 = some 8 := by kernel_rfl
@[go_sem] theorem Try.xze32 : Try.prog.zeroT 32 = some [Value.nilFunc] := by kernel_rfl
@[go_sem] theorem Try.xsz33 : Try.prog.szT 33 = some 1 := by kernel_rfl
@[go_sem] theorem Try.xag33 : Try.prog.aggT 33 = some false := by kernel_rfl
@[go_sem] theorem Try.xel33 : Try.prog.elemT 33 = none := by kernel_rfl
@[go_sem] theorem Try.xby33 : Try.prog.bytesT 33 = some 8 := by kernel_rfl
@[go_sem] theorem Try.xze33 : Try.prog.zeroT 33 = some [Value.nilFunc] := by kernel_rfl
@[go_sem] theorem Try.xsz34 : Try.prog.szT 34 = some 1 := by kernel_rfl
@[go_sem] theorem Try.xag34 : Try.prog.aggT 34 = some false := by kernel_rfl
@[go_sem] theorem Try.xel34 : Try.prog.elemT 34 = none := by kernel_rfl
@[go_sem] theorem Try.xby34 : Try.prog.bytesT 34 = some 8 := by kernel_rfl
@[go_sem] theorem Try.xze34 : Try.prog.zeroT 34 = some [Value.nilFunc] := by kernel_rfl
@[go_sem] theorem Try.xsz35 : Try.prog.szT 35 = some 1 := by kernel_rfl
@[go_sem] theorem Try.xag35 : Try.prog.aggT 35 = some false := by kernel_rfl
@[go_sem] theorem Try.xel35 : Try.prog.elemT 35 = none := by kernel_rfl
@[go_sem] theorem Try.xby35 : Try.prog.bytesT 35 = some 8 := by kernel_rfl
@[go_sem] theorem Try.xze35 : Try.prog.zeroT 35 = some [Value.nilFunc] := by kernel_rfl
@[go_sem] theorem Try.xsz36 : Try.prog.szT 36 = some 1 := by kernel_rfl
@[go_sem] theorem Try.xag36 : Try.prog.aggT 36 = some false := by kernel_rfl
@[go_sem] theorem Try.xel36 : Try.prog.elemT 36 = none := by kernel_rfl
@[go_sem] theorem Try.xby36 : Try.prog.bytesT 36 = some 8 := by kernel_rfl
@[go_sem] theorem Try.xze36 : Try.prog.zeroT 36 = some [Value.nilFunc] := by kernel_rfl
@[go_sem] theorem Try.xsz37 : Try.prog.szT 37 = some 1 := by kernel_rfl
@[go_sem] theorem Try.xag37 : Try.prog.aggT 37 = some false := by kernel_rfl
@[go_sem] theorem Try.xel37 : Try.prog.elemT 37 = some 41 := by kernel_rfl
@[go_sem] theorem Try.xby37 : Try.prog.bytesT 37 = some 24 := by kernel_rfl
@[go_sem] theorem Try.xze37 : Try.prog.zeroT 37 = some [Value.slice none 0 0] := by kernel_rfl
@[go_sem] theorem Try.xsz38 : Try.prog.szT 38 = some 1 := by kernel_rfl
@[go_sem] theorem Try.xag38 : Try.prog.aggT 38 = some false := by kernel_rfl
@[go_sem] theorem Try.xel38 : Try.prog.elemT 38 = none := by kernel_rfl
@[go_sem] theorem Try.xby38 : Try.prog.bytesT 38 = some 8 := by kernel_rfl
@[go_sem] theorem Try.xze38 : Try.prog.zeroT 38 = some [Value.nilFunc] := by kernel_rfl
@[go_sem] theorem Try.xsz39 : Try.prog.szT 39 = some 1 := by kernel_rfl
@[go_sem] theorem Try.xag39 : Try.prog.aggT 39 = some false := by kernel_rfl
@[go_sem] theorem Try.xel39 : Try.prog.elemT 39 = none := by kernel_rfl
@[go_sem] theorem Try.xby39 : Try.prog.bytesT 39 = some 8 := by kernel_rfl
@[go_sem] theorem Try.xze39 : Try.prog.zeroT 39 = some [Value.nilFunc] := by kernel_rfl
@[go_sem] theorem Try.xsz40 : Try.prog.szT 40 = some 4 := by kernel_rfl
@[go_sem] theorem Try.xag40 : Try.prog.aggT 40 = some true := by kernel_rfl
@[go_sem] theorem Try.xel40 : Try.prog.elemT 40 = none := by kernel_rfl
@[go_sem] theorem Try.xby40 : Try.prog.bytesT 40 = some 40 := by kernel_rfl
@[go_sem] theorem Try.xpl40 : Try.prog.plT 40 = some [(0, 1), (1, 1), (2, 1), (3, 1)] := by kernel_rfl
@[go_sem] theorem Try.xze40 : Try.prog.zeroT 40 = some [Value.string ⟨#[]⟩, Value.int IntKind.i64 0, Value.int IntKind.i64 0, Value.int IntKind.i64 0] := by kernel_rfl
@[go_sem] theorem Try.xzk40 : zeroOk [Value.string ⟨#[]⟩, Value.int IntKind.i64 0, Value.int IntKind.i64 0, Value.int IntKind.i64 0] = true := by kernel_rfl
@[go_sem] theorem Try.xfl40_0 : Try.prog.fldT 40 0 = some (0, 9) := by kernel_rfl
@[go_sem] theorem Try.xfl40_1 : Try.prog.fldT 40 1 = some (1, 2) := by kernel_rfl
@[go_sem] theorem Try.xfl40_2 : Try.prog.fldT 40 2 = some (2, 2) := by kernel_rfl
@[go_sem] theorem Try.xfl40_3 : Try.prog.fldT 40 3 = some (3, 2) := by kernel_rfl
@[go_sem] theorem Try.xsz41 : Try.prog.szT 41 = some 4 := by kernel_rfl
@[go_sem] theorem Try.xag41 : Try.prog.aggT 41 = some true := by kernel_rfl
@[go_sem] theorem Try.xel41 : Try.prog.elemT 41 = none := by kernel_rfl
@[go_sem] theorem Try.xby41 : Try.prog.bytesT 41 = some 40 := by kernel_rfl
@[go_sem] theorem Try.xpl41 : Try.prog.plT 41 = some [(0, 1), (1, 1), (2, 1), (3, 1)] := by kernel_rfl
@[go_sem] theorem Try.xze41 : Try.prog.zeroT 41 = some [Value.string ⟨#[]⟩, Value.int IntKind.i64 0, Value.int IntKind.i64 0, Value.int IntKind.i64 0] := by kernel_rfl
@[go_sem] theorem Try.xfl41_0 : Try.prog.fldT 41 0 = some (0, 9) := by kernel_rfl
@[go_sem] theorem Try.xfl41_1 : Try.prog.fldT 41 1 = some (1, 2) := by kernel_rfl
@[go_sem] theorem Try.xfl41_2 : Try.prog.fldT 41 2 = some (2, 2) := by kernel_rfl
@[go_sem] theorem Try.xfl41_3 : Try.prog.fldT 41 3 = some (3, 2) := by kernel_rfl
@[go_sem] theorem Try.xsz42 : Try.prog.szT 42 = some 1 := by kernel_rfl
@[go_sem] theorem Try.xag42 : Try.prog.aggT 42 = some false := by kernel_rfl
@[go_sem] theorem Try.xel42 : Try.prog.elemT 42 = none := by kernel_rfl
@[go_sem] theorem Try.xby42 : Try.prog.bytesT 42 = some 8 := by kernel_rfl
@[go_sem] theorem Try.xze42 : Try.prog.zeroT 42 = some [Value.nilFunc] := by kernel_rfl
@[go_sem] theorem Try.xsz43 : Try.prog.szT 43 = some 1 := by kernel_rfl
@[go_sem] theorem Try.xag43 : Try.prog.aggT 43 = some false := by kernel_rfl
@[go_sem] theorem Try.xel43 : Try.prog.elemT 43 = some 2 := by kernel_rfl
@[go_sem] theorem Try.xby43 : Try.prog.bytesT 43 = some 24 := by kernel_rfl
@[go_sem] theorem Try.xze43 : Try.prog.zeroT 43 = some [Value.slice none 0 0] := by kernel_rfl
@[go_sem] theorem Try.xsz44 : Try.prog.szT 44 = some 1 := by kernel_rfl
@[go_sem] theorem Try.xag44 : Try.prog.aggT 44 = some false := by kernel_rfl
@[go_sem] theorem Try.xel44 : Try.prog.elemT 44 = some 9 := by kernel_rfl
@[go_sem] theorem Try.xby44 : Try.prog.bytesT 44 = some 24 := by kernel_rfl
@[go_sem] theorem Try.xze44 : Try.prog.zeroT 44 = some [Value.slice none 0 0] := by kernel_rfl
@[go_sem] theorem Try.xsz45 : Try.prog.szT 45 = some 1 := by kernel_rfl
@[go_sem] theorem Try.xag45 : Try.prog.aggT 45 = some false := by kernel_rfl
@[go_sem] theorem Try.xel45 : Try.prog.elemT 45 = none := by kernel_rfl
@[go_sem] theorem Try.xby45 : Try.prog.bytesT 45 = some 8 := by kernel_rfl
@[go_sem] theorem Try.xze45 : Try.prog.zeroT 45 = some [Value.nilFunc] := by kernel_rfl
@[go_sem] theorem Try.xsz46 : Try.prog.szT 46 = some 1 := by kernel_rfl
@[go_sem] theorem Try.xag46 : Try.prog.aggT 46 = some false := by kernel_rfl
@[go_sem] theorem Try.xel46 : Try.prog.elemT 46 = none := by kernel_rfl
@[go_sem] theorem Try.xby46 : Try.prog.bytesT 46 = some 8 := by kernel_rfl
@[go_sem] theorem Try.xze46 : Try.prog.zeroT 46 = some [Value.nilFunc] := by kernel_rfl
@[go_sem] theorem Try.xsz47 : Try.prog.szT 47 = some 1 := by kernel_rfl
@[go_sem] theorem Try.xag47 : Try.prog.aggT 47 = some false := by kernel_rfl
@[go_sem] theorem Try.xel47 : Try.prog.elemT 47 = none := by kernel_rfl
@[go_sem] theorem Try.xby47 : Try.prog.bytesT 47 = some 8 := by kernel_rfl
@[go_sem] theorem Try.xze47 : Try.prog.zeroT 47 = some [Value.nilFunc] := by kernel_rfl
@[go_sem] theorem Try.xsz48 : Try.prog.szT 48 = some 1 := by kernel_rfl
@[go_sem] theorem Try.xag48 : Try.prog.aggT 48 = some false := by kernel_rfl
@[go_sem] theorem Try.xel48 : Try.prog.elemT 48 = none := by kernel_rfl
@[go_sem] theorem Try.xby48 : Try.prog.bytesT 48 = some 8 := by kernel_rfl
@[go_sem] theorem Try.xze48 : Try.prog.zeroT 48 = some [Value.int IntKind.i64 0] := by kernel_rfl
@[go_sem] theorem Try.xsz49 : Try.prog.szT 49 = some 1 := by kernel_rfl
@[go_sem] theorem Try.xag49 : Try.prog.aggT 49 = some false := by kernel_rfl
@[go_sem] theorem Try.xel49 : Try.prog.elemT 49 = none := by kernel_rfl
@[go_sem] theorem Try.xby49 : Try.prog.bytesT 49 = some 0 := by kernel_rfl
@[go_sem] theorem Try.xsz50 : Try.prog.szT 50 = some 1 := by kernel_rfl
@[go_sem] theorem Try.xag50 : Try.prog.aggT 50 = some false := by kernel_rfl
@[go_sem] theorem Try.xel50 : Try.prog.elemT 50 = none := by kernel_rfl
@[go_sem] theorem Try.xby50 : Try.prog.bytesT 50 = some 8 := by kernel_rfl
@[go_sem] theorem Try.xze50 : Try.prog.zeroT 50 = some [Value.nilFunc] := by kernel_rfl
@[go_sem] theorem Try.xsz51 : Try.prog.szT 51 = some 2 := by kernel_rfl
@[go_sem] theorem Try.xag51 : Try.prog.aggT 51 = some true := by kernel_rfl
@[go_sem] theorem Try.xel51 : Try.prog.elemT 51 = none := by kernel_rfl
@[go_sem] theorem Try.xby51 : Try.prog.bytesT 51 = some 16 := by kernel_rfl
@[go_sem] theorem Try.xpl51 : Try.prog.plT 51 = some [(0, 1), (1, 1)] := by kernel_rfl
@[go_sem] theorem Try.xze51 : Try.prog.zeroT 51 = some [Value.int IntKind.i64 0, Value.int IntKind.i64 0] := by kernel_rfl
@[go_sem] theorem Try.xzk51 : zeroOk [Value.int IntKind.i64 0, Value.int IntKind.i64 0] = true := by kernel_rfl
@[go_sem] theorem Try.xfl51_0 : Try.prog.fldT 51 0 = some (0, 2) := by kernel_rfl
@[go_sem] theorem Try.xfl51_1 : Try.prog.fldT 51 1 = some (1, 2) := by kernel_rfl
@[go_sem] theorem Try.xsz52 : Try.prog.szT 52 = some 2 := by kernel_rfl
@[go_sem] theorem Try.xag52 : Try.prog.aggT 52 = some true := by kernel_rfl
@[go_sem] theorem Try.xel52 : Try.prog.elemT 52 = none := by kernel_rfl
@[go_sem] theorem Try.xby52 : Try.prog.bytesT 52 = some 16 := by kernel_rfl
@[go_sem] theorem Try.xpl52 : Try.prog.plT 52 = some [(0, 1), (1, 1)] := by kernel_rfl
@[go_sem] theorem Try.xze52 : Try.prog.zeroT 52 = some [Value.int IntKind.i64 0, Value.int IntKind.i64 0] := by kernel_rfl
@[go_sem] theorem Try.xfl52_0 : Try.prog.fldT 52 0 = some (0, 2) := by kernel_rfl
@[go_sem] theorem Try.xfl52_1 : Try.prog.fldT 52 1 = some (1, 2) := by kernel_rfl
@[go_sem] theorem Try.xsz53 : Try.prog.szT 53 = some 1 := by kernel_rfl
@[go_sem] theorem Try.xag53 : Try.prog.aggT 53 = some false := by kernel_rfl
@[go_sem] theorem Try.xel53 : Try.prog.elemT 53 = some 81 := by kernel_rfl
@[go_sem] theorem Try.xby53 : Try.prog.bytesT 53 = some 24 := by kernel_rfl
@[go_sem] theorem Try.xze53 : Try.prog.zeroT 53 = some [Value.slice none 0 0] := by kernel_rfl
@[go_sem] theorem Try.xsz54 : Try.prog.szT 54 = some 1 := by kernel_rfl
@[go_sem] theorem Try.xag54 : Try.prog.aggT 54 = some false := by kernel_rfl
@[go_sem] theorem Try.xel54 : Try.prog.elemT 54 = some 133 := by kernel_rfl
@[go_sem] theorem Try.xby54 : Try.prog.bytesT 54 = some 24 := by kernel_rfl
@[go_sem] theorem Try.xze54 : Try.prog.zeroT 54 = some [Value.slice none 0 0] := by kernel_rfl
@[go_sem] theorem Try.xsz55 : Try.prog.szT 55 = some 9 := by kernel_rfl
@[go_sem] theorem Try.xag55 : Try.prog.aggT 55 = some true := by kernel_rfl
@[go_sem] theorem Try.xel55 : Try.prog.elemT 55 = none := by kernel_rfl
@[go_sem] theorem Try.xby55 : Try.prog.bytesT 55 = some 128 := by kernel_rfl
@[go_sem] theorem Try.xpl55 : Try.prog.plT 55 = some [(0, 1), (1, 2), (3, 1), (4, 1), (5, 1), (6, 1), (7, 1), (8, 1)] := by kernel_rfl
@[go_sem] theorem Try.xze55 : Try.prog.zeroT 55 = some [Value.string ⟨#[]⟩, Value.int IntKind.i64 0, Value.int IntKind.i64 0, Value.int IntKind.i64 0, Value.int IntKind.i64 0, Value.slice none 0 0, Value.slice none 0 0, Value.slice none 0 0, Value.int IntKind.i64 0] := by kernel_rfl
@[go_sem] theorem Try.xzk55 : zeroOk [Value.string ⟨#[]⟩, Value.int IntKind.i64 0, Value.int IntKind.i64 0, Value.int IntKind.i64 0, Value.int IntKind.i64 0, Value.slice none 0 0, Value.slice none 0 0, Value.slice none 0 0, Value.int IntKind.i64 0] = true := by kernel_rfl
@[go_sem] theorem Try.xfl55_0 : Try.prog.fldT 55 0 = some (0, 9) := by kernel_rfl
@[go_sem] theorem Try.xfl55_1 : Try.prog.fldT 55 1 = some (1, 52) := by kernel_rfl
@[go_sem] theorem Try.xfl55_2 : Try.prog.fldT 55 2 = some (3, 3) := by kernel_rfl
@[go_sem] theorem Try.xfl55_3 : Try.prog.fldT 55 3 = some (4, 3) := by kernel_rfl
@[go_sem] theorem Try.xfl55_4 : Try.prog.fldT 55 4 = some (5, 53) := by kernel_rfl
@[go_sem] theorem Try.xfl55_5 : Try.prog.fldT 55 5 = some (6, 53) := by kernel_rfl
@[go_sem] theorem Try.xfl55_6 : Try.prog.fldT 55 6 = some (7, 54) := by kernel_rfl
@[go_sem] theorem Try.xfl55_7 : Try.prog.fldT 55 7 = some (8, 3) := by kernel_rfl
@[go_sem] theorem Try.xsz56 : Try.prog.szT 56 = some 9 := by kernel_rfl
@[go_sem] theorem Try.xag56 : Try.prog.aggT 56 = some true := by kernel_rfl
@[go_sem] theorem Try.xel56 : Try.prog.elemT 56 = none := by kernel_rfl
@[go_sem] theorem Try.xby56 : Try.prog.bytesT 56 = some 128 := by kernel_rfl
@[go_sem] theorem Try.xpl56 : Try.prog.plT 56 = some [(0, 1), (1, 2), (3, 1), (4, 1), (5, 1), (6, 1), (7, 1), (8, 1)] := by kernel_rfl
@[go_sem] theorem Try.xze56 : Try.prog.zeroT 56 = some [Value.string ⟨#[]⟩, Value.int IntKind.i64 0, Value.int IntKind.i64 0, Value.int IntKind.i64 0, Value.int IntKind.i64 0, Value.slice none 0 0, Value.slice none 0 0, Value.slice none 0 0, Value.int IntKind.i64 0] := by kernel_rfl
@[go_sem] theorem Try.xfl56_0 : Try.prog.fldT 56 0 = some (0, 9) := by kernel_rfl
@[go_sem] theorem Try.xfl56_1 : Try.prog.fldT 56 1 = some (1, 52) := by kernel_rfl
@[go_sem] theorem Try.xfl56_2 : Try.prog.fldT 56 2 = some (3, 3) := by kernel_rfl
@[go_sem] theorem Try.xfl56_3 : Try.prog.fldT 56 3 = some (4, 3) := by kernel_rfl
@[go_sem] theorem Try.xfl56_4 : Try.prog.fldT 56 4 = some (5, 53) := by kernel_rfl
@[go_sem] theorem Try.xfl56_5 : Try.prog.fldT 56 5 = some (6, 53) := by kernel_rfl
@[go_sem] theorem Try.xfl56_6 : Try.prog.fldT 56 6 = some (7, 54) := by kernel_rfl
@[go_sem] theorem Try.xfl56_7 : Try.prog.fldT 56 7 = some (8, 3) := by kernel_rfl
@[go_sem] theorem Try.xsz57 : Try.prog.szT 57 = some 1 := by kernel_rfl
@[go_sem] theorem Try.xag57 : Try.prog.aggT 57 = some false := by kernel_rfl
@[go_sem] theorem Try.xel57 : Try.prog.elemT 57 = some 56 := by kernel_rfl
@[go_sem] theorem Try.xby57 : Try.prog.bytesT 57 = some 24 := by kernel_rfl
@[go_sem] theorem Try.xze57 : Try.prog.zeroT 57 = some [Value.slice none 0 0] := by kernel_rfl
@[go_sem] theorem Try.xsz58 : Try.prog.szT 58 = some 1 := by kernel_rfl
@[go_sem] theorem Try.xag58 : Try.prog.aggT 58 = some false := by kernel_rfl
@[go_sem] theorem Try.xel58 : Try.prog.elemT 58 = some 78 := by kernel_rfl
@[go_sem] theorem Try.xby58 : Try.prog.bytesT 58 = some 24 := by kernel_rfl
@[go_sem] theorem Try.xze58 : Try.prog.zeroT 58 = some [Value.slice none 0 0] := by kernel_rfl
@[go_sem] theorem Try.xsz59 : Try.prog.szT 59 = some 2 := by kernel_rfl
@[go_sem] theorem Try.xag59 : Try.prog.aggT 59 = some true := by kernel_rfl
@[go_sem] theorem Try.xel59 : Try.prog.elemT 59 = none := by kernel_rfl
@[go_sem] theorem Try.xby59 : Try.prog.bytesT 59 = some 48 := by kernel_rfl
@[go_sem] theorem Try.xpl59 : Try.prog.plT 59 = some [(0, 1), (1, 1)] := by kernel_rfl
@[go_sem] theorem Try.xze59 : Try.prog.zeroT 59 = some [Value.slice none 0 0, Value.slice none 0 0] := by kernel_rfl
@[go_sem] theorem Try.xzk59 : zeroOk [Value.slice none 0 0, Value.slice none 0 0] = true := by kernel_rfl
@[go_sem] theorem Try.xfl59_0 : Try.prog.fldT 59 0 = some (0, 58) := by kernel_rfl
@[go_sem] theorem Try.xfl59_1 : Try.prog.fldT 59 1 = some (1, 57) := by kernel_rfl
@[go_sem] theorem Try.xsz60 : Try.prog.szT 60 = some 2 := by kernel_rfl
@[go_sem] theorem Try.xag60 : Try.prog.aggT 60 = some true := by kernel_rfl
@[go_sem] theorem Try.xel60 : Try.prog.elemT 60 = none := by kernel_rfl
@[go_sem] theorem Try.xby60 : Try.prog.bytesT 60 = some 48 := by kernel_rfl
@[go_sem] theorem Try.xpl60 : Try.prog.plT 60 = some [(0, 1), (1, 1)] := by kernel_rfl
@[go_sem] theorem Try.xze60 : Try.prog.zeroT 60 = some [Value.slice none 0 0, Value.slice none 0 0] := by kernel_rfl
@[go_sem] theorem Try.xfl60_0 : Try.prog.fldT 60 0 = some (0, 58) := by kernel_rfl
@[go_sem] theorem Try.xfl60_1 : Try.prog.fldT 60 1 = some (1, 57) := by kernel_rfl
@[go_sem] theorem Try.xsz61 : Try.prog.szT 61 = some 1 := by kernel_rfl
@[go_sem] theorem Try.xag61 : Try.prog.aggT 61 = some false := by kernel_rfl
@[go_sem] theorem Try.xel61 : Try.prog.elemT 61 = none := by kernel_rfl
@[go_sem] theorem Try.xby61 : Try.prog.bytesT 61 = some 8 := by kernel_rfl
@[go_sem] theorem Try.xze61 : Try.prog.zeroT 61 = some [Value.nilFunc] := by kernel_rfl
@[go_sem] theorem Try.xsz62 : Try.prog.szT 62 = some 1 := by kernel_rfl
@[go_sem] theorem Try.xag62 : Try.prog.aggT 62 = some false := by kernel_rfl
@[go_sem] theorem Try.xel62 : Try.prog.elemT 62 = none := by kernel_rfl
@[go_sem] theorem Try.xby62 : Try.prog.bytesT 62 = some 8 := by kernel_rfl
@[go_sem] theorem Try.xze62 : Try.prog.zeroT 62 = some [Value.nilFunc] := by kernel_rfl
@[go_sem] theorem Try.xsz63 : Try.prog.szT 63 = some 1 := by kernel_rfl
@[go_sem] theorem Try.xag63 : Try.prog.aggT 63 = some false := by kernel_rfl
@[go_sem] theorem Try.xel63 : Try.prog.elemT 63 = none := by kernel_rfl
@[go_sem] theorem Try.xby63 : Try.prog.bytesT 63 = some 0 := by kernel_rfl
@[go_sem] theorem Try.xsz64 : Try.prog.szT 64 = some 1 := by kernel_rfl
@[go_sem] theorem Try.xag64 : Try.prog.aggT 64 = some false := by kernel_rfl
@[go_sem] theorem Try.xel64 : Try.prog.elemT 64 = none := by kernel_rfl
@[go_sem] theorem Try.xby64 : Try.prog.bytesT 64 = some 8 := by kernel_rfl
@[go_sem] theorem Try.xze64 : Try.prog.zeroT 64 = some [Value.nilFunc] := by kernel_rfl
@[go_sem] theorem Try.xsz65 : Try.prog.szT 65 = some 1 := by kernel_rfl
@[go_sem] theorem Try.xag65 : Try.prog.aggT 65 = some false := by kernel_rfl
@[go_sem] theorem Try.xel65 : Try.prog.elemT 65 = none := by kernel_rfl
@[go_sem] theorem Try.xby65 : Try.prog.bytesT 65 = some 8 := by kernel_rfl
@[go_sem] theorem Try.xze65 : Try.prog.zeroT 65 = some [Value.map none] := by kernel_rfl
@[go_sem] theorem Try.xzk65 : zeroOk [Value.map none] = true := by kernel_rfl
@[go_sem] theorem Try.xmt65 : Try.prog.mapT 65 = some (9, 2) := by kernel_rfl
@[go_sem] theorem Try.xz12 : Try.prog.zero1 2 = some (Value.int IntKind.i64 0) := by kernel_rfl
@[go_sem] theorem Try.xsz66 : Try.prog.szT 66 = some 1 := by kernel_rfl
@[go_sem] theorem Try.xag66 : Try.prog.aggT 66 = some false := by kernel_rfl
@[go_sem] theorem Try.xel66 : Try.prog.elemT 66 = none := by kernel_rfl
@[go_sem] theorem Try.xby66 : Try.prog.bytesT 66 = some 8 := by kernel_rfl
@[go_sem] theorem Try.xze66 : Try.prog.zeroT 66 = some [Value.map none] := by kernel_rfl
@[go_sem] theorem Try.xmt66 : Try.prog.mapT 66 = some (9, 79) := by kernel_rfl
@[go_sem] theorem Try.xz179 : Try.prog.zero1 79 = some (Value.slice none 0 0) := by kernel_rfl
@[go_sem] theorem Try.xsz67 : Try.prog.szT 67 = some 2 := by kernel_rfl
@[go_sem] theorem Try.xag67 : Try.prog.aggT 67 = some true := by kernel_rfl
@[go_sem] theorem Try.xel67 : Try.prog.elemT 67 = none := by kernel_rfl
@[go_sem] theorem Try.xby67 : Try.prog.bytesT 67 = some 16 := by kernel_rfl
@[go_sem] theorem Try.xpl67 : Try.prog.plT 67 = some [(0, 1), (1, 1)] := by kernel_rfl
@[go_sem] theorem Try.xze67 : Try.prog.zeroT 67 = some [Value.map none, Value.map none] := by kernel_rfl
@[go_sem] theorem Try.xzk67 : zeroOk [Value.map none, Value.map none] = true := by kernel_rfl
@[go_sem] theorem Try.xfl67_0 : Try.prog.fldT 67 0 = some (0, 65) := by kernel_rfl
@[go_sem] theorem Try.xfl67_1 : Try.prog.fldT 67 1 = some (1, 66) := by kernel_rfl
@[go_sem] theorem Try.xsz68 : Try.prog.szT 68 = some 2 := by kernel_rfl
@[go_sem] theorem Try.xag68 : Try.prog.aggT 68 = some true := by kernel_rfl
@[go_sem] theorem Try.xel68 : Try.prog.elemT 68 = none := by kernel_rfl
@[go_sem] theorem Try.xby68 : Try.prog.bytesT 68 = some 16 := by kernel_rfl
@[go_sem] theorem Try.xpl68 : Try.prog.plT 68 = some [(0, 1), (1, 1)] := by kernel_rfl
@[go_sem] theorem Try.xze68 : Try.prog.zeroT 68 = some [Value.map none, Value.map none] := by kernel_rfl
@[go_sem] theorem Try.xfl68_0 : Try.prog.fldT 68 0 = some (0, 65) := by kernel_rfl
@[go_sem] theorem Try.xfl68_1 : Try.prog.fldT 68 1 = some (1, 66) := by kernel_rfl
@[go_sem] theorem Try.xsz69 : Try.prog.szT 69 = some 1 := by kernel_rfl
@[go_sem] theorem Try.xag69 : Try.prog.aggT 69 = some false := by kernel_rfl
@[go_sem] theorem Try.xel69 : Try.prog.elemT 69 = none := by kernel_rfl
@[go_sem] theorem Try.xby69 : Try.prog.bytesT 69 = some 8 := by kernel_rfl
@[go_sem] theorem Try.xze69 : Try.prog.zeroT 69 = some [Value.nilFunc] := by kernel_rfl
@[go_sem] theorem Try.xsz70 : Try.prog.szT 70 = some 1 := by kernel_rfl
@[go_sem] theorem Try.xag70 : Try.prog.aggT 70 = some false := by kernel_rfl
@[go_sem] theorem Try.xel70 : Try.prog.elemT 70 = none := by kernel_rfl
@[go_sem] theorem Try.xby70 : Try.prog.bytesT 70 = some 8 := by kernel_rfl
@[go_sem] theorem Try.xze70 : Try.prog.zeroT 70 = some [Value.nilFunc] := by kernel_rfl
@[go_sem] theorem Try.xsz71 : Try.prog.szT 71 = some 1 := by kernel_rfl
@[go_sem] theorem Try.xag71 : Try.prog.aggT 71 = some false := by kernel_rfl
@[go_sem] theorem Try.xel71 : Try.prog.elemT 71 = none := by kernel_rfl
@[go_sem] theorem Try.xby71 : Try.prog.bytesT 71 = some 8 := by kernel_rfl
@[go_sem] theorem Try.xze71 : Try.prog.zeroT 71 = some [Value.nilFunc] := by kernel_rfl
@[go_sem] theorem Try.xsz72 : Try.prog.szT 72 = some 1 := by kernel_rfl
@[go_sem] theorem Try.xag72 : Try.prog.aggT 72 = some false := by kernel_rfl
@[go_sem] theorem Try.xel72 : Try.prog.elemT 72 = none := by kernel_rfl
@[go_sem] theorem Try.xby72 : Try.prog.bytesT 72 = some 8 := by kernel_rfl
@[go_sem] theorem Try.xze72 : Try.prog.zeroT 72 = some [Value.nilFunc] := by kernel_rfl
@[go_sem] theorem Try.xsz73 : Try.prog.szT 73 = some 1 := by kernel_rfl
@[go_sem] theorem Try.xag73 : Try.prog.aggT 73 = some false := by kernel_rfl
@[go_sem] theorem Try.xel73 : Try.prog.elemT 73 = none := by kernel_rfl
@[go_sem] theorem Try.xby73 : Try.prog.bytesT 73 = some 8 := by kernel_rfl
@[go_sem] theorem Try.xze73 : Try.prog.zeroT 73 = some [Value.int IntKind.u64 0] := by kernel_rfl
@[go_sem] theorem Try.xsz74 : Try.prog.szT 74 = some 64 := by kernel_rfl
@[go_sem] theorem Try.xag74 : Try.prog.aggT 74 = some true := by kernel_rfl
@[go_sem] theorem Try.xel74 : Try.prog.elemT 74 = none := by kernel_rfl
@[go_sem] theorem Try.xby74 : Try.prog.bytesT 74 = some 64 := by kernel_rfl
@[go_sem] theorem Try.xpl74 : Try.prog.plT 74 = some [(0, 1), (1, 1), (2, 1), (3, 1), (4, 1), (5, 1), (6, 1), (7, 1), (8, 1), (9, 1), (10, 1), (11, 1), (12, 1), (13, 1), (14, 1), (15, 1), (16, 1), (17, 1), (18, 1), (19, 1), (20, 1), (21, 1), (22, 1), (23, 1), (24, 1), (25, 1), (26, 1), (27, 1), (28, 1), (29, 1), (30, 1), (31, 1), (32, 1), (33, 1), (34, 1), (35, 1), (36, 1), (37, 1), (38, 1), (39, 1), (40, 1), (41, 1), (42, 1), (43, 1), (44, 1), (45, 1), (46, 1), (47, 1), (48, 1), (49, 1), (50, 1), (51, 1), (52, 1), (53, 1), (54, 1), (55, 1), (56, 1), (57, 1), (58, 1), (59, 1), (60, 1), (61, 1), (62, 1), (63, 1)] := by kernel_rfl
@[go_sem] theorem Try.xze74 : Try.prog.zeroT 74 = some [Value.int IntKind.u8 0, Value.int IntKind.u8 0, Value.int IntKind.u8 0, Value.int IntKind.u8 0, Value.int IntKind.u8 0, Value.int IntKind.u8 0, Value.int IntKind.u8 0, Value.int IntKind.u8 0, Value.int IntKind.u8 0, Value.int IntKind.u8 0, Value.int IntKind.u8 0, Value.int IntKind.u8 0, Value.int IntKind.u8 0, Value.int IntKind.u8 0, Value.int IntKind.u8 0, Value.int IntKind.u8 0, Value.int IntKind.u8 0, Value.int IntKind.u8 0, Value.int IntKind.u8 0, Value.int IntKind.u8 0, Value.int IntKind.u8 0, Value.int IntKind.u8 0, Value.int IntKind.u8 0, Value.int IntKind.u8 0, Value.int IntKind.u8 0, Value.int IntKind.u8 0, Value.int IntKind.u8 0, Value.int IntKind.u8 0, Value.int IntKind.u8 0, Value.int IntKind.u8 0, Value.int IntKind.u8 0, Value.int IntKind.u8 0, Value.int IntKind.u8 0, Value.int IntKind.u8 0, Value.int IntKind.u8 0, Value.int IntKind.u8 0, Value.int IntKind.u8 0, Value.int IntKind.u8 0, Value.int IntKind.u8 0, Value.int IntKind.u8 0, Value.int IntKind.u8 0, Value.int IntKind.u8 0, Value.int IntKind.u8 0, Value.int IntKind.u8 0, Value.int IntKind.u8 0, Value.int IntKind.u8 0, Value.int IntKind.u8 0, Value.int IntKind.u8 0, Value.int IntKind.u8 0, Value.int IntKind.u8 0, Value.int IntKind.u8 0, Value.int IntKind.u8 0, Value.int IntKind.u8 0, Value.int IntKind.u8 0, Value.int IntKind.u8 0, Value.int IntKind.u8 0, Value.int IntKind.u8 0, Value.int IntKind.u8 0, Value.int IntKind.u8 0, Value.int IntKind.u8 0, Value.int IntKind.u8 0, Value.int IntKind.u8 0, Value.int IntKind.u8 0, Value.int IntKind.u8 0] := by kernel_rfl
@[go_sem] theorem Try.xzk74 : zeroOk [Value.int IntKind.u8 0, Value.int IntKind.u8 0, Value.int IntKind.u8 0, Value.int IntKind.u8 0, Value.int IntKind.u8 0, Value.int IntKind.u8 0, Value.int IntKind.u8 0, Value.int IntKind.u8 0, Value.int IntKind.u8 0, Value.int IntKind.u8 0, Value.int IntKind.u8 0, Value.int IntKind.u8 0, Value.int IntKind.u8 0, Value.int IntKind.u8 0, Value.int IntKind.u8 0, Value.int IntKind.u8 0, Value.int IntKind.u8 0, Value.int IntKind.u8 0, Value.int IntKind.u8 0, Value.int IntKind.u8 0, Value.int IntKind.u8 0, Value.int IntKind.u8 0, Value.int IntKind.u8 0, Value.int IntKind.u8 0, Value.int IntKind.u8 0, Value.int IntKind.u8 0, Value.int IntKind.u8 0, Value.int IntKind.u8 0, Value.int IntKind.u8 0, Value.int IntKind.u8 0, Value.int IntKind.u8 0, Value.int IntKind.u8 0, Value.int IntKind.u8 0, Value.int IntKind.u8 0, Value.int IntKind.u8 0, Value.int IntKind.u8 0, Value.int IntKind.u8 0, Value.int IntKind.u8 0, Value.int IntKind.u8 0, Value.int IntKind.u8 0, Value.int IntKind.u8 0, Value.int IntKind.u8 0, Value.int IntKind.u8 0, Value.int IntKind.u8 0, Value.int IntKind.u8 0, Value.int IntKind.u8 0, Value.int IntKind.u8 0, Value.int IntKind.u8 0, Value.int IntKind.u8 0, Value.int IntKind.u8 0, Value.int IntKind.u8 0, Value.int IntKind.u8 0, Value.int IntKind.u8 0, Value.int IntKind.u8 0, Value.int IntKind.u8 0, Value.int IntKind.u8 0, Value.int IntKind.u8 0, Value.int IntKind.u8 0, Value.int IntKind.u8 0, Value.int IntKind.u8 0, Value.int IntKind.u8 0, Value.int IntKind.u8 0, Value.int IntKind.u8 0, Value.int IntKind.u8 0] = true := by kernel_rfl
@[go_sem] theorem Try.xsz75 : Try.prog.szT 75 = some 135 := by kernel_rfl
@[go_sem] theorem Try.xag75 : Try.prog.aggT 75 = some true := by kernel_rfl
@[go_sem] theorem Try.xel75 : Try.prog.elemT 75 = none := by kernel_rfl
@[go_sem] theorem Try.xby75 : Try.prog.bytesT 75 = some 184 := by kernel_rfl
@[go_sem] theorem Try.xpl75 : Try.prog.plT 75 = some [(0, 1), (1, 1), (2, 2), (4, 1), (5, 1), (6, 1), (7, 64), (71, 64)] := by kernel_rfl
def Try.z75 : List Value := [Value.int IntKind.i64 0, Value.int IntKind.i64 0, Value.int IntKind.i64 0, Value.int IntKind.i64 0, Value.bool false, Value.int IntKind.i64 0, Value.int IntKind.i64 0, Value.int IntKind.u8 0, Value.int IntKind.u8 0, Value.int IntKind.u8 0, Value.int IntKind.u8 0, Value.int IntKind.u8 0, Value.int IntKind.u8 0, Value.int IntKind.u8 0, Value.int IntKind.u8 0, Value.int IntKind.u8 0, Value.int IntKind.u8 0, Value.int IntKind.u8 0, Value.int IntKind.u8 0, Value.int IntKind.u8 0, Value.int IntKind.u8 0, Value.int IntKind.u8 0, Value.int IntKind.u8 0, Value.int IntKind.u8 0, Value.int IntKind.u8 0, Value.int IntKind.u8 0, Value.int IntKind.u8 0, Value.int IntKind.u8 0, Value.int IntKind.u8 0, Value.int IntKind.u8 0, Value.int IntKind.u8 0, Value.int IntKind.u8 0, Value.int IntKind.u8 0, Value.int IntKind.u8 0, Value.int IntKind.u8 0, Value.int IntKind.u8 0, Value.int IntKind.u8 0, Value.int IntKind.u8 0, Value.int IntKind.u8 0, Value.int IntKind.u8 0, Value.int IntKind.u8 0, Value.int IntKind.u8 0, Value.int IntKind.u8 0, Value.int IntKind.u8 0, Value.int IntKind.u8 0, Value.int IntKind.u8 0, Value.int IntKind.u8 0, Value.int IntKind.u8 0, Value.int IntKind.u8 0, Value.int IntKind.u8 0, Value.int IntKind.u8 0, Value.int IntKind.u8 0, Value.int IntKind.u8 0, Value.int IntKind.u8 0, Value.int IntKind.u8 0, Value.int IntKind.u8 0, Value.int IntKind.u8 0, Value.int IntKind.u8 0, Value.int IntKind.u8 0, Value.int IntKind.u8 0, Value.int IntKind.u8 0, Value.int IntKind.u8 0, Value.int IntKind.u8 0, Value.int IntKind.u8 0, Value.int IntKind.u8 0, Value.int IntKind.u8 0, Value.int IntKind.u8 0, Value.int IntKind.u8 0, Value.int IntKind.u8 0, Value.int IntKind.u8 0, Value.int IntKind.u8 0, Value.int IntKind.u8 0, Value.int IntKind.u8 0, Value.int IntKind.u8 0, Value.int IntKind.u8 0, Value.int IntKind.u8 0, Value.int IntKind.u8 0, Value.int IntKind.u8 0, Value.int IntKind.u8 0, Value.int IntKind.u8 0, Value.int IntKind.u8 0, Value.int IntKind.u8 0, Value.int IntKind.u8 0, Value.int IntKind.u8 0, Value.int IntKind.u8 0, Value.int IntKind.u8 0, Value.int IntKind.u8 0, Value.int IntKind.u8 0, Value.int IntKind.u8 0, Value.int IntKind.u8 0, Value.int IntKind.u8 0, Value.int IntKind.u8 0, Value.int IntKind.u8 0, Value.int IntKind.u8 0, Value.int IntKind.u8 0, Value.int IntKind.u8 0, Value.int IntKind.u8 0, Value.int IntKind.u8 0, Value.int IntKind.u8 0, Value.int IntKind.u8 0, Value.int IntKind.u8 0, Value.int IntKind.u8 0, Value.int IntKind.u8 0, Value.int IntKind.u8 0, Value.int IntKind.u8 0, Value.int IntKind.u8 0, Value.int IntKind.u8 0, Value.int IntKind.u8 0, Value.int IntKind.u8 0, Value.int IntKind.u8 0, Value.int IntKind.u8 0, Value.int IntKind.u8 0, Value.int IntKind.u8 0, Value.int IntKind.u8 0, Value.int IntKind.u8 0, Value.int IntKind.u8 0, Value.int IntKind.u8 0, Value.int IntKind.u8 0, Value.int IntKind.u8 0, Value.int IntKind.u8 0, Value.int IntKind.u8 0, Value.int IntKind.u8 0, Value.int IntKind.u8 0, Value.int IntKind.u8 0, Value.int IntKind.u8 0, Value.int IntKind.u8 0, Value.int IntKind.u8 0, Value.int IntKind.u8 0, Value.int IntKind.u8 0, Value.int IntKind.u8 0, Value.int IntKind.u8 0, Value.int IntKind.u8 0, Value.int IntKind.u8 0, Value.int IntKind.u8 0, Value.int IntKind.u8 0]
@[go_sem] theorem Try.xze75 : Try.prog.zeroT 75 = some Try.z75 := by kernel_rfl
@[go_sem] theorem Try.zok75 : zeroOk Try.z75 = true := by kernel_rfl
@[go_sem] theorem Try.zlen75 : Try.z75.length = 135 := by kernel_rfl
@[go_sem] theorem Try.xfl75_0 : Try.prog.fldT 75 0 = some (0, 3) := by kernel_rfl
@[go_sem] theorem Try.xfl75_1 : Try.prog.fldT 75 1 = some (1, 3) := by kernel_rfl
@[go_sem] theorem Try.xfl75_2 : Try.prog.fldT 75 2 = some (2, 52) := by kernel_rfl
@[go_sem] theorem Try.xfl75_3 : Try.prog.fldT 75 3 = some (4, 4) := by kernel_rfl
@[go_sem] theorem Try.xfl75_4 : Try.prog.fldT 75 4 = some (5, 3) := by kernel_rfl
@[go_sem] theorem Try.xfl75_5 : Try.prog.fldT 75 5 = some (6, 3) := by kernel_rfl
@[go_sem] theorem Try.xfl75_6 : Try.prog.fldT 75 6 = some (7, 74) := by kernel_rfl
@[go_sem] theorem Try.xfl75_7 : Try.prog.fldT 75 7 = some (71, 74) := by kernel_rfl
@[go_sem] theorem Try.xsz76 : Try.prog.szT 76 = some 135 := by kernel_rfl
@[go_sem] theorem Try.xag76 : Try.prog.aggT 76 = some true := by kernel_rfl
@[go_sem] theorem Try.xel76 : Try.prog.elemT 76 = none := by kernel_rfl
@[go_sem] theorem Try.xby76 : Try.prog.bytesT 76 = some 184 := by kernel_rfl
@[go_sem] theorem Try.xpl76 : Try.prog.plT 76 = some [(0, 1), (1, 1), (2, 2), (4, 1), (5, 1), (6, 1), (7, 64), (71, 64)] := by kernel_rfl
def Try.z76 : List Value := [Value.int IntKind.i64 0, Value.int IntKind.i64 0, Value.int IntKind.i64 0, Value.int IntKind.i64 0, Value.bool false, Value.int IntKind.i64 0, Value.int IntKind.i64 0, Value.int IntKind.u8 0, Value.int IntKind.u8 0, Value.int IntKind.u8 0, Value.int IntKind.u8 0, Value.int IntKind.u8 0, Value.int IntKind.u8 0, Value.int IntKind.u8 0, Value.int IntKind.u8 0, Value.int IntKind.u8 0, Value.int IntKind.u8 0, Value.int IntKind.u8 0, Value.int IntKind.u8 0, Value.int IntKind.u8 0, Value.int IntKind.u8 0, Value.int IntKind.u8 0, Value.int IntKind.u8 0, Value.int IntKind.u8 0, Value.int IntKind.u8 0, Value.int IntKind.u8 0, Value.int IntKind.u8 0, Value.int IntKind.u8 0, Value.int IntKind.u8 0, Value.int IntKind.u8 0, Value.int IntKind.u8 0, Value.int IntKind.u8 0, Value.int IntKind.u8 0, Value.int IntKind.u8 0, Value.int IntKind.u8 0, Value.int IntKind.u8 0, Value.int IntKind.u8 0, Value.int IntKind.u8 0, Value.int IntKind.u8 0, Value.int IntKind.u8 0, Value.int IntKind.u8 0, Value.int IntKind.u8 0, Value.int IntKind.u8 0, Value.int IntKind.u8 0, Value.int IntKind.u8 0, Value.int IntKind.u8 0, Value.int IntKind.u8 0, Value.int IntKind.u8 0, Value.int IntKind.u8 0, Value.int IntKind.u8 0, Value.int IntKind.u8 0, Value.int IntKind.u8 0, Value.int IntKind.u8 0, Value.int IntKind.u8 0, Value.int IntKind.u8 0, Value.int IntKind.u8 0, Value.int IntKind.u8 0, Value.int IntKind.u8 0, Value.int IntKind.u8 0, Value.int IntKind.u8 0, Value.int IntKind.u8 0, Value.int IntKind.u8 0, Value.int IntKind.u8 0, Value.int IntKind.u8 0, Value.int IntKind.u8 0, Value.int IntKind.u8 0, Value.int IntKind.u8 0, Value.int IntKind.u8 0, Value.int IntKind.u8 0, Value.int IntKind.u8 0, Value.int IntKind.u8 0, Value.int IntKind.u8 0, Value.int IntKind.u8 0, Value.int IntKind.u8 0, Value.int IntKind.u8 0, Value.int IntKind.u8 0, Value.int IntKind.u8 0, Value.int IntKind.u8 0, Value.int IntKind.u8 0, Value.int IntKind.u8 0, Value.int IntKind.u8 0, Value.int IntKind.u8 0, Value.int IntKind.u8 0, Value.int IntKind.u8 0, Value.int IntKind.u8 0, Value.int IntKind.u8 0, Value.int IntKind.u8 0, Value.int IntKind.u8 0, Value.int IntKind.u8 0, Value.int IntKind.u8 0, Value.int IntKind.u8 0, Value.int IntKind.u8 0, Value.int IntKind.u8 0, Value.int IntKind.u8 0, Value.int IntKind.u8 0, Value.int IntKind.u8 0, Value.int IntKind.u8 0, Value.int IntKind.u8 0, Value.int IntKind.u8 0, Value.int IntKind.u8 0, Value.int IntKind.u8 0, Value.int IntKind.u8 0, Value.int IntKind.u8 0, Value.int IntKind.u8 0, Value.int IntKind.u8 0, Value.int IntKind.u8 0, Value.int IntKind.u8 0, Value.int IntKind.u8 0, Value.int IntKind.u8 0, Value.int IntKind.u8 0, Value.int IntKind.u8 0, Value.int IntKind.u8 0, Value.int IntKind.u8 0, Value.int IntKind.u8 0, Value.int IntKind.u8 0, Value.int IntKind.u8 0, Value.int IntKind.u8 0, Value.int IntKind.u8 0, Value.int IntKind.u8 0, Value.int IntKind.u8 0, Value.int IntKind.u8 0, Value.int IntKind.u8 0, Value.int IntKind.u8 0, Value.int IntKind.u8 0, Value.int IntKind.u8 0, Value.int IntKind.u8 0, Value.int IntKind.u8 0, Value.int IntKind.u8 0, Value.int IntKind.u8 0, Value.int IntKind.u8 0, Value.int IntKind.u8 0, Value.int IntKind.u8 0, Value.int IntKind.u8 0, Value.int IntKind.u8 0, Value.int IntKind.u8 0]
@[go_sem] theorem Try.xze76 : Try.prog.zeroT 76 = some Try.z76 := by kernel_rfl
@[go_sem] theorem Try.zok76 : zeroOk Try.z76 = true := by kernel_rfl
@[go_sem] theorem Try.zlen76 : Try.z76.length = 135 := by kernel_rfl
@[go_sem] theorem Try.xfl76_0 : Try.prog.fldT 76 0 = some (0, 3) := by kernel_rfl
@[go_sem] theorem Try.xfl76_1 : Try.prog.fldT 76 1 = some (1, 3) := by kernel_rfl
@[go_sem] theorem Try.xfl76_2 : Try.prog.fldT 76 2 = some (2, 52) := by kernel_rfl
@[go_sem] theorem Try.xfl76_3 : Try.prog.fldT 76 3 = some (4, 4) := by kernel_rfl
@[go_sem] theorem Try.xfl76_4 : Try.prog.fldT 76 4 = some (5, 3) := by kernel_rfl
@[go_sem] theorem Try.xfl76_5 : Try.prog.fldT 76 5 = some (6, 3) := by kernel_rfl
@[go_sem] theorem Try.xfl76_6 : Try.prog.fldT 76 6 = some (7, 74) := by kernel_rfl
@[go_sem] theorem Try.xfl76_7 : Try.prog.fldT 76 7 = some (71, 74) := by kernel_rfl
@[go_sem] theorem Try.xsz77 : Try.prog.szT 77 = some 141 := by kernel_rfl
@[go_sem] theorem Try.xag77 : Try.prog.aggT 77 = some true := by kernel_rfl
@[go_sem] theorem Try.xel77 : Try.prog.elemT 77 = none := by kernel_rfl
@[go_sem] theorem Try.xby77 : Try.prog.bytesT 77 = some 256 := by kernel_rfl
@[go_sem] theorem Try.xpl77 : Try.prog.plT 77 = some [(0, 1), (1, 1), (2, 135), (137, 1), (138, 1), (139, 1), (140, 1)] := by kernel_rfl
def Try.z77 : List Value := [Value.string ⟨#[]⟩, Value.int IntKind.u64 0, Value.int IntKind.i64 0, Value.int IntKind.i64 0, Value.int IntKind.i64 0, Value.int IntKind.i64 0, Value.bool false, Value.int IntKind.i64 0, Value.int IntKind.i64 0, Value.int IntKind.u8 0, Value.int IntKind.u8 0, Value.int IntKind.u8 0, Value.int IntKind.u8 0, Value.int IntKind.u8 0, Value.int IntKind.u8 0, Value.int IntKind.u8 0, Value.int IntKind.u8 0, Value.int IntKind.u8 0, Value.int IntKind.u8 0, Value.int IntKind.u8 0, Value.int IntKind.u8 0, Value.int IntKind.u8 0, Value.int IntKind.u8 0, Value.int IntKind.u8 0, Value.int IntKind.u8 0, Value.int IntKind.u8 0, Value.int IntKind.u8 0, Value.int IntKind.u8 0, Value.int IntKind.u8 0, Value.int IntKind.u8 0, Value.int IntKind.u8 0, Value.int IntKind.u8 0, Value.int IntKind.u8 0, Value.int IntKind.u8 0, Value.int IntKind.u8 0, Value.int IntKind.u8 0, Value.int IntKind.u8 0, Value.int IntKind.u8 0, Value.int IntKind.u8 0, Value.int IntKind.u8 0, Value.int IntKind.u8 0, Value.int IntKind.u8 0, Value.int IntKind.u8 0, Value.int IntKind.u8 0, Value.int IntKind.u8 0, Value.int IntKind.u8 0, Value.int IntKind.u8 0, Value.int IntKind.u8 0, Value.int IntKind.u8 0, Value.int IntKind.u8 0, Value.int IntKind.u8 0, Value.int IntKind.u8 0, Value.int IntKind.u8 0, Value.int IntKind.u8 0, Value.int IntKind.u8 0, Value.int IntKind.u8 0, Value.int IntKind.u8 0, Value.int IntKind.u8 0, Value.int IntKind.u8 0, Value.int IntKind.u8 0, Value.int IntKind.u8 0, Value.int IntKind.u8 0, Value.int IntKind.u8 0, Value.int IntKind.u8 0, Value.int IntKind.u8 0, Value.int IntKind.u8 0, Value.int IntKind.u8 0, Value.int IntKind.u8 0, Value.int IntKind.u8 0, Value.int IntKind.u8 0, Value.int IntKind.u8 0, Value.int IntKind.u8 0, Value.int IntKind.u8 0, Value.int IntKind.u8 0, Value.int IntKind.u8 0, Value.int IntKind.u8 0, Value.int IntKind.u8 0, Value.int IntKind.u8 0, Value.int IntKind.u8 0, Value.int IntKind.u8 0, Value.int IntKind.u8 0, Value.int IntKind.u8 0, Value.int IntKind.u8 0, Value.int IntKind.u8 0, Value.int IntKind.u8 0, Value.int IntKind.u8 0, Value.int IntKind.u8 0, Value.int IntKind.u8 0, Value.int IntKind.u8 0, Value.int IntKind.u8 0, Value.int IntKind.u8 0, Value.int IntKind.u8 0, Value.int IntKind.u8 0, Value.int IntKind.u8 0, Value.int IntKind.u8 0, Value.int IntKind.u8 0, Value.int IntKind.u8 0, Value.int IntKind.u8 0, Value.int IntKind.u8 0, Value.int IntKind.u8 0, Value.int IntKind.u8 0, Value.int IntKind.u8 0, Value.int IntKind.u8 0, Value.int IntKind.u8 0, Value.int IntKind.u8 0, Value.int IntKind.u8 0, Value.int IntKind.u8 0, Value.int IntKind.u8 0, Value.int IntKind.u8 0, Value.int IntKind.u8 0, Value.int IntKind.u8 0, Value.int IntKind.u8 0, Value.int IntKind.u8 0, Value.int IntKind.u8 0, Value.int IntKind.u8 0, Value.int IntKind.u8 0, Value.int IntKind.u8 0, Value.int IntKind.u8 0, Value.int IntKind.u8 0, Value.int IntKind.u8 0, Value.int IntKind.u8 0, Value.int IntKind.u8 0, Value.int IntKind.u8 0, Value.int IntKind.u8 0, Value.int IntKind.u8 0, Value.int IntKind.u8 0, Value.int IntKind.u8 0, Value.int IntKind.u8 0, Value.int IntKind.u8 0, Value.int IntKind.u8 0, Value.int IntKind.u8 0, Value.int IntKind.u8 0, Value.int IntKind.u8 0, Value.int IntKind.u8 0, Value.int IntKind.u8 0, Value.int IntKind.u8 0, Value.int IntKind.u8 0, Value.int IntKind.i64 0, Value.int IntKind.i64 0, Value.int IntKind.i64 0, Value.slice none 0 0]
@[go_sem] theorem Try.xze77 : Try.prog.zeroT 77 = some Try.z77 := by kernel_rfl
@[go_sem] theorem Try.zok77 : zeroOk Try.z77 = true := by kernel_rfl
@[go_sem] theorem Try.zlen77 : Try.z77.length = 141 := by kernel_rfl
@[go_sem] theorem Try.xfl77_0 : Try.prog.fldT 77 0 = some (0, 9) := by kernel_rfl
@[go_sem] theorem Try.xfl77_1 : Try.prog.fldT 77 1 = some (1, 73) := by kernel_rfl
@[go_sem] theorem Try.xfl77_2 : Try.prog.fldT 77 2 = some (2, 76) := by kernel_rfl
@[go_sem] theorem Try.xfl77_3 : Try.prog.fldT 77 3 = some (137, 2) := by kernel_rfl
@[go_sem] theorem Try.xfl77_4 : Try.prog.fldT 77 4 = some (138, 3) := by kernel_rfl
@[go_sem] theorem Try.xfl77_5 : Try.prog.fldT 77 5 = some (139, 2) := by kernel_rfl
@[go_sem] theorem Try.xfl77_6 : Try.prog.fldT 77 6 = some (140, 54) := by kernel_rfl
@[go_sem] theorem Try.xsz78 : Try.prog.szT 78 = some 141 := by kernel_rfl
@[go_sem] theorem Try.xag78 : Try.prog.aggT 78 = some true := by kernel_rfl
@[go_sem] theorem Try.xel78 : Try.prog.elemT 78 = none := by kernel_rfl
@[go_sem] theorem Try.xby78 : Try.prog.bytesT 78 = some 256 := by kernel_rfl
@[go_sem] theorem Try.xpl78 : Try.prog.plT 78 = some [(0, 1), (1, 1), (2, 135), (137, 1), (138, 1), (139, 1), (140, 1)] := by kernel_rfl
def Try.z78 : List Value := [Value.string ⟨#[]⟩, Value.int IntKind.u64 0, Value.int IntKind.i64 0, Value.int IntKind.i64 0, Value.int IntKind.i64 0, Value.int IntKind.i64 0, Value.bool false, Value.int IntKind.i64 0, Value.int IntKind.i64 0, Value.int IntKind.u8 0, Value.int IntKind.u8 0, Value.int IntKind.u8 0, Value.int IntKind.u8 0, Value.int IntKind.u8 0, Value.int IntKind.u8 0, Value.int IntKind.u8 0, Value.int IntKind.u8 0, Value.int IntKind.u8 0, Value.int IntKind.u8 0, Value.int IntKind.u8 0, Value.int IntKind.u8 0, Value.int IntKind.u8 0, Value.int IntKind.u8 0, Value.int IntKind.u8 0, Value.int IntKind.u8 0, Value.int IntKind.u8 0, Value.int IntKind.u8 0, Value.int IntKind.u8 0, Value.int IntKind.u8 0, Value.int IntKind.u8 0, Value.int IntKind.u8 0, Value.int IntKind.u8 0, Value.int IntKind.u8 0, Value.int IntKind.u8 0, Value.int IntKind.u8 0, Value.int IntKind.u8 0, Value.int IntKind.u8 0, Value.int IntKind.u8 0, Value.int IntKind.u8 0, Value.int IntKind.u8 0, Value.int IntKind.u8 0, Value.int IntKind.u8 0, Value.int IntKind.u8 0, Value.int IntKind.u8 0, Value.int IntKind.u8 0, Value.int IntKind.u8 0, Value.int IntKind.u8 0, Value.int IntKind.u8 0, Value.int IntKind.u8 0, Value.int IntKind.u8 0, Value.int IntKind.u8 0, Value.int IntKind.u8 0, Value.int IntKind.u8 0, Value.int IntKind.u8 0, Value.int IntKind.u8 0, Value.int IntKind.u8 0, Value.int IntKind.u8 0, Value.int IntKind.u8 0, Value.int IntKind.u8 0, Value.int IntKind.u8 0, Value.int IntKind.u8 0, Value.int IntKind.u8 0, Value.int IntKind.u8 0, Value.int IntKind.u8 0, Value.int IntKind.u8 0, Value.int IntKind.u8 0, Value.int IntKind.u8 0, Value.int IntKind.u8 0, Value.int IntKind.u8 0, Value.int IntKind.u8 0, Value.int IntKind.u8 0, Value.int IntKind.u8 0, Value.int IntKind.u8 0, Value.int IntKind.u8 0, Value.int IntKind.u8 0, Value.int IntKind.u8 0, Value.int IntKind.u8 0, Value.int IntKind.u8 0, Value.int IntKind.u8 0, Value.int IntKind.u8 0, Value.int IntKind.u8 0, Value.int IntKind.u8 0, Value.int IntKind.u8 0, Value.int IntKind.u8 0, Value.int IntKind.u8 0, Value.int IntKind.u8 0, Value.int IntKind.u8 0, Value.int IntKind.u8 0, Value.int IntKind.u8 0, Value.int IntKind.u8 0, Value.int IntKind.u8 0, Value.int IntKind.u8 0, Value.int IntKind.u8 0, Value.int IntKind.u8 0, Value.int IntKind.u8 0, Value.int IntKind.u8 0, Value.int IntKind.u8 0, Value.int IntKind.u8 0, Value.int IntKind.u8 0, Value.int IntKind.u8 0, Value.int IntKind.u8 0, Value.int IntKind.u8 0, Value.int IntKind.u8 0, Value.int IntKind.u8 0, Value.int IntKind.u8 0, Value.int IntKind.u8 0, Value.int IntKind.u8 0, Value.int IntKind.u8 0, Value.int IntKind.u8 0, Value.int IntKind.u8 0, Value.int IntKind.u8 0, Value.int IntKind.u8 0, Value.int IntKind.u8 0, Value.int IntKind.u8 0, Value.int IntKind.u8 0, Value.int IntKind.u8 0, Value.int IntKind.u8 0, Value.int IntKind.u8 0, Value.int IntKind.u8 0, Value.int IntKind.u8 0, Value.int IntKind.u8 0, Value.int IntKind.u8 0, Value.int IntKind.u8 0, Value.int IntKind.u8 0, Value.int IntKind.u8 0, Value.int IntKind.u8 0, Value.int IntKind.u8 0, Value.int IntKind.u8 0, Value.int IntKind.u8 0, Value.int IntKind.u8 0, Value.int IntKind.u8 0, Value.int IntKind.u8 0, Value.int IntKind.u8 0, Value.int IntKind.u8 0, Value.int IntKind.u8 0, Value.int IntKind.u8 0, Value.int IntKind.u8 0, Value.int IntKind.i64 0, Value.int IntKind.i64 0, Value.int IntKind.i64 0, Value.slice none 0 0]
@[go_sem] theorem Try.xze78 : Try.prog.zeroT 78 = some Try.z78 := by kernel_rfl
@[go_sem] theorem Try.zok78 : zeroOk Try.z78 = true := by kernel_rfl
@[go_sem] theorem Try.zlen78 : Try.z78.length = 141 := by kernel_rfl
@[go_sem] theorem Try.xfl78_0 : Try.prog.fldT 78 0 = some (0, 9) := by kernel_rfl
@[go_sem] theorem Try.xfl78_1 : Try.prog.fldT 78 1 = some (1, 73) := by kernel_rfl
@[go_sem] theorem Try.xfl78_2 : Try.prog.fldT 78 2 = some (2, 76) := by kernel_rfl
@[go_sem] theorem Try.xfl78_3 : Try.prog.fldT 78 3 = some (137, 2) := by kernel_rfl
@[go_sem] theorem Try.xfl78_4 : Try.prog.fldT 78 4 = some (138, 3) := by kernel_rfl
@[go_sem] theorem Try.xfl78_5 : Try.prog.fldT 78 5 = some (139, 2) := by kernel_rfl
@[go_sem] theorem Try.xfl78_6 : Try.prog.fldT 78 6 = some (140, 54) := by kernel_rfl
@[go_sem] theorem Try.xsz79 : Try.prog.szT 79 = some 1 := by kernel_rfl
@[go_sem] theorem Try.xag79 : Try.prog.aggT 79 = some false := by kernel_rfl
@[go_sem] theorem Try.xel79 : Try.prog.elemT 79 = some 84 := by kernel_rfl
@[go_sem] theorem Try.xby79 : Try.prog.bytesT 79 = some 24 := by kernel_rfl
@[go_sem] theorem Try.xze79 : Try.prog.zeroT 79 = some [Value.slice none 0 0] := by kernel_rfl
@[go_sem] theorem Try.xsz80 : Try.prog.szT 80 = some 1 := by kernel_rfl
@[go_sem] theorem Try.xag80 : Try.prog.aggT 80 = some false := by kernel_rfl
@[go_sem] theorem Try.xel80 : Try.prog.elemT 80 = some 91 := by kernel_rfl
@[go_sem] theorem Try.xby80 : Try.prog.bytesT 80 = some 24 := by kernel_rfl
@[go_sem] theorem Try.xze80 : Try.prog.zeroT 80 = some [Value.slice none 0 0] := by kernel_rfl
@[go_sem] theorem Try.xsz81 : Try.prog.szT 81 = some 1 := by kernel_rfl
@[go_sem] theorem Try.xag81 : Try.prog.aggT 81 = some false := by kernel_rfl
@[go_sem] theorem Try.xel81 : Try.prog.elemT 81 = some 91 := by kernel_rfl
@[go_sem] theorem Try.xby81 : Try.prog.bytesT 81 = some 24 := by kernel_rfl
@[go_sem] theorem Try.xze81 : Try.prog.zeroT 81 = some [Value.slice none 0 0] := by kernel_rfl
@[go_sem] theorem Try.xsz82 : Try.prog.szT 82 = some 1 := by kernel_rfl
@[go_sem] theorem Try.xag82 : Try.prog.aggT 82 = some false := by kernel_rfl
@[go_sem] theorem Try.xel82 : Try.prog.elemT 82 = some 95 := by kernel_rfl
@[go_sem] theorem Try.xby82 : Try.prog.bytesT 82 = some 24 := by kernel_rfl
@[go_sem] theorem Try.xze82 : Try.prog.zeroT 82 = some [Value.slice none 0 0] := by kernel_rfl
@[go_sem] theorem Try.xsz83 : Try.prog.szT 83 = some 3 := by kernel_rfl
@[go_sem] theorem Try.xag83 : Try.prog.aggT 83 = some true := by kernel_rfl
@[go_sem] theorem Try.xel83 : Try.prog.elemT 83 = none := by kernel_rfl
@[go_sem] theorem Try.xby83 : Try.prog.bytesT 83 = some 72 := by kernel_rfl
@[go_sem] theorem Try.xpl83 : Try.prog.plT 83 = some [(0, 1), (1, 1), (2, 1)] := by kernel_rfl
@[go_sem] theorem Try.xze83 : Try.prog.zeroT 83 = some [Value.slice none 0 0, Value.slice none 0 0, Value.slice none 0 0] := by kernel_rfl
@[go_sem] theorem Try.xzk83 : zeroOk [Value.slice none 0 0, Value.slice none 0 0, Value.slice none 0 0] = true := by kernel_rfl
@[go_sem] theorem Try.xfl83_0 : Try.prog.fldT 83 0 = some (0, 80) := by kernel_rfl
@[go_sem] theorem Try.xfl83_1 : Try.prog.fldT 83 1 = some (1, 43) := by kernel_rfl
@[go_sem] theorem Try.xfl83_2 : Try.prog.fldT 83 2 = some (2, 82) := by kernel_rfl
@[go_sem] theorem Try.xsz84 : Try.prog.szT 84 = some 3 := by kernel_rfl
@[go_sem] theorem Try.xag84 : Try.prog.aggT 84 = some true := by kernel_rfl
@[go_sem] theorem Try.xel84 : Try.prog.elemT 84 = none := by kernel_rfl
@[go_sem] theorem Try.xby84 : Try.prog.bytesT 84 = some 72 := by kernel_rfl
@[go_sem] theorem Try.xpl84 : Try.prog.plT 84 = some [(0, 1), (1, 1), (2, 1)] := by kernel_rfl
@[go_sem] theorem Try.xze84 : Try.prog.zeroT 84 = some [Value.slice none 0 0, Value.slice none 0 0, Value.slice none 0 0] := by kernel_rfl
@[go_sem] theorem Try.xfl84_0 : Try.prog.fldT 84 0 = some (0, 80) := by kernel_rfl
@[go_sem] theorem Try.xfl84_1 : Try.prog.fldT 84 1 = some (1, 43) := by kernel_rfl
@[go_sem] theorem Try.xfl84_2 : Try.prog.fldT 84 2 = some (2, 82) := by kernel_rfl
@[go_sem] theorem Try.xsz85 : Try.prog.szT 85 = some 1 := by kernel_rfl
@[go_sem] theorem Try.xag85 : Try.prog.aggT 85 = some false := by kernel_rfl
@[go_sem] theorem Try.xel85 : Try.prog.elemT 85 = none := by kernel_rfl
@[go_sem] theorem Try.xby85 : Try.prog.bytesT 85 = some 8 := by kernel_rfl
@[go_sem] theorem Try.xze85 : Try.prog.zeroT 85 = some [Value.nilFunc] := by kernel_rfl
@[go_sem] theorem Try.xsz86 : Try.prog.szT 86 = some 1 := by kernel_rfl
@[go_sem] theorem Try.xag86 : Try.prog.aggT 86 = some false := by kernel_rfl
@[go_sem] theorem Try.xel86 : Try.prog.elemT 86 = none := by kernel_rfl
@[go_sem] theorem Try.xby86 : Try.prog.bytesT 86 = some 8 := by kernel_rfl
@[go_sem] theorem Try.xze86 : Try.prog.zeroT 86 = some [Value.nilFunc] := by kernel_rfl
@[go_sem] theorem Try.xsz87 : Try.prog.szT 87 = some 1 := by kernel_rfl
@[go_sem] theorem Try.xag87 : Try.prog.aggT 87 = some false := by kernel_rfl
@[go_sem] theorem Try.xel87 : Try.prog.elemT 87 = none := by kernel_rfl
@[go_sem] theorem Try.xby87 : Try.prog.bytesT 87 = some 8 := by kernel_rfl
@[go_sem] theorem Try.xze87 : Try.prog.zeroT 87 = some [Value.nilFunc] := by kernel_rfl
@[go_sem] theorem Try.xsz88 : Try.prog.szT 88 = some 7 := by kernel_rfl
@[go_sem] theorem Try.xag88 : Try.prog.aggT 88 = some true := by kernel_rfl
@[go_sem] theorem Try.xel88 : Try.prog.elemT 88 = none := by kernel_rfl
@[go_sem] theorem Try.xby88 : Try.prog.bytesT 88 = some 64 := by kernel_rfl
@[go_sem] theorem Try.xpl88 : Try.prog.plT 88 = some [(0, 1), (1, 1), (2, 2), (4, 2), (6, 1)] := by kernel_rfl
@[go_sem] theorem Try.xze88 : Try.prog.zeroT 88 = some [Value.int IntKind.i64 0, Value.string ⟨#[]⟩, Value.int IntKind.i64 0, Value.int IntKind.i64 0, Value.int IntKind.i64 0, Value.int IntKind.i64 0, Value.bool false] := by kernel_rfl
@[go_sem] theorem Try.xzk88 : zeroOk [Value.int IntKind.i64 0, Value.string ⟨#[]⟩, Value.int IntKind.i64 0, Value.int IntKind.i64 0, Value.int IntKind.i64 0, Value.int IntKind.i64 0, Value.bool false] = true := by kernel_rfl
@[go_sem] theorem Try.xfl88_0 : Try.prog.fldT 88 0 = some (0, 3) := by kernel_rfl
@[go_sem] theorem Try.xfl88_1 : Try.prog.fldT 88 1 = some (1, 9) := by kernel_rfl
@[go_sem] theorem Try.xfl88_2 : Try.prog.fldT 88 2 = some (2, 52) := by kernel_rfl
@[go_sem] theorem Try.xfl88_3 : Try.prog.fldT 88 3 = some (4, 52) := by kernel_rfl
@[go_sem] theorem Try.xfl88_4 : Try.prog.fldT 88 4 = some (6, 4) := by kernel_rfl
@[go_sem] theorem Try.xsz89 : Try.prog.szT 89 = some 7 := by kernel_rfl
@[go_sem] theorem Try.xag89 : Try.prog.aggT 89 = some true := by kernel_rfl
@[go_sem] theorem Try.xel89 : Try.prog.elemT 89 = none := by kernel_rfl
@[go_sem] theorem Try.xby89 : Try.prog.bytesT 89 = some 64 := by kernel_rfl
@[go_sem] theorem Try.xpl89 : Try.prog.plT 89 = some [(0, 1), (1, 1), (2, 2), (4, 2), (6, 1)] := by kernel_rfl
@[go_sem] theorem Try.xze89 : Try.prog.zeroT 89 = some [Value.int IntKind.i64 0, Value.string ⟨#[]⟩, Value.int IntKind.i64 0, Value.int IntKind.i64 0, Value.int IntKind.i64 0, Value.int IntKind.i64 0, Value.bool false] := by kernel_rfl
@[go_sem] theorem Try.xfl89_0 : Try.prog.fldT 89 0 = some (0, 3) := by kernel_rfl
@[go_sem] theorem Try.xfl89_1 : Try.prog.fldT 89 1 = some (1, 9) := by kernel_rfl
@[go_sem] theorem Try.xfl89_2 : Try.prog.fldT 89 2 = some (2, 52) := by kernel_rfl
@[go_sem] theorem Try.xfl89_3 : Try.prog.fldT 89 3 = some (4, 52) := by kernel_rfl
@[go_sem] theorem Try.xfl89_4 : Try.prog.fldT 89 4 = some (6, 4) := by kernel_rfl
@[go_sem] theorem Try.xsz90 : Try.prog.szT 90 = some 22 := by kernel_rfl
@[go_sem] theorem Try.xag90 : Try.prog.aggT 90 = some true := by kernel_rfl
@[go_sem] theorem Try.xel90 : Try.prog.elemT 90 = none := by kernel_rfl
@[go_sem] theorem Try.xby90 : Try.prog.bytesT 90 = some 216 := by kernel_rfl
@[go_sem] theorem Try.xpl90 : Try.prog.plT 90 = some [(0, 1), (1, 1), (2, 7), (9, 7), (16, 1), (17, 1), (18, 1), (19, 1), (20, 1), (21, 1)] := by kernel_rfl
@[go_sem] theorem Try.xze90 : Try.prog.zeroT 90 = some [Value.int IntKind.i64 0, Value.int IntKind.i64 0, Value.int IntKind.i64 0, Value.string ⟨#[]⟩, Value.int IntKind.i64 0, Value.int IntKind.i64 0, Value.int IntKind.i64 0, Value.int IntKind.i64 0, Value.bool false, Value.int IntKind.i64 0, Value.string ⟨#[]⟩, Value.int IntKind.i64 0, Value.int IntKind.i64 0, Value.int IntKind.i64 0, Value.int IntKind.i64 0, Value.bool false, Value.int IntKind.i64 0, Value.int IntKind.i64 0, Value.int IntKind.i64 0, Value.string ⟨#[]⟩, Value.int IntKind.i64 0, Value.slice none 0 0] := by kernel_rfl
@[go_sem] theorem Try.xzk90 : zeroOk [Value.int IntKind.i64 0, Value.int IntKind.i64 0, Value.int IntKind.i64 0, Value.string ⟨#[]⟩, Value.int IntKind.i64 0, Value.int IntKind.i64 0, Value.int IntKind.i64 0, Value.int IntKind.i64 0, Value.bool false, Value.int IntKind.i64 0, Value.string ⟨#[]⟩, Value.int IntKind.i64 0, Value.int IntKind.i64 0, Value.int IntKind.i64 0, Value.int IntKind.i64 0, Value.bool false, Value.int IntKind.i64 0, Value.int IntKind.i64 0, Value.int IntKind.i64 0, Value.string ⟨#[]⟩, Value.int IntKind.i64 0, Value.slice none 0 0] = true := by kernel_rfl
@[go_sem] theorem Try.xfl90_0 : Try.prog.fldT 90 0 = some (0, 2) := by kernel_rfl
@[go_sem] theorem Try.xfl90_1 : Try.prog.fldT 90 1 = some (1, 3) := by kernel_rfl
@[go_sem] theorem Try.xfl90_2 : Try.prog.fldT 90 2 = some (2, 89) := by kernel_rfl
@[go_sem] theorem Try.xfl90_3 : Try.prog.fldT 90 3 = some (9, 89) := by kernel_rfl
@[go_sem] theorem Try.xfl90_4 : Try.prog.fldT 90 4 = some (16, 2) := by kernel_rfl
@[go_sem] theorem Try.xfl90_5 : Try.prog.fldT 90 5 = some (17, 2) := by kernel_rfl
@[go_sem] theorem Try.xfl90_6 : Try.prog.fldT 90 6 = some (18, 3) := by kernel_rfl
@[go_sem] theorem Try.xfl90_7 : Try.prog.fldT 90 7 = some (19, 9) := by kernel_rfl
@[go_sem] theorem Try.xfl90_8 : Try.prog.fldT 90 8 = some (20, 3) := by kernel_rfl
@[go_sem] theorem Try.xfl90_9 : Try.prog.fldT 90 9 = some (21, 22) := by kernel_rfl
@[go_sem] theorem Try.xsz91 : Try.prog.szT 91 = some 22 := by kernel_rfl
@[go_sem] theorem Try.xag91 : Try.prog.aggT 91 = some true := by kernel_rfl
@[go_sem] theorem Try.xel91 : Try.prog.elemT 91 = none := by kernel_rfl
@[go_sem] theorem Try.xby91 : Try.prog.bytesT 91 = some 216 := by kernel_rfl
@[go_sem] theorem Try.xpl91 : Try.prog.plT 91 = some [(0, 1), (1, 1), (2, 7), (9, 7), (16, 1), (17, 1), (18, 1), (19, 1), (20, 1), (21, 1)] := by kernel_rfl
@[go_sem] theorem Try.xze91 : Try.prog.zeroT 91 = some [Value.int IntKind.i64 0, Value.int IntKind.i64 0, Value.int IntKind.i64 0, Value.string ⟨#[]⟩, Value.int IntKind.i64 0, Value.int IntKind.i64 0, Value.int IntKind.i64 0, Value.int IntKind.i64 0, Value.bool false, Value.int IntKind.i64 0, Value.string ⟨#[]⟩, Value.int IntKind.i64 0, Value.int IntKind.i64 0, Value.int IntKind.i64 0, Value.int IntKind.i64 0, Value.bool false, Value.int IntKind.i64 0, Value.int IntKind.i64 0, Value.int IntKind.i64 0, Value.string ⟨#[]⟩, Value.int IntKind.i64 0, Value.slice none 0 0] := by kernel_rfl
@[go_sem] theorem Try.xfl91_0 : Try.prog.fldT 91 0 = some (0, 2) := by kernel_rfl
@[go_sem] theorem Try.xfl91_1 : Try.prog.fldT 91 1 = some (1, 3) := by kernel_rfl
@[go_sem] theorem Try.xfl91_2 : Try.prog.fldT 91 2 = some (2, 89) := by kernel_rfl
@[go_sem] theorem Try.xfl91_3 : Try.prog.fldT 91 3 = some (9, 89) := by kernel_rfl
@[go_sem] theorem Try.xfl91_4 : Try.prog.fldT 91 4 = some (16, 2) := by kernel_rfl
@[go_sem] theorem Try.xfl91_5 : Try.prog.fldT 91 5 = some (17, 2) := by kernel_rfl
@[go_sem] theorem Try.xfl91_6 : Try.prog.fldT 91 6 = some (18, 3) := by kernel_rfl
@[go_sem] theorem Try.xfl91_7 : Try.prog.fldT 91 7 = some (19, 9) := by kernel_rfl
@[go_sem] theorem Try.xfl91_8 : Try.prog.fldT 91 8 = some (20, 3) := by kernel_rfl
@[go_sem] theorem Try.xfl91_9 : Try.prog.fldT 91 9 = some (21, 22) := by kernel_rfl
@[go_sem] theorem Try.xsz92 : Try.prog.szT 92 = some 1 := by kernel_rfl
@[go_sem] theorem Try.xag92 : Try.prog.aggT 92 = some false := by kernel_rfl
@[go_sem] theorem Try.xel92 : Try.prog.elemT 92 = none := by kernel_rfl
@[go_sem] theorem Try.xby92 : Try.prog.bytesT 92 = some 8 := by kernel_rfl
@[go_sem] theorem Try.xze92 : Try.prog.zeroT 92 = some [Value.nilFunc] := by kernel_rfl
@[go_sem] theorem Try.xsz93 : Try.prog.szT 93 = some 10 := by kernel_rfl
@[go_sem] theorem Try.xag93 : Try.prog.aggT 93 = some true := by kernel_rfl
@[go_sem] theorem Try.xel93 : Try.prog.elemT 93 = none := by kernel_rfl
@[go_sem] theorem Try.xby93 : Try.prog.bytesT 93 = some 88 := by kernel_rfl
@[go_sem] theorem Try.xpl93 : Try.prog.plT 93 = some [(0, 7), (7, 1), (8, 1), (9, 1)] := by kernel_rfl
@[go_sem] theorem Try.xze93 : Try.prog.zeroT 93 = some [Value.int IntKind.i64 0, Value.string ⟨#[]⟩, Value.int IntKind.i64 0, Value.int IntKind.i64 0, Value.int IntKind.i64 0, Value.int IntKind.i64 0, Value.bool false, Value.int IntKind.i64 0, Value.int IntKind.i64 0, Value.int IntKind.i64 0] := by kernel_rfl
@[go_sem] theorem Try.xzk93 : zeroOk [Value.int IntKind.i64 0, Value.string ⟨#[]⟩, Value.int IntKind.i64 0, Value.int IntKind.i64 0, Value.int IntKind.i64 0, Value.int IntKind.i64 0, Value.bool false, Value.int IntKind.i64 0, Value.int IntKind.i64 0, Value.int IntKind.i64 0] = true := by kernel_rfl
@[go_sem] theorem Try.xfl93_0 : Try.prog.fldT 93 0 = some (0, 89) := by kernel_rfl
@[go_sem] theorem Try.xfl93_1 : Try.prog.fldT 93 1 = some (7, 2) := by kernel_rfl
@[go_sem] theorem Try.xfl93_2 : Try.prog.fldT 93 2 = some (8, 2) := by kernel_rfl
@[go_sem] theorem Try.xfl93_3 : Try.prog.fldT 93 3 = some (9, 2) := by kernel_rfl
@[go_sem] theorem Try.xsz94 : Try.prog.szT 94 = some 10 := by kernel_rfl
@[go_sem] theorem Try.xag94 : Try.prog.aggT 94 = some true := by kernel_rfl
@[go_sem] theorem Try.xel94 : Try.prog.elemT 94 = none := by kernel_rfl
@[go_sem] theorem Try.xby94 : Try.prog.bytesT 94 = some 88 := by kernel_rfl
@[go_sem] theorem Try.xpl94 : Try.prog.plT 94 = some [(0, 7), (7, 1), (8, 1), (9, 1)] := by kernel_rfl
@[go_sem] theorem Try.xze94 : Try.prog.zeroT 94 = some [Value.int IntKind.i64 0, Value.string ⟨#[]⟩, Value.int IntKind.i64 0, Value.int IntKind.i64 0, Value.int IntKind.i64 0, Value.int IntKind.i64 0, Value.bool false, Value.int IntKind.i64 0, Value.int IntKind.i64 0, Value.int IntKind.i64 0] := by kernel_rfl
@[go_sem] theorem Try.xfl94_0 : Try.prog.fldT 94 0 = some (0, 89) := by kernel_rfl
@[go_sem] theorem Try.xfl94_1 : Try.prog.fldT 94 1 = some (7, 2) := by kernel_rfl
@[go_sem] theorem Try.xfl94_2 : Try.prog.fldT 94 2 = some (8, 2) := by kernel_rfl
@[go_sem] theorem Try.xfl94_3 : Try.prog.fldT 94 3 = some (9, 2) := by kernel_rfl
@[go_sem] theorem Try.xsz95 : Try.prog.szT 95 = some 20 := by kernel_rfl
@[go_sem] theorem Try.xag95 : Try.prog.aggT 95 = some true := by kernel_rfl
@[go_sem] theorem Try.xel95 : Try.prog.elemT 95 = none := by kernel_rfl
@[go_sem] theorem Try.xby95 : Try.prog.bytesT 95 = some 176 := by kernel_rfl
@[go_sem] theorem Try.xpl95 : Try.prog.plT 95 = some [(0, 10), (10, 10)] := by kernel_rfl
@[go_sem] theorem Try.xze95 : Try.prog.zeroT 95 = some [Value.int IntKind.i64 0, Value.string ⟨#[]⟩, Value.int IntKind.i64 0, Value.int IntKind.i64 0, Value.int IntKind.i64 0, Value.int IntKind.i64 0, Value.bool false, Value.int IntKind.i64 0, Value.int IntKind.i64 0, Value.int IntKind.i64 0, Value.int IntKind.i64 0, Value.string ⟨#[]⟩, Value.int IntKind.i64 0, Value.int IntKind.i64 0, Value.int IntKind.i64 0, Value.int IntKind.i64 0, Value.bool false, Value.int IntKind.i64 0, Value.int IntKind.i64 0, Value.int IntKind.i64 0] := by kernel_rfl
@[go_sem] theorem Try.xzk95 : zeroOk [Value.int IntKind.i64 0, Value.string ⟨#[]⟩, Value.int IntKind.i64 0, Value.int IntKind.i64 0, Value.int IntKind.i64 0, Value.int IntKind.i64 0, Value.bool false, Value.int IntKind.i64 0, Value.int IntKind.i64 0, Value.int IntKind.i64 0, Value.int IntKind.i64 0, Value.string ⟨#[]⟩, Value.int IntKind.i64 0, Value.int IntKind.i64 0, Value.int IntKind.i64 0, Value.int IntKind.i64 0, Value.bool false, Value.int IntKind.i64 0, Value.int IntKind.i64 0, Value.int IntKind.i64 0] = true := by kernel_rfl
@[go_sem] theorem Try.xsz96 : Try.prog.szT 96 = some 1 := by kernel_rfl
@[go_sem] theorem Try.xag96 : Try.prog.aggT 96 = some false := by kernel_rfl
@[go_sem] theorem Try.xel96 : Try.prog.elemT 96 = none := by kernel_rfl
@[go_sem] theorem Try.xby96 : Try.prog.bytesT 96 = some 8 := by kernel_rfl
@[go_sem] theorem Try.xze96 : Try.prog.zeroT 96 = some [Value.nilFunc] := by kernel_rfl
@[go_sem] theorem Try.xsz97 : Try.prog.szT 97 = some 1 := by kernel_rfl
@[go_sem] theorem Try.xag97 : Try.prog.aggT 97 = some false := by kernel_rfl
@[go_sem] theorem Try.xel97 : Try.prog.elemT 97 = none := by kernel_rfl
@[go_sem] theorem Try.xby97 : Try.prog.bytesT 97 = some 8 := by kernel_rfl
@[go_sem] theorem Try.xze97 : Try.prog.zeroT 97 = some [Value.nilFunc] := by kernel_rfl
@[go_sem] theorem Try.xsz98 : Try.prog.szT 98 = some 1 := by kernel_rfl
@[go_sem] theorem Try.xag98 : Try.prog.aggT 98 = some false := by kernel_rfl
@[go_sem] theorem Try.xel98 : Try.prog.elemT 98 = none := by kernel_rfl
@[go_sem] theorem Try.xby98 : Try.prog.bytesT 98 = some 8 := by kernel_rfl
@[go_sem] theorem Try.xze98 : Try.prog.zeroT 98 = some [Value.nilFunc] := by kernel_rfl
@[go_sem] theorem Try.xsz99 : Try.prog.szT 99 = some 1 := by kernel_rfl
@[go_sem] theorem Try.xag99 : Try.prog.aggT 99 = some false := by kernel_rfl
@[go_sem] theorem Try.xel99 : Try.prog.elemT 99 = none := by kernel_rfl
@[go_sem] theorem Try.xby99 : Try.prog.bytesT 99 = some 8 := by kernel_rfl
@[go_sem] theorem Try.xze99 : Try.prog.zeroT 99 = some [Value.nilFunc] := by kernel_rfl
@[go_sem] theorem Try.xsz100 : Try.prog.szT 100 = some 1 := by kernel_rfl
@[go_sem] theorem Try.xag100 : Try.prog.aggT 100 = some false := by kernel_rfl
@[go_sem] theorem Try.xel100 : Try.prog.elemT 100 = none := by kernel_rfl
@[go_sem] theorem Try.xby100 : Try.prog.bytesT 100 = some 8 := by kernel_rfl
@[go_sem] theorem Try.xze100 : Try.prog.zeroT 100 = some [Value.nilFunc] := by kernel_rfl
@[go_sem] theorem Try.xsz101 : Try.prog.szT 101 = some 1 := by kernel_rfl
@[go_sem] theorem Try.xag101 : Try.prog.aggT 101 = some false := by kernel_rfl
@[go_sem] theorem Try.xel101 : Try.prog.elemT 101 = none := by kernel_rfl
@[go_sem] theorem Try.xby101 : Try.prog.bytesT 101 = some 8 := by kernel_rfl
@[go_sem] theorem Try.xze101 : Try.prog.zeroT 101 = some [Value.nilFunc] := by kernel_rfl
@[go_sem] theorem Try.xsz102 : Try.prog.szT 102 = some 1 := by kernel_rfl
@[go_sem] theorem Try.xag102 : Try.prog.aggT 102 = some false := by kernel_rfl
@[go_sem] theorem Try.xel102 : Try.prog.elemT 102 = none := by kernel_rfl
@[go_sem] theorem Try.xby102 : Try.prog.bytesT 102 = some 8 := by kernel_rfl
@[go_sem] theorem Try.xze102 : Try.prog.zeroT 102 = some [Value.nilFunc] := by kernel_rfl
@[go_sem] theorem Try.xsz103 : Try.prog.szT 103 = some 1 := by kernel_rfl
@[go_sem] theorem Try.xag103 : Try.prog.aggT 103 = some false := by kernel_rfl
@[go_sem] theorem Try.xel103 : Try.prog.elemT 103 = none := by kernel_rfl
@[go_sem] theorem Try.xby103 : Try.prog.bytesT 103 = some 8 := by kernel_rfl
@[go_sem] theorem Try.xze103 : Try.prog.zeroT 103 = some [Value.map none] := by kernel_rfl
@[go_sem] theorem Try.xmt103 : Try.prog.mapT 103 = some (9, 78) := by kernel_rfl
@[go_sem] theorem Try.xz178 : Try.prog.zero1 78 = some (Value.agg #[Value.string ⟨#[]⟩, Value.int IntKind.u64 0, Value.int IntKind.i64 0, Value.int IntKind.i64 0, Value.int IntKind.i64 0, Value.int IntKind.i64 0, Value.bool false, Value.int IntKind.i64 0, Value.int IntKind.i64 0, Value.int IntKind.u8 0, Value.int IntKind.u8 0, Value.int IntKind.u8 0, Value.int IntKind.u8 0, Value.int IntKind.u8 0, Value.int IntKind.u8 0, Value.int IntKind.u8 0, Value.int IntKind.u8 0, Value.int IntKind.u8 0, Value.int IntKind.u8 0, Value.int IntKind.u8 0, Value.int IntKind.u8 0, Value.int IntKind.u8 0, Value.int IntKind.u8 0, Value.int IntKind.u8 0, Value.int IntKind.u8 0, Value.int IntKind.u8 0, Value.int IntKind.u8 0, Value.int IntKind.u8 0, Value.int IntKind.u8 0, Value.int IntKind.u8 0, Value.int IntKind.u8 0, Value.int IntKind.u8 0, Value.int IntKind.u8 0, Value.int IntKind.u8 0, Value.int IntKind.u8 0, Value.int IntKind.u8 0, Value.int IntKind.u8 0, Value.int IntKind.u8 0, Value.int IntKind.u8 0, Value.int IntKind.u8 0, Value.int IntKind.u8 0, Value.int IntKind.u8 0, Value.int IntKind.u8 0, Value.int IntKind.u8 0, Value.int IntKind.u8 0, Value.int IntKind.u8 0, Value.int IntKind.u8 0, Value.int IntKind.u8 0, Value.int IntKind.u8 0, Value.int IntKind.u8 0, Value.int IntKind.u8 0, Value.int IntKind.u8 0, Value.int IntKind.u8 0, Value.int IntKind.u8 0, Value.int IntKind.u8 0, Value.int IntKind.u8 0, Value.int IntKind.u8 0, Value.int IntKind.u8 0, Value.int IntKind.u8 0, Value.int IntKind.u8 0, Value.int IntKind.u8 0, Value.int IntKind.u8 0, Value.int IntKind.u8 0, Value.int IntKind.u8 0, Value.int IntKind.u8 0, Value.int IntKind.u8 0, Value.int IntKind.u8 0, Value.int IntKind.u8 0, Value.int IntKind.u8 0, Value.int IntKind.u8 0, Value.int IntKind.u8 0, Value.int IntKind.u8 0, Value.int IntKind.u8 0, Value.int IntKind.u8 0, Value.int IntKind.u8 0, Value.int IntKind.u8 0, Value.int IntKind.u8 0, Value.int IntKind.u8 0, Value.int IntKind.u8 0, Value.int IntKind.u8 0, Value.int IntKind.u8 0, Value.int IntKind.u8 0, Value.int IntKind.u8 0, Value.int IntKind.u8 0, Value.int IntKind.u8 0, Value.int IntKind.u8 0, Value.int IntKind.u8 0, Value.int IntKind.u8 0, Value.int IntKind.u8 0, Value.int IntKind.u8 0, Value.int IntKind.u8 0, Value.int IntKind.u8 0, Value.int IntKind.u8 0, Value.int IntKind.u8 0, Value.int IntKind.u8 0, Value.int IntKind.u8 0, Value.int IntKind.u8 0, Value.int IntKind.u8 0, Value.int IntKind.u8 0, Value.int IntKind.u8 0, Value.int IntKind.u8 0, Value.int IntKind.u8 0, Value.int IntKind.u8 0, Value.int IntKind.u8 0, Value.int IntKind.u8 0, Value.int IntKind.u8 0, Value.int IntKind.u8 0, Value.int IntKind.u8 0, Value.int IntKind.u8 0, Value.int IntKind.u8 0, Value.int IntKind.u8 0, Value.int IntKind.u8 0, Value.int IntKind.u8 0, Value.int IntKind.u8 0, Value.int IntKind.u8 0, Value.int IntKind.u8 0, Value.int IntKind.u8 0, Value.int IntKind.u8 0, Value.int IntKind.u8 0, Value.int IntKind.u8 0, Value.int IntKind.u8 0, Value.int IntKind.u8 0, Value.int IntKind.u8 0, Value.int IntKind.u8 0, Value.int IntKind.u8 0, Value.int IntKind.u8 0, Value.int IntKind.u8 0, Value.int IntKind.u8 0, Value.int IntKind.u8 0, Value.int IntKind.u8 0, Value.int IntKind.u8 0, Value.int IntKind.u8 0, Value.int IntKind.u8 0, Value.int IntKind.u8 0, Value.int IntKind.u8 0, Value.int IntKind.u8 0, Value.int IntKind.u8 0, Value.int IntKind.i64 0, Value.int IntKind.i64 0, Value.int IntKind.i64 0, Value.slice none 0 0]) := by kernel_rfl
@[go_sem] theorem Try.xsz104 : Try.prog.szT 104 = some 1 := by kernel_rfl
@[go_sem] theorem Try.xag104 : Try.prog.aggT 104 = some false := by kernel_rfl
@[go_sem] theorem Try.xel104 : Try.prog.elemT 104 = none := by kernel_rfl
@[go_sem] theorem Try.xby104 : Try.prog.bytesT 104 = some 8 := by kernel_rfl
@[go_sem] theorem Try.xze104 : Try.prog.zeroT 104 = some [Value.map none] := by kernel_rfl
@[go_sem] theorem Try.xmt104 : Try.prog.mapT 104 = some (9, 56) := by kernel_rfl
@[go_sem] theorem Try.xz156 : Try.prog.zero1 56 = some (Value.agg #[Value.string ⟨#[]⟩, Value.int IntKind.i64 0, Value.int IntKind.i64 0, Value.int IntKind.i64 0, Value.int IntKind.i64 0, Value.slice none 0 0, Value.slice none 0 0, Value.slice none 0 0, Value.int IntKind.i64 0]) := by kernel_rfl
@[go_sem] theorem Try.xsz105 : Try.prog.szT 105 = some 2 := by kernel_rfl
@[go_sem] theorem Try.xag105 : Try.prog.aggT 105 = some true := by kernel_rfl
@[go_sem] theorem Try.xel105 : Try.prog.elemT 105 = none := by kernel_rfl
@[go_sem] theorem Try.xby105 : Try.prog.bytesT 105 = some 16 := by kernel_rfl
@[go_sem] theorem Try.xpl105 : Try.prog.plT 105 = some [(0, 1), (1, 1)] := by kernel_rfl
@[go_sem] theorem Try.xze105 : Try.prog.zeroT 105 = some [Value.map none, Value.map none] := by kernel_rfl
@[go_sem] theorem Try.xfl105_0 : Try.prog.fldT 105 0 = some (0, 103) := by kernel_rfl
@[go_sem] theorem Try.xfl105_1 : Try.prog.fldT 105 1 = some (1, 104) := by kernel_rfl
@[go_sem] theorem Try.xsz106 : Try.prog.szT 106 = some 2 := by kernel_rfl
@[go_sem] theorem Try.xag106 : Try.prog.aggT 106 = some true := by kernel_rfl
@[go_sem] theorem Try.xel106 : Try.prog.elemT 106 = none := by kernel_rfl
@[go_sem] theorem Try.xby106 : Try.prog.bytesT 106 = some 16 := by kernel_rfl
@[go_sem] theorem Try.xpl106 : Try.prog.plT 106 = some [(0, 1), (1, 1)] := by kernel_rfl
@[go_sem] theorem Try.xze106 : Try.prog.zeroT 106 = some [Value.map none, Value.map none] := by kernel_rfl
@[go_sem] theorem Try.xfl106_0 : Try.prog.fldT 106 0 = some (0, 103) := by kernel_rfl
@[go_sem] theorem Try.xfl106_1 : Try.prog.fldT 106 1 = some (1, 104) := by kernel_rfl
@[go_sem] theorem Try.xsz107 : Try.prog.szT 107 = some 1 := by kernel_rfl
@[go_sem] theorem Try.xag107 : Try.prog.aggT 107 = some false := by kernel_rfl
@[go_sem] theorem Try.xel107 : Try.prog.elemT 107 = none := by kernel_rfl
@[go_sem] theorem Try.xby107 : Try.prog.bytesT 107 = some 8 := by kernel_rfl
@[go_sem] theorem Try.xze107 : Try.prog.zeroT 107 = some [Value.nilFunc] := by kernel_rfl
@[go_sem] theorem Try.xsz108 : Try.prog.szT 108 = some 1 := by kernel_rfl
@[go_sem] theorem Try.xag108 : Try.prog.aggT 108 = some false := by kernel_rfl
@[go_sem] theorem Try.xel108 : Try.prog.elemT 108 = none := by kernel_rfl
@[go_sem] theorem Try.xby108 : Try.prog.bytesT 108 = some 8 := by kernel_rfl
@[go_sem] theorem Try.xze108 : Try.prog.zeroT 108 = some [Value.map none] := by kernel_rfl
@[go_sem] theorem Try.xmt108 : Try.prog.mapT 108 = some (9, 3) := by kernel_rfl
@[go_sem] theorem Try.xz13 : Try.prog.zero1 3 = some (Value.int IntKind.i64 0) := by kernel_rfl
@[go_sem] theorem Try.xsz109 : Try.prog.szT 109 = some 1 := by kernel_rfl
@[go_sem] theorem Try.xag109 : Try.prog.aggT 109 = some false := by kernel_rfl
@[go_sem] theorem Try.xel109 : Try.prog.elemT 109 = none := by kernel_rfl
@[go_sem] theorem Try.xby109 : Try.prog.bytesT 109 = some 8 := by kernel_rfl
@[go_sem] theorem Try.xze109 : Try.prog.zeroT 109 = some [Value.nilFunc] := by kernel_rfl
@[go_sem] theorem Try.xsz110 : Try.prog.szT 110 = some 1 := by kernel_rfl
@[go_sem] theorem Try.xag110 : Try.prog.aggT 110 = some false := by kernel_rfl
@[go_sem] theorem Try.xel110 : Try.prog.elemT 110 = none := by kernel_rfl
@[go_sem] theorem Try.xby110 : Try.prog.bytesT 110 = some 8 := by kernel_rfl
@[go_sem] theorem Try.xze110 : Try.prog.zeroT 110 = some [Value.nilFunc] := by kernel_rfl
@[go_sem] theorem Try.xsz111 : Try.prog.szT 111 = some 1 := by kernel_rfl
@[go_sem] theorem Try.xag111 : Try.prog.aggT 111 = some false := by kernel_rfl
@[go_sem] theorem Try.xel111 : Try.prog.elemT 111 = none := by kernel_rfl
@[go_sem] theorem Try.xby111 : Try.prog.bytesT 111 = some 8 := by kernel_rfl
@[go_sem] theorem Try.xze111 : Try.prog.zeroT 111 = some [Value.int IntKind.u64 0] := by kernel_rfl
@[go_sem] theorem Try.xsz112 : Try.prog.szT 112 = some 1 := by kernel_rfl
@[go_sem] theorem Try.xag112 : Try.prog.aggT 112 = some false := by kernel_rfl
@[go_sem] theorem Try.xel112 : Try.prog.elemT 112 = none := by kernel_rfl
@[go_sem] theorem Try.xby112 : Try.prog.bytesT 112 = some 8 := by kernel_rfl
@[go_sem] theorem Try.xze112 : Try.prog.zeroT 112 = some [Value.nilFunc] := by kernel_rfl
@[go_sem] theorem Try.xsz113 : Try.prog.szT 113 = some 1 := by kernel_rfl
@[go_sem] theorem Try.xag113 : Try.prog.aggT 113 = some false := by kernel_rfl
@[go_sem] theorem Try.xel113 : Try.prog.elemT 113 = none := by kernel_rfl
@[go_sem] theorem Try.xby113 : Try.prog.bytesT 113 = some 0 := by kernel_rfl
@[go_sem] theorem Try.xsz114 : Try.prog.szT 114 = some 1 := by kernel_rfl
@[go_sem] theorem Try.xag114 : Try.prog.aggT 114 = some false := by kernel_rfl
@[go_sem] theorem Try.xel114 : Try.prog.elemT 114 = none := by kernel_rfl
@[go_sem] theorem Try.xby114 : Try.prog.bytesT 114 = some 8 := by kernel_rfl
@[go_sem] theorem Try.xze114 : Try.prog.zeroT 114 = some [Value.nilFunc] := by kernel_rfl
@[go_sem] theorem Try.xsz115 : Try.prog.szT 115 = some 1 := by kernel_rfl
@[go_sem] theorem Try.xag115 : Try.prog.aggT 115 = some false := by kernel_rfl
@[go_sem] theorem Try.xel115 : Try.prog.elemT 115 = none := by kernel_rfl
@[go_sem] theorem Try.xby115 : Try.prog.bytesT 115 = some 8 := by kernel_rfl
@[go_sem] theorem Try.xze115 : Try.prog.zeroT 115 = some [Value.nilFunc] := by kernel_rfl
@[go_sem] theorem Try.xsz116 : Try.prog.szT 116 = some 1 := by kernel_rfl
@[go_sem] theorem Try.xag116 : Try.prog.aggT 116 = some false := by kernel_rfl
@[go_sem] theorem Try.xel116 : Try.prog.elemT 116 = none := by kernel_rfl
@[go_sem] theorem Try.xby116 : Try.prog.bytesT 116 = some 8 := by kernel_rfl
@[go_sem] theorem Try.xze116 : Try.prog.zeroT 116 = some [Value.nilFunc] := by kernel_rfl
@[go_sem] theorem Try.xsz117 : Try.prog.szT 117 = some 1 := by kernel_rfl
@[go_sem] theorem Try.xag117 : Try.prog.aggT 117 = some false := by kernel_rfl
@[go_sem] theorem Try.xel117 : Try.prog.elemT 117 = none := by kernel_rfl
@[go_sem] theorem Try.xby117 : Try.prog.bytesT 117 = some 8 := by kernel_rfl
@[go_sem] theorem Try.xze117 : Try.prog.zeroT 117 = some [Value.nilFunc] := by kernel_rfl
@[go_sem] theorem Try.xsz118 : Try.prog.szT 118 = some 1 := by kernel_rfl
@[go_sem] theorem Try.xag118 : Try.prog.aggT 118 = some false := by kernel_rfl
@[go_sem] theorem Try.xel118 : Try.prog.elemT 118 = none := by kernel_rfl
@[go_sem] theorem Try.xby118 : Try.prog.bytesT 118 = some 8 := by kernel_rfl
@[go_sem] theorem Try.xze118 : Try.prog.zeroT 118 = some [Value.nilFunc] := by kernel_rfl
@[go_sem] theorem Try.xsz119 : Try.prog.szT 119 = some 1 := by kernel_rfl
@[go_sem] theorem Try.xag119 : Try.prog.aggT 119 = some false := by kernel_rfl
@[go_sem] theorem Try.xel119 : Try.prog.elemT 119 = none := by kernel_rfl
@[go_sem] theorem Try.xby119 : Try.prog.bytesT 119 = some 8 := by kernel_rfl
@[go_sem] theorem Try.xze119 : Try.prog.zeroT 119 = some [Value.nilFunc] := by kernel_rfl
@[go_sem] theorem Try.xsz120 : Try.prog.szT 120 = some 1 := by kernel_rfl
@[go_sem] theorem Try.xag120 : Try.prog.aggT 120 = some false := by kernel_rfl
@[go_sem] theorem Try.xel120 : Try.prog.elemT 120 = none := by kernel_rfl
@[go_sem] theorem Try.xby120 : Try.prog.bytesT 120 = some 8 := by kernel_rfl
@[go_sem] theorem Try.xze120 : Try.prog.zeroT 120 = some [Value.nilFunc] := by kernel_rfl
@[go_sem] theorem Try.xsz121 : Try.prog.szT 121 = some 1 := by kernel_rfl
@[go_sem] theorem Try.xag121 : Try.prog.aggT 121 = some false := by kernel_rfl
@[go_sem] theorem Try.xel121 : Try.prog.elemT 121 = none := by kernel_rfl
@[go_sem] theorem Try.xby121 : Try.prog.bytesT 121 = some 8 := by kernel_rfl
@[go_sem] theorem Try.xze121 : Try.prog.zeroT 121 = some [Value.nilFunc] := by kernel_rfl
@[go_sem] theorem Try.xsz122 : Try.prog.szT 122 = some 1 := by kernel_rfl
@[go_sem] theorem Try.xag122 : Try.prog.aggT 122 = some false := by kernel_rfl
@[go_sem] theorem Try.xel122 : Try.prog.elemT 122 = none := by kernel_rfl
@[go_sem] theorem Try.xby122 : Try.prog.bytesT 122 = some 8 := by kernel_rfl
@[go_sem] theorem Try.xze122 : Try.prog.zeroT 122 = some [Value.nilFunc] := by kernel_rfl
@[go_sem] theorem Try.xsz123 : Try.prog.szT 123 = some 1 := by kernel_rfl
@[go_sem] theorem Try.xag123 : Try.prog.aggT 123 = some false := by kernel_rfl
@[go_sem] theorem Try.xel123 : Try.prog.elemT 123 = none := by kernel_rfl
@[go_sem] theorem Try.xby123 : Try.prog.bytesT 123 = some 8 := by kernel_rfl
@[go_sem] theorem Try.xze123 : Try.prog.zeroT 123 = some [Value.nilFunc] := by kernel_rfl
@[go_sem] theorem Try.xsz124 : Try.prog.szT 124 = some 1 := by kernel_rfl
@[go_sem] theorem Try.xag124 : Try.prog.aggT 124 = some false := by kernel_rfl
@[go_sem] theorem Try.xel124 : Try.prog.elemT 124 = none := by kernel_rfl
@[go_sem] theorem Try.xby124 : Try.prog.bytesT 124 = some 8 := by kernel_rfl
@[go_sem] theorem Try.xze124 : Try.prog.zeroT 124 = some [Value.nilFunc] := by kernel_rfl
@[go_sem] theorem Try.xsz125 : Try.prog.szT 125 = some 1 := by kernel_rfl
@[go_sem] theorem Try.xag125 : Try.prog.aggT 125 = some false := by kernel_rfl
@[go_sem] theorem Try.xel125 : Try.prog.elemT 125 = none := by kernel_rfl
@[go_sem] theorem Try.xby125 : Try.prog.bytesT 125 = some 8 := by kernel_rfl
@[go_sem] theorem Try.xze125 : Try.prog.zeroT 125 = some [Value.nilFunc] := by kernel_rfl
@[go_sem] theorem Try.xsz126 : Try.prog.szT 126 = some 1 := by kernel_rfl
@[go_sem] theorem Try.xag126 : Try.prog.aggT 126 = some false := by kernel_rfl
@[go_sem] theorem Try.xel126 : Try.prog.elemT 126 = none := by kernel_rfl
@[go_sem] theorem Try.xby126 : Try.prog.bytesT 126 = some 8 := by kernel_rfl
@[go_sem] theorem Try.xze126 : Try.prog.zeroT 126 = some [Value.nilFunc] := by kernel_rfl
@[go_sem] theorem Try.xsz127 : Try.prog.szT 127 = some 14 := by kernel_rfl
@[go_sem] theorem Try.xag127 : Try.prog.aggT 127 = some true := by kernel_rfl
@[go_sem] theorem Try.xel127 : Try.prog.elemT 127 = none := by kernel_rfl
@[go_sem] theorem Try.xby127 : Try.prog.bytesT 127 = some 128 := by kernel_rfl
@[go_sem] theorem Try.xpl127 : Try.prog.plT 127 = some [(0, 7), (7, 7)] := by kernel_rfl
@[go_sem] theorem Try.xze127 : Try.prog.zeroT 127 = some [Value.int IntKind.i64 0, Value.string ⟨#[]⟩, Value.int IntKind.i64 0, Value.int IntKind.i64 0, Value.int IntKind.i64 0, Value.int IntKind.i64 0, Value.bool false, Value.int IntKind.i64 0, Value.string ⟨#[]⟩, Value.int IntKind.i64 0, Value.int IntKind.i64 0, Value.int IntKind.i64 0, Value.int IntKind.i64 0, Value.bool false] := by kernel_rfl
@[go_sem] theorem Try.xzk127 : zeroOk [Value.int IntKind.i64 0, Value.string ⟨#[]⟩, Value.int IntKind.i64 0, Value.int IntKind.i64 0, Value.int IntKind.i64 0, Value.int IntKind.i64 0, Value.bool false, Value.int IntKind.i64 0, Value.string ⟨#[]⟩, Value.int IntKind.i64 0, Value.int IntKind.i64 0, Value.int IntKind.i64 0, Value.int IntKind.i64 0, Value.bool false] = true := by kernel_rfl
@[go_sem] theorem Try.xsz128 : Try.prog.szT 128 = some 1 := by kernel_rfl
@[go_sem] theorem Try.xag128 : Try.prog.aggT 128 = some false := by kernel_rfl
@[go_sem] theorem Try.xel128 : Try.prog.elemT 128 = none := by kernel_rfl
@[go_sem] theorem Try.xby128 : Try.prog.bytesT 128 = some 0 := by kernel_rfl
@[go_sem] theorem Try.xsz129 : Try.prog.szT 129 = some 1 := by kernel_rfl
@[go_sem] theorem Try.xag129 : Try.prog.aggT 129 = some false := by kernel_rfl
@[go_sem] theorem Try.xel129 : Try.prog.elemT 129 = none := by kernel_rfl
@[go_sem] theorem Try.xby129 : Try.prog.bytesT 129 = some 0 := by kernel_rfl
@[go_sem] theorem Try.xsz130 : Try.prog.szT 130 = some 1 := by kernel_rfl
@[go_sem] theorem Try.xag130 : Try.prog.aggT 130 = some false := by kernel_rfl
@[go_sem] theorem Try.xel130 : Try.prog.elemT 130 = none := by kernel_rfl
@[go_sem] theorem Try.xby130 : Try.prog.bytesT 130 = some 8 := by kernel_rfl
@[go_sem] theorem Try.xze130 : Try.prog.zeroT 130 = some [Value.nilFunc] := by kernel_rfl
@[go_sem] theorem Try.xsz131 : Try.prog.szT 131 = some 1 := by kernel_rfl
@[go_sem] theorem Try.xag131 : Try.prog.aggT 131 = some false := by kernel_rfl
@[go_sem] theorem Try.xel131 : Try.prog.elemT 131 = none := by kernel_rfl
@[go_sem] theorem Try.xby131 : Try.prog.bytesT 131 = some 8 := by kernel_rfl
@[go_sem] theorem Try.xze131 : Try.prog.zeroT 131 = some [Value.nilFunc] := by kernel_rfl
@[go_sem] theorem Try.xsz132 : Try.prog.szT 132 = some 3 := by kernel_rfl
@[go_sem] theorem Try.xag132 : Try.prog.aggT 132 = some true := by kernel_rfl
@[go_sem] theorem Try.xel132 : Try.prog.elemT 132 = none := by kernel_rfl
@[go_sem] theorem Try.xby132 : Try.prog.bytesT 132 = some 40 := by kernel_rfl
@[go_sem] theorem Try.xpl132 : Try.prog.plT 132 = some [(0, 1), (1, 1), (2, 1)] := by kernel_rfl
@[go_sem] theorem Try.xze132 : Try.prog.zeroT 132 = some [Value.int IntKind.i64 0, Value.int IntKind.i64 0, Value.slice none 0 0] := by kernel_rfl
@[go_sem] theorem Try.xzk132 : zeroOk [Value.int IntKind.i64 0, Value.int IntKind.i64 0, Value.slice none 0 0] = true := by kernel_rfl
@[go_sem] theorem Try.xfl132_0 : Try.prog.fldT 132 0 = some (0, 2) := by kernel_rfl
@[go_sem] theorem Try.xfl132_1 : Try.prog.fldT 132 1 = some (1, 2) := by kernel_rfl
@[go_sem] theorem Try.xfl132_2 : Try.prog.fldT 132 2 = some (2, 44) := by kernel_rfl
@[go_sem] theorem Try.xsz133 : Try.prog.szT 133 = some 3 := by kernel_rfl
@[go_sem] theorem Try.xag133 : Try.prog.aggT 133 = some true := by kernel_rfl
@[go_sem] theorem Try.xel133 : Try.prog.elemT 133 = none := by kernel_rfl
@[go_sem] theorem Try.xby133 : Try.prog.bytesT 133 = some 40 := by kernel_rfl
@[go_sem] theorem Try.xpl133 : Try.prog.plT 133 = some [(0, 1), (1, 1), (2, 1)] := by kernel_rfl
@[go_sem] theorem Try.xze133 : Try.prog.zeroT 133 = some [Value.int IntKind.i64 0, Value.int IntKind.i64 0, Value.slice none 0 0] := by kernel_rfl
@[go_sem] theorem Try.xfl133_0 : Try.prog.fldT 133 0 = some (0, 2) := by kernel_rfl
@[go_sem] theorem Try.xfl133_1 : Try.prog.fldT 133 1 = some (1, 2) := by kernel_rfl
@[go_sem] theorem Try.xfl133_2 : Try.prog.fldT 133 2 = some (2, 44) := by kernel_rfl
@[go_sem] theorem Try.xsz134 : Try.prog.szT 134 = some 1 := by kernel_rfl
@[go_sem] theorem Try.xag134 : Try.prog.aggT 134 = some false := by kernel_rfl
@[go_sem] theorem Try.xel134 : Try.prog.elemT 134 = none := by kernel_rfl
@[go_sem] theorem Try.xby134 : Try.prog.bytesT 134 = some 8 := by kernel_rfl
@[go_sem] theorem Try.xze134 : Try.prog.zeroT 134 = some [Value.nilFunc] := by kernel_rfl
@[go_sem] theorem Try.xsz135 : Try.prog.szT 135 = some 1 := by kernel_rfl
@[go_sem] theorem Try.xag135 : Try.prog.aggT 135 = some false := by kernel_rfl
@[go_sem] theorem Try.xel135 : Try.prog.elemT 135 = none := by kernel_rfl
@[go_sem] theorem Try.xby135 : Try.prog.bytesT 135 = some 8 := by kernel_rfl
@[go_sem] theorem Try.xze135 : Try.prog.zeroT 135 = some [Value.nilFunc] := by kernel_rfl
@[go_sem] theorem Try.xsz136 : Try.prog.szT 136 = some 1 := by kernel_rfl
@[go_sem] theorem Try.xag136 : Try.prog.aggT 136 = some false := by kernel_rfl
@[go_sem] theorem Try.xel136 : Try.prog.elemT 136 = none := by kernel_rfl
@[go_sem] theorem Try.xby136 : Try.prog.bytesT 136 = some 8 := by kernel_rfl
@[go_sem] theorem Try.xze136 : Try.prog.zeroT 136 = some [Value.map none] := by kernel_rfl
@[go_sem] theorem Try.xmt136 : Try.prog.mapT 136 = some (9, 4) := by kernel_rfl
@[go_sem] theorem Try.xz14 : Try.prog.zero1 4 = some (Value.bool false) := by kernel_rfl
@[go_sem] theorem Try.xsz137 : Try.prog.szT 137 = some 1 := by kernel_rfl
@[go_sem] theorem Try.xag137 : Try.prog.aggT 137 = some false := by kernel_rfl
@[go_sem] theorem Try.xel137 : Try.prog.elemT 137 = none := by kernel_rfl
@[go_sem] theorem Try.xby137 : Try.prog.bytesT 137 = some 8 := by kernel_rfl
@[go_sem] theorem Try.xze137 : Try.prog.zeroT 137 = some [Value.nilFunc] := by kernel_rfl
@[go_sem] theorem Try.xsz138 : Try.prog.szT 138 = some 1 := by kernel_rfl
@[go_sem] theorem Try.xag138 : Try.prog.aggT 138 = some false := by kernel_rfl
@[go_sem] theorem Try.xel138 : Try.prog.elemT 138 = none := by kernel_rfl
@[go_sem] theorem Try.xby138 : Try.prog.bytesT 138 = some 8 := by kernel_rfl
@[go_sem] theorem Try.xze138 : Try.prog.zeroT 138 = some [Value.nilFunc] := by kernel_rfl
@[go_sem] theorem Try.xsz139 : Try.prog.szT 139 = some 1 := by kernel_rfl
@[go_sem] theorem Try.xag139 : Try.prog.aggT 139 = some false := by kernel_rfl
@[go_sem] theorem Try.xel139 : Try.prog.elemT 139 = none := by kernel_rfl
@[go_sem] theorem Try.xby139 : Try.prog.bytesT 139 = some 8 := by kernel_rfl
@[go_sem] theorem Try.xze139 : Try.prog.zeroT 139 = some [Value.nilFunc] := by kernel_rfl
@[go_sem] theorem Try.xsz140 : Try.prog.szT 140 = some 1 := by kernel_rfl
@[go_sem] theorem Try.xag140 : Try.prog.aggT 140 = some false := by kernel_rfl
@[go_sem] theorem Try.xel140 : Try.prog.elemT 140 = none := by kernel_rfl
@[go_sem] theorem Try.xby140 : Try.prog.bytesT 140 = some 8 := by kernel_rfl
@[go_sem] theorem Try.xze140 : Try.prog.zeroT 140 = some [Value.nilFunc] := by kernel_rfl
@[go_sem] theorem Try.xsz141 : Try.prog.szT 141 = some 1 := by kernel_rfl
@[go_sem] theorem Try.xag141 : Try.prog.aggT 141 = some false := by kernel_rfl
@[go_sem] theorem Try.xel141 : Try.prog.elemT 141 = none := by kernel_rfl
@[go_sem] theorem Try.xby141 : Try.prog.bytesT 141 = some 8 := by kernel_rfl
@[go_sem] theorem Try.xze141 : Try.prog.zeroT 141 = some [Value.nilFunc] := by kernel_rfl
@[go_sem] theorem Try.xsz142 : Try.prog.szT 142 = some 1 := by kernel_rfl
@[go_sem] theorem Try.xag142 : Try.prog.aggT 142 = some false := by kernel_rfl
@[go_sem] theorem Try.xel142 : Try.prog.elemT 142 = some 53 := by kernel_rfl
@[go_sem] theorem Try.xby142 : Try.prog.bytesT 142 = some 24 := by kernel_rfl
@[go_sem] theorem Try.xze142 : Try.prog.zeroT 142 = some [Value.slice none 0 0] := by kernel_rfl
@[go_sem] theorem Try.xsz143 : Try.prog.szT 143 = some 1 := by kernel_rfl
@[go_sem] theorem Try.xag143 : Try.prog.aggT 143 = some false := by kernel_rfl
@[go_sem] theorem Try.xel143 : Try.prog.elemT 143 = none := by kernel_rfl
@[go_sem] theorem Try.xby143 : Try.prog.bytesT 143 = some 8 := by kernel_rfl
@[go_sem] theorem Try.xze143 : Try.prog.zeroT 143 = some [Value.nilFunc] := by kernel_rfl
@[go_sem] theorem Try.xsz144 : Try.prog.szT 144 = some 1 := by kernel_rfl
@[go_sem] theorem Try.xag144 : Try.prog.aggT 144 = some false := by kernel_rfl
@[go_sem] theorem Try.xel144 : Try.prog.elemT 144 = none := by kernel_rfl
@[go_sem] theorem Try.xby144 : Try.prog.bytesT 144 = some 8 := by kernel_rfl
@[go_sem] theorem Try.xze144 : Try.prog.zeroT 144 = some [Value.nilFunc] := by kernel_rfl
@[go_sem] theorem Try.xsz145 : Try.prog.szT 145 = some 1 := by kernel_rfl
@[go_sem] theorem Try.xag145 : Try.prog.aggT 145 = some false := by kernel_rfl
@[go_sem] theorem Try.xel145 : Try.prog.elemT 145 = none := by kernel_rfl
@[go_sem] theorem Try.xby145 : Try.prog.bytesT 145 = some 8 := by kernel_rfl
@[go_sem] theorem Try.xze145 : Try.prog.zeroT 145 = some [Value.nilFunc] := by kernel_rfl
@[go_sem] theorem Try.xsz146 : Try.prog.szT 146 = some 1 := by kernel_rfl
@[go_sem] theorem Try.xag146 : Try.prog.aggT 146 = some false := by kernel_rfl
@[go_sem] theorem Try.xel146 : Try.prog.elemT 146 = none := by kernel_rfl
@[go_sem] theorem Try.xby146 : Try.prog.bytesT 146 = some 8 := by kernel_rfl
@[go_sem] theorem Try.xze146 : Try.prog.zeroT 146 = some [Value.nilFunc] := by kernel_rfl
@[go_sem] theorem Try.xsz147 : Try.prog.szT 147 = some 1 := by kernel_rfl
@[go_sem] theorem Try.xag147 : Try.prog.aggT 147 = some false := by kernel_rfl
@[go_sem] theorem Try.xel147 : Try.prog.elemT 147 = none := by kernel_rfl
@[go_sem] theorem Try.xby147 : Try.prog.bytesT 147 = some 8 := by kernel_rfl
@[go_sem] theorem Try.xze147 : Try.prog.zeroT 147 = some [Value.nilFunc] := by kernel_rfl
@[go_sem] theorem Try.xsz148 : Try.prog.szT 148 = some 1 := by kernel_rfl
@[go_sem] theorem Try.xag148 : Try.prog.aggT 148 = some false := by kernel_rfl
@[go_sem] theorem Try.xel148 : Try.prog.elemT 148 = none := by kernel_rfl
@[go_sem] theorem Try.xby148 : Try.prog.bytesT 148 = some 8 := by kernel_rfl
@[go_sem] theorem Try.xze148 : Try.prog.zeroT 148 = some [Value.nilFunc] := by kernel_rfl
@[go_sem] theorem Try.xsz149 : Try.prog.szT 149 = some 1 := by kernel_rfl
@[go_sem] theorem Try.xag149 : Try.prog.aggT 149 = some false := by kernel_rfl
@[go_sem] theorem Try.xel149 : Try.prog.elemT 149 = none := by kernel_rfl
@[go_sem] theorem Try.xby149 : Try.prog.bytesT 149 = some 8 := by kernel_rfl
@[go_sem] theorem Try.xze149 : Try.prog.zeroT 149 = some [Value.nilFunc] := by kernel_rfl
@[go_sem] theorem Try.xsz150 : Try.prog.szT 150 = some 1 := by kernel_rfl
@[go_sem] theorem Try.xag150 : Try.prog.aggT 150 = some false := by kernel_rfl
@[go_sem] theorem Try.xel150 : Try.prog.elemT 150 = none := by kernel_rfl
@[go_sem] theorem Try.xby150 : Try.prog.bytesT 150 = some 8 := by kernel_rfl
@[go_sem] theorem Try.xze150 : Try.prog.zeroT 150 = some [Value.nilFunc] := by kernel_rfl
@[go_sem] theorem Try.xsz151 : Try.prog.szT 151 = some 1 := by kernel_rfl
@[go_sem] theorem Try.xag151 : Try.prog.aggT 151 = some false := by kernel_rfl
@[go_sem] theorem Try.xel151 : Try.prog.elemT 151 = none := by kernel_rfl
@[go_sem] theorem Try.xby151 : Try.prog.bytesT 151 = some 8 := by kernel_rfl
@[go_sem] theorem Try.xze151 : Try.prog.zeroT 151 = some [Value.int IntKind.i64 0] := by kernel_rfl
@[go_sem] theorem Try.xsz152 : Try.prog.szT 152 = some 1 := by kernel_rfl
@[go_sem] theorem Try.xag152 : Try.prog.aggT 152 = some false := by kernel_rfl
@[go_sem] theorem Try.xel152 : Try.prog.elemT 152 = none := by kernel_rfl
@[go_sem] theorem Try.xby152 : Try.prog.bytesT 152 = some 0 := by kernel_rfl
@[go_sem] theorem Try.xsz153 : Try.prog.szT 153 = some 1 := by kernel_rfl
@[go_sem] theorem Try.xag153 : Try.prog.aggT 153 = some false := by kernel_rfl
@[go_sem] theorem Try.xel153 : Try.prog.elemT 153 = none := by kernel_rfl
@[go_sem] theorem Try.xby153 : Try.prog.bytesT 153 = some 8 := by kernel_rfl
@[go_sem] theorem Try.xze153 : Try.prog.zeroT 153 = some [Value.nilFunc] := by kernel_rfl
@[go_sem] theorem Try.xsz154 : Try.prog.szT 154 = some 1 := by kernel_rfl
@[go_sem] theorem Try.xag154 : Try.prog.aggT 154 = some false := by kernel_rfl
@[go_sem] theorem Try.xel154 : Try.prog.elemT 154 = none := by kernel_rfl
@[go_sem] theorem Try.xby154 : Try.prog.bytesT 154 = some 8 := by kernel_rfl
@[go_sem] theorem Try.xze154 : Try.prog.zeroT 154 = some [Value.nilFunc] := by kernel_rfl
@[go_sem] theorem Try.xsz155 : Try.prog.szT 155 = some 1 := by kernel_rfl
@[go_sem] theorem Try.xag155 : Try.prog.aggT 155 = some false := by kernel_rfl
@[go_sem] theorem Try.xel155 : Try.prog.elemT 155 = none := by kernel_rfl
@[go_sem] theorem Try.xby155 : Try.prog.bytesT 155 = some 8 := by kernel_rfl
@[go_sem] theorem Try.xze155 : Try.prog.zeroT 155 = some [Value.nilFunc] := by kernel_rfl
@[go_sem] theorem Try.xsz156 : Try.prog.szT 156 = some 1 := by kernel_rfl
@[go_sem] theorem Try.xag156 : Try.prog.aggT 156 = some false := by kernel_rfl
@[go_sem] theorem Try.xel156 : Try.prog.elemT 156 = none := by kernel_rfl
@[go_sem] theorem Try.xby156 : Try.prog.bytesT 156 = some 8 := by kernel_rfl
@[go_sem] theorem Try.xze156 : Try.prog.zeroT 156 = some [Value.nilFunc] := by kernel_rfl
@[go_sem] theorem Try.xsz157 : Try.prog.szT 157 = some 1 := by kernel_rfl
@[go_sem] theorem Try.xag157 : Try.prog.aggT 157 = some false := by kernel_rfl
@[go_sem] theorem Try.xel157 : Try.prog.elemT 157 = none := by kernel_rfl
@[go_sem] theorem Try.xby157 : Try.prog.bytesT 157 = some 0 := by kernel_rfl
@[go_sem] theorem Try.xsz158 : Try.prog.szT 158 = some 1 := by kernel_rfl
@[go_sem] theorem Try.xag158 : Try.prog.aggT 158 = some false := by kernel_rfl
@[go_sem] theorem Try.xel158 : Try.prog.elemT 158 = none := by kernel_rfl
@[go_sem] theorem Try.xby158 : Try.prog.bytesT 158 = some 8 := by kernel_rfl
@[go_sem] theorem Try.xze158 : Try.prog.zeroT 158 = some [Value.nilFunc] := by kernel_rfl
@[go_sem] theorem Try.xsz159 : Try.prog.szT 159 = some 1 := by kernel_rfl
@[go_sem] theorem Try.xag159 : Try.prog.aggT 159 = some false := by kernel_rfl
@[go_sem] theorem Try.xel159 : Try.prog.elemT 159 = none := by kernel_rfl
@[go_sem] theorem Try.xby159 : Try.prog.bytesT 159 = some 8 := by kernel_rfl
@[go_sem] theorem Try.xze159 : Try.prog.zeroT 159 = some [Value.nilFunc] := by kernel_rfl
@[go_sem] theorem Try.xsz160 : Try.prog.szT 160 = some 1 := by kernel_rfl
@[go_sem] theorem Try.xag160 : Try.prog.aggT 160 = some false := by kernel_rfl
@[go_sem] theorem Try.xel160 : Try.prog.elemT 160 = none := by kernel_rfl
@[go_sem] theorem Try.xby160 : Try.prog.bytesT 160 = some 4 := by kernel_rfl
@[go_sem] theorem Try.xze160 : Try.prog.zeroT 160 = some [Value.int IntKind.u32 0] := by kernel_rfl
@[go_sem] theorem Try.xzk160 : zeroOk [Value.int IntKind.u32 0] = true := by kernel_rfl
@[go_sem] theorem Try.xsz161 : Try.prog.szT 161 = some 1 := by kernel_rfl
@[go_sem] theorem Try.xag161 : Try.prog.aggT 161 = some false := by kernel_rfl
@[go_sem] theorem Try.xel161 : Try.prog.elemT 161 = none := by kernel_rfl
@[go_sem] theorem Try.xby161 : Try.prog.bytesT 161 = some 8 := by kernel_rfl
@[go_sem] theorem Try.xze161 : Try.prog.zeroT 161 = some [Value.nilFunc] := by kernel_rfl
@[go_sem] theorem Try.xsz162 : Try.prog.szT 162 = some 1 := by kernel_rfl
@[go_sem] theorem Try.xag162 : Try.prog.aggT 162 = some false := by kernel_rfl
@[go_sem] theorem Try.xel162 : Try.prog.elemT 162 = none := by kernel_rfl
@[go_sem] theorem Try.xby162 : Try.prog.bytesT 162 = some 8 := by kernel_rfl
@[go_sem] theorem Try.xze162 : Try.prog.zeroT 162 = some [Value.int IntKind.u64 0] := by kernel_rfl
@[go_sem] theorem Try.xsz163 : Try.prog.szT 163 = some 1 := by kernel_rfl
@[go_sem] theorem Try.xag163 : Try.prog.aggT 163 = some false := by kernel_rfl
@[go_sem] theorem Try.xel163 : Try.prog.elemT 163 = none := by kernel_rfl
@[go_sem] theorem Try.xby163 : Try.prog.bytesT 163 = some 8 := by kernel_rfl
@[go_sem] theorem Try.xze163 : Try.prog.zeroT 163 = some [Value.nilFunc] := by kernel_rfl
@[go_sem] theorem Try.xsz164 : Try.prog.szT 164 = some 1 := by kernel_rfl
@[go_sem] theorem Try.xag164 : Try.prog.aggT 164 = some false := by kernel_rfl
@[go_sem] theorem Try.xel164 : Try.prog.elemT 164 = none := by kernel_rfl
@[go_sem] theorem Try.xby164 : Try.prog.bytesT 164 = some 8 := by kernel_rfl
@[go_sem] theorem Try.xze164 : Try.prog.zeroT 164 = some [Value.nilFunc] := by kernel_rfl
@[go_sem] theorem Try.xsz165 : Try.prog.szT 165 = some 1 := by kernel_rfl
@[go_sem] theorem Try.xag165 : Try.prog.aggT 165 = some false := by kernel_rfl
@[go_sem] theorem Try.xel165 : Try.prog.elemT 165 = none := by kernel_rfl
@[go_sem] theorem Try.xby165 : Try.prog.bytesT 165 = some 8 := by kernel_rfl
@[go_sem] theorem Try.xze165 : Try.prog.zeroT 165 = some [Value.nilFunc] := by kernel_rfl
@[go_sem] theorem Try.xsz166 : Try.prog.szT 166 = some 1 := by kernel_rfl
@[go_sem] theorem Try.xag166 : Try.prog.aggT 166 = some false := by kernel_rfl
@[go_sem] theorem Try.xel166 : Try.prog.elemT 166 = none := by kernel_rfl
@[go_sem] theorem Try.xby166 : Try.prog.bytesT 166 = some 8 := by kernel_rfl
@[go_sem] theorem Try.xze166 : Try.prog.zeroT 166 = some [Value.pointer none] := by kernel_rfl
@[go_sem] theorem Try.xsz167 : Try.prog.szT 167 = some 1 := by kernel_rfl
@[go_sem] theorem Try.xag167 : Try.prog.aggT 167 = some false := by kernel_rfl
@[go_sem] theorem Try.xel167 : Try.prog.elemT 167 = none := by kernel_rfl
@[go_sem] theorem Try.xby167 : Try.prog.bytesT 167 = some 8 := by kernel_rfl
@[go_sem] theorem Try.xze167 : Try.prog.zeroT 167 = some [Value.nilFunc] := by kernel_rfl
@[go_sem] theorem Try.xsz168 : Try.prog.szT 168 = some 1 := by kernel_rfl
@[go_sem] theorem Try.xag168 : Try.prog.aggT 168 = some false := by kernel_rfl
@[go_sem] theorem Try.xel168 : Try.prog.elemT 168 = none := by kernel_rfl
@[go_sem] theorem Try.xby168 : Try.prog.bytesT 168 = some 8 := by kernel_rfl
@[go_sem] theorem Try.xze168 : Try.prog.zeroT 168 = some [Value.pointer none] := by kernel_rfl
@[go_sem] theorem Try.xsz169 : Try.prog.szT 169 = some 1 := by kernel_rfl
@[go_sem] theorem Try.xag169 : Try.prog.aggT 169 = some false := by kernel_rfl
@[go_sem] theorem Try.xel169 : Try.prog.elemT 169 = none := by kernel_rfl
@[go_sem] theorem Try.xby169 : Try.prog.bytesT 169 = some 0 := by kernel_rfl
@[go_sem] theorem Try.xsz170 : Try.prog.szT 170 = some 1 := by kernel_rfl
@[go_sem] theorem Try.xag170 : Try.prog.aggT 170 = some false := by kernel_rfl
@[go_sem] theorem Try.xel170 : Try.prog.elemT 170 = none := by kernel_rfl
@[go_sem] theorem Try.xby170 : Try.prog.bytesT 170 = some 8 := by kernel_rfl
@[go_sem] theorem Try.xze170 : Try.prog.zeroT 170 = some [Value.nilFunc] := by kernel_rfl
@[go_sem] theorem Try.xsz171 : Try.prog.szT 171 = some 1 := by kernel_rfl
@[go_sem] theorem Try.xag171 : Try.prog.aggT 171 = some false := by kernel_rfl
@[go_sem] theorem Try.xel171 : Try.prog.elemT 171 = none := by kernel_rfl
@[go_sem] theorem Try.xby171 : Try.prog.bytesT 171 = some 8 := by kernel_rfl
@[go_sem] theorem Try.xze171 : Try.prog.zeroT 171 = some [Value.nilFunc] := by kernel_rfl
@[go_sem] theorem Try.xsz172 : Try.prog.szT 172 = some 4 := by kernel_rfl
@[go_sem] theorem Try.xag172 : Try.prog.aggT 172 = some true := by kernel_rfl
@[go_sem] theorem Try.xel172 : Try.prog.elemT 172 = none := by kernel_rfl
@[go_sem] theorem Try.xby172 : Try.prog.bytesT 172 = some 40 := by kernel_rfl
@[go_sem] theorem Try.xpl172 : Try.prog.plT 172 = some [(0, 1), (1, 1), (2, 1), (3, 1)] := by kernel_rfl
@[go_sem] theorem Try.xze172 : Try.prog.zeroT 172 = some [Value.pointer none, Value.pointer none, Value.pointer none, Value.string ⟨#[]⟩] := by kernel_rfl
@[go_sem] theorem Try.xzk172 : zeroOk [Value.pointer none, Value.pointer none, Value.pointer none, Value.string ⟨#[]⟩] = true := by kernel_rfl
@[go_sem] theorem Try.xfl172_0 : Try.prog.fldT 172 0 = some (0, 17) := by kernel_rfl
@[go_sem] theorem Try.xfl172_1 : Try.prog.fldT 172 1 = some (1, 17) := by kernel_rfl
@[go_sem] theorem Try.xfl172_2 : Try.prog.fldT 172 2 = some (2, 17) := by kernel_rfl
@[go_sem] theorem Try.xfl172_3 : Try.prog.fldT 172 3 = some (3, 9) := by kernel_rfl
@[go_sem] theorem Try.xsz173 : Try.prog.szT 173 = some 4 := by kernel_rfl
@[go_sem] theorem Try.xag173 : Try.prog.aggT 173 = some true := by kernel_rfl
@[go_sem] theorem Try.xel173 : Try.prog.elemT 173 = none := by kernel_rfl
@[go_sem] theorem Try.xby173 : Try.prog.bytesT 173 = some 40 := by kernel_rfl
@[go_sem] theorem Try.xpl173 : Try.prog.plT 173 = some [(0, 1), (1, 1), (2, 1), (3, 1)] := by kernel_rfl
@[go_sem] theorem Try.xze173 : Try.prog.zeroT 173 = some [Value.pointer none, Value.pointer none, Value.pointer none, Value.string ⟨#[]⟩] := by kernel_rfl
@[go_sem] theorem Try.xfl173_0 : Try.prog.fldT 173 0 = some (0, 17) := by kernel_rfl
@[go_sem] theorem Try.xfl173_1 : Try.prog.fldT 173 1 = some (1, 17) := by kernel_rfl
@[go_sem] theorem Try.xfl173_2 : Try.prog.fldT 173 2 = some (2, 17) := by kernel_rfl
@[go_sem] theorem Try.xfl173_3 : Try.prog.fldT 173 3 = some (3, 9) := by kernel_rfl
@[go_sem] theorem Try.xsz174 : Try.prog.szT 174 = some 0 := by kernel_rfl
@[go_sem] theorem Try.xag174 : Try.prog.aggT 174 = some true := by kernel_rfl
@[go_sem] theorem Try.xel174 : Try.prog.elemT 174 = none := by kernel_rfl
@[go_sem] theorem Try.xby174 : Try.prog.bytesT 174 = some 0 := by kernel_rfl
@[go_sem] theorem Try.xpl174 : Try.prog.plT 174 = some [] := by kernel_rfl
@[go_sem] theorem Try.xze174 : Try.prog.zeroT 174 = some [] := by kernel_rfl
@[go_sem] theorem Try.xzk174 : zeroOk [] = true := by kernel_rfl
@[go_sem] theorem Try.xsz175 : Try.prog.szT 175 = some 0 := by kernel_rfl
@[go_sem] theorem Try.xag175 : Try.prog.aggT 175 = some true := by kernel_rfl
@[go_sem] theorem Try.xel175 : Try.prog.elemT 175 = none := by kernel_rfl
@[go_sem] theorem Try.xby175 : Try.prog.bytesT 175 = some 0 := by kernel_rfl
@[go_sem] theorem Try.xpl175 : Try.prog.plT 175 = some [(0, 0)] := by kernel_rfl
@[go_sem] theorem Try.xze175 : Try.prog.zeroT 175 = some [] := by kernel_rfl
@[go_sem] theorem Try.xfl175_0 : Try.prog.fldT 175 0 = some (0, 174) := by kernel_rfl
@[go_sem] theorem Try.xsz176 : Try.prog.szT 176 = some 0 := by kernel_rfl
@[go_sem] theorem Try.xag176 : Try.prog.aggT 176 = some true := by kernel_rfl
@[go_sem] theorem Try.xel176 : Try.prog.elemT 176 = none := by kernel_rfl
@[go_sem] theorem Try.xby176 : Try.prog.bytesT 176 = some 0 := by kernel_rfl
@[go_sem] theorem Try.xpl176 : Try.prog.plT 176 = some [(0, 0)] := by kernel_rfl
@[go_sem] theorem Try.xze176 : Try.prog.zeroT 176 = some [] := by kernel_rfl
@[go_sem] theorem Try.xfl176_0 : Try.prog.fldT 176 0 = some (0, 174) := by kernel_rfl
@[go_sem] theorem Try.xsz177 : Try.prog.szT 177 = some 1 := by kernel_rfl
@[go_sem] theorem Try.xag177 : Try.prog.aggT 177 = some false := by kernel_rfl
@[go_sem] theorem Try.xel177 : Try.prog.elemT 177 = none := by kernel_rfl
@[go_sem] theorem Try.xby177 : Try.prog.bytesT 177 = some 8 := by kernel_rfl
@[go_sem] theorem Try.xze177 : Try.prog.zeroT 177 = some [Value.nilFunc] := by kernel_rfl
@[go_sem] theorem Try.xsz178 : Try.prog.szT 178 = some 1 := by kernel_rfl
@[go_sem] theorem Try.xag178 : Try.prog.aggT 178 = some false := by kernel_rfl
@[go_sem] theorem Try.xel178 : Try.prog.elemT 178 = none := by kernel_rfl
@[go_sem] theorem Try.xby178 : Try.prog.bytesT 178 = some 1 := by kernel_rfl
@[go_sem] theorem Try.xze178 : Try.prog.zeroT 178 = some [Value.int IntKind.u8 0] := by kernel_rfl
@[go_sem] theorem Try.xsz179 : Try.prog.szT 179 = some 1 := by kernel_rfl
@[go_sem] theorem Try.xag179 : Try.prog.aggT 179 = some false := by kernel_rfl
@[go_sem] theorem Try.xel179 : Try.prog.elemT 179 = none := by kernel_rfl
@[go_sem] theorem Try.xby179 : Try.prog.bytesT 179 = some 1 := by kernel_rfl
@[go_sem] theorem Try.xze179 : Try.prog.zeroT 179 = some [Value.int IntKind.u8 0] := by kernel_rfl
@[go_sem] theorem Try.xsz180 : Try.prog.szT 180 = some 1 := by kernel_rfl
@[go_sem] theorem Try.xag180 : Try.prog.aggT 180 = some false := by kernel_rfl
@[go_sem] theorem Try.xel180 : Try.prog.elemT 180 = none := by kernel_rfl
@[go_sem] theorem Try.xby180 : Try.prog.bytesT 180 = some 8 := by kernel_rfl
@[go_sem] theorem Try.xze180 : Try.prog.zeroT 180 = some [Value.nilFunc] := by kernel_rfl
@[go_sem] theorem Try.xsz181 : Try.prog.szT 181 = some 1 := by kernel_rfl
@[go_sem] theorem Try.xag181 : Try.prog.aggT 181 = some false := by kernel_rfl
@[go_sem] theorem Try.xel181 : Try.prog.elemT 181 = none := by kernel_rfl
@[go_sem] theorem Try.xby181 : Try.prog.bytesT 181 = some 8 := by kernel_rfl
@[go_sem] theorem Try.xze181 : Try.prog.zeroT 181 = some [Value.pointer none] := by kernel_rfl
@[go_sem] theorem Try.xsz182 : Try.prog.szT 182 = some 1 := by kernel_rfl
@[go_sem] theorem Try.xag182 : Try.prog.aggT 182 = some false := by kernel_rfl
@[go_sem] theorem Try.xel182 : Try.prog.elemT 182 = none := by kernel_rfl
@[go_sem] theorem Try.xby182 : Try.prog.bytesT 182 = some 4 := by kernel_rfl
@[go_sem] theorem Try.xze182 : Try.prog.zeroT 182 = some [Value.int IntKind.i32 0] := by kernel_rfl
@[go_sem] theorem Try.xsz183 : Try.prog.szT 183 = some 1 := by kernel_rfl
@[go_sem] theorem Try.xag183 : Try.prog.aggT 183 = some false := by kernel_rfl
@[go_sem] theorem Try.xel183 : Try.prog.elemT 183 = none := by kernel_rfl
@[go_sem] theorem Try.xby183 : Try.prog.bytesT 183 = some 4 := by kernel_rfl
@[go_sem] theorem Try.xze183 : Try.prog.zeroT 183 = some [Value.int IntKind.i32 0] := by kernel_rfl
@[go_sem] theorem Try.xsz184 : Try.prog.szT 184 = some 11 := by kernel_rfl
@[go_sem] theorem Try.xag184 : Try.prog.aggT 184 = some true := by kernel_rfl
@[go_sem] theorem Try.xel184 : Try.prog.elemT 184 = none := by kernel_rfl
@[go_sem] theorem Try.xby184 : Try.prog.bytesT 184 = some 48 := by kernel_rfl
@[go_sem] theorem Try.xpl184 : Try.prog.plT 184 = some [(0, 1), (1, 1), (2, 1), (3, 1), (4, 1), (5, 1), (6, 1), (7, 1), (8, 1), (9, 1), (10, 1)] := by kernel_rfl
@[go_sem] theorem Try.xze184 : Try.prog.zeroT 184 = some [Value.int IntKind.u64 0, Value.int IntKind.u64 0, Value.int IntKind.u32 0, Value.int IntKind.u8 0, Value.int IntKind.u8 0, Value.int IntKind.u8 0, Value.int IntKind.u8 0, Value.nilFunc, Value.pointer none, Value.int IntKind.i32 0, Value.int IntKind.i32 0] := by kernel_rfl
@[go_sem] theorem Try.xzk184 : zeroOk [Value.int IntKind.u64 0, Value.int IntKind.u64 0, Value.int IntKind.u32 0, Value.int IntKind.u8 0, Value.int IntKind.u8 0, Value.int IntKind.u8 0, Value.int IntKind.u8 0, Value.nilFunc, Value.pointer none, Value.int IntKind.i32 0, Value.int IntKind.i32 0] = true := by kernel_rfl
@[go_sem] theorem Try.xfl184_0 : Try.prog.fldT 184 0 = some (0, 12) := by kernel_rfl
@[go_sem] theorem Try.xfl184_1 : Try.prog.fldT 184 1 = some (1, 12) := by kernel_rfl
@[go_sem] theorem Try.xfl184_2 : Try.prog.fldT 184 2 = some (2, 160) := by kernel_rfl
@[go_sem] theorem Try.xfl184_3 : Try.prog.fldT 184 3 = some (3, 178) := by kernel_rfl
@[go_sem] theorem Try.xfl184_4 : Try.prog.fldT 184 4 = some (4, 5) := by kernel_rfl
@[go_sem] theorem Try.xfl184_5 : Try.prog.fldT 184 5 = some (5, 5) := by kernel_rfl
@[go_sem] theorem Try.xfl184_6 : Try.prog.fldT 184 6 = some (6, 179) := by kernel_rfl
@[go_sem] theorem Try.xfl184_7 : Try.prog.fldT 184 7 = some (7, 180) := by kernel_rfl
@[go_sem] theorem Try.xfl184_8 : Try.prog.fldT 184 8 = some (8, 181) := by kernel_rfl
@[go_sem] theorem Try.xfl184_9 : Try.prog.fldT 184 9 = some (9, 182) := by kernel_rfl
@[go_sem] theorem Try.xfl184_10 : Try.prog.fldT 184 10 = some (10, 183) := by kernel_rfl
@[go_sem] theorem Try.xsz185 : Try.prog.szT 185 = some 11 := by kernel_rfl
@[go_sem] theorem Try.xag185 : Try.prog.aggT 185 = some true := by kernel_rfl
@[go_sem] theorem Try.xel185 : Try.prog.elemT 185 = none := by kernel_rfl
@[go_sem] theorem Try.xby185 : Try.prog.bytesT 185 = some 48 := by kernel_rfl
@[go_sem] theorem Try.xpl185 : Try.prog.plT 185 = some [(0, 1), (1, 1), (2, 1), (3, 1), (4, 1), (5, 1), (6, 1), (7, 1), (8, 1), (9, 1), (10, 1)] := by kernel_rfl
@[go_sem] theorem Try.xze185 : Try.prog.zeroT 185 = some [Value.int IntKind.u64 0, Value.int IntKind.u64 0, Value.int IntKind.u32 0, Value.int IntKind.u8 0, Value.int IntKind.u8 0, Value.int IntKind.u8 0, Value.int IntKind.u8 0, Value.nilFunc, Value.pointer none, Value.int IntKind.i32 0, Value.int IntKind.i32 0] := by kernel_rfl
@[go_sem] theorem Try.xfl185_0 : Try.prog.fldT 185 0 = some (0, 12) := by kernel_rfl
@[go_sem] theorem Try.xfl185_1 : Try.prog.fldT 185 1 = some (1, 12) := by kernel_rfl
@[go_sem] theorem Try.xfl185_2 : Try.prog.fldT 185 2 = some (2, 160) := by kernel_rfl
@[go_sem] theorem Try.xfl185_3 : Try.prog.fldT 185 3 = some (3, 178) := by kernel_rfl
@[go_sem] theorem Try.xfl185_4 : Try.prog.fldT 185 4 = some (4, 5) := by kernel_rfl
@[go_sem] theorem Try.xfl185_5 : Try.prog.fldT 185 5 = some (5, 5) := by kernel_rfl
@[go_sem] theorem Try.xfl185_6 : Try.prog.fldT 185 6 = some (6, 179) := by kernel_rfl
@[go_sem] theorem Try.xfl185_7 : Try.prog.fldT 185 7 = some (7, 180) := by kernel_rfl
@[go_sem] theorem Try.xfl185_8 : Try.prog.fldT 185 8 = some (8, 181) := by kernel_rfl
@[go_sem] theorem Try.xfl185_9 : Try.prog.fldT 185 9 = some (9, 182) := by kernel_rfl
@[go_sem] theorem Try.xfl185_10 : Try.prog.fldT 185 10 = some (10, 183) := by kernel_rfl
@[go_sem] theorem Try.xsz186 : Try.prog.szT 186 = some 1 := by kernel_rfl
@[go_sem] theorem Try.xag186 : Try.prog.aggT 186 = some false := by kernel_rfl
@[go_sem] theorem Try.xel186 : Try.prog.elemT 186 = none := by kernel_rfl
@[go_sem] theorem Try.xby186 : Try.prog.bytesT 186 = some 8 := by kernel_rfl
@[go_sem] theorem Try.xze186 : Try.prog.zeroT 186 = some [Value.nilFunc] := by kernel_rfl
@[go_sem] theorem Try.xsz187 : Try.prog.szT 187 = some 1 := by kernel_rfl
@[go_sem] theorem Try.xag187 : Try.prog.aggT 187 = some false := by kernel_rfl
@[go_sem] theorem Try.xel187 : Try.prog.elemT 187 = none := by kernel_rfl
@[go_sem] theorem Try.xby187 : Try.prog.bytesT 187 = some 8 := by kernel_rfl
@[go_sem] theorem Try.xze187 : Try.prog.zeroT 187 = some [Value.pointer none] := by kernel_rfl
@[go_sem] theorem Try.xsz188 : Try.prog.szT 188 = some 1 := by kernel_rfl
@[go_sem] theorem Try.xag188 : Try.prog.aggT 188 = some false := by kernel_rfl
@[go_sem] theorem Try.xel188 : Try.prog.elemT 188 = none := by kernel_rfl
@[go_sem] theorem Try.xby188 : Try.prog.bytesT 188 = some 8 := by kernel_rfl
@[go_sem] theorem Try.xze188 : Try.prog.zeroT 188 = some [Value.nilFunc] := by kernel_rfl
@[go_sem] theorem Try.xsz189 : Try.prog.szT 189 = some 1 := by kernel_rfl
@[go_sem] theorem Try.xag189 : Try.prog.aggT 189 = some false := by kernel_rfl
@[go_sem] theorem Try.xel189 : Try.prog.elemT 189 = none := by kernel_rfl
@[go_sem] theorem Try.xby189 : Try.prog.bytesT 189 = some 8 := by kernel_rfl
@[go_sem] theorem Try.xze189 : Try.prog.zeroT 189 = some [Value.nilFunc] := by kernel_rfl
attribute [go_sem] Try.underlying0 Try.underlying1 Try.underlying2 Try.underlying3 Try.underlying4 Try.underlying5 Try.underlying6 Try.underlying7 Try.underlying8 Try.underlying9 Try.underlying10 Try.underlying11 Try.underlying12 Try.underlying13 Try.underlying14 Try.underlying15 Try.underlying16 Try.underlying17 Try.underlying18 Try.underlying19 Try.underlying20 Try.underlying21 Try.underlying22 Try.underlying23 Try.underlying24 Try.underlying25 Try.underlying26 Try.underlying27 Try.underlying28 Try.underlying29 Try.underlying30 Try.underlying31 Try.underlying32 Try.underlying33 Try.underlying34 Try.underlying35 Try.underlying36 Try.underlying37 Try.underlying38 Try.underlying39 Try.underlying40 Try.underlying41 Try.underlying42 Try.underlying43 Try.underlying44 Try.underlying45 Try.underlying46 Try.underlying47 Try.underlying48 Try.underlying49 Try.underlying50 Try.underlying51 Try.underlying52 Try.underlying53 Try.underlying54 Try.underlying55 Try.underlying56 Try.underlying57 Try.underlying58 Try.underlying59 Try.underlying60 Try.underlying61 Try.underlying62 Try.underlying63 Try.underlying64 Try.underlying65 Try.underlying66 Try.underlying67 Try.underlying68 Try.underlying69 Try.underlying70 Try.underlying71 Try.underlying72 Try.underlying73 Try.underlying74 Try.underlying75 Try.underlying76 Try.underlying77 Try.underlying78 Try.underlying79 Try.underlying80 Try.underlying81 Try.underlying82 Try.underlying83 Try.underlying84 Try.underlying85 Try.underlying86 Try.underlying87 Try.underlying88 Try.underlying89 Try.underlying90 Try.underlying91 Try.underlying92 Try.underlying93 Try.underlying94 Try.underlying95 Try.underlying96 Try.underlying97 Try.underlying98 Try.underlying99 Try.underlying100 Try.underlying101 Try.underlying102 Try.underlying103 Try.underlying104 Try.underlying105 Try.underlying106 Try.underlying107 Try.underlying108 Try.underlying109 Try.underlying110 Try.underlying111 Try.underlying112 Try.underlying113 Try.underlying114 Try.underlying115 Try.underlying116 Try.underlying117 Try.underlying118 Try.underlying119 Try.underlying120 Try.underlying121 Try.underlying122 Try.underlying123 Try.underlying124 Try.underlying125 Try.underlying126 Try.underlying127 Try.underlying128 Try.underlying129 Try.underlying130 Try.underlying131 Try.underlying132 Try.underlying133 Try.underlying134 Try.underlying135 Try.underlying136 Try.underlying137 Try.underlying138 Try.underlying139 Try.underlying140 Try.underlying141 Try.underlying142 Try.underlying143 Try.underlying144 Try.underlying145 Try.underlying146 Try.underlying147 Try.underlying148 Try.underlying149 Try.underlying150 Try.underlying151 Try.underlying152 Try.underlying153 Try.underlying154 Try.underlying155 Try.underlying156 Try.underlying157 Try.underlying158 Try.underlying159 Try.underlying160 Try.underlying161 Try.underlying162 Try.underlying163 Try.underlying164 Try.underlying165 Try.underlying166 Try.underlying167 Try.underlying168 Try.underlying169 Try.underlying170 Try.underlying171 Try.underlying172 Try.underlying173 Try.underlying174 Try.underlying175 Try.underlying176 Try.underlying177 Try.underlying178 Try.underlying179 Try.underlying180 Try.underlying181 Try.underlying182 Try.underlying183 Try.underlying184 Try.underlying185 Try.underlying186 Try.underlying187 Try.underlying188 Try.underlying189
@[go_sem] theorem Try.xio2 : Try.prog.ioF 2 = false := by kernel_rfl
theorem Try.xen2 : Try.prog.enters 2 = true := by kernel_rfl
@[go_sem] theorem Try.xio3 : Try.prog.ioF 3 = false := by kernel_rfl
theorem Try.xen3 : Try.prog.enters 3 = true := by kernel_rfl
@[go_sem] theorem Try.xio4 : Try.prog.ioF 4 = false := by kernel_rfl
theorem Try.xen4 : Try.prog.enters 4 = true := by kernel_rfl
@[go_sem] theorem Try.xio5 : Try.prog.ioF 5 = false := by kernel_rfl
theorem Try.xen5 : Try.prog.enters 5 = true := by kernel_rfl
@[go_sem] theorem Try.xio6 : Try.prog.ioF 6 = false := by kernel_rfl
theorem Try.xen6 : Try.prog.enters 6 = true := by kernel_rfl
@[go_sem] theorem Try.xio7 : Try.prog.ioF 7 = true := by kernel_rfl
theorem Try.xen7 : Try.prog.enters 7 = true := by kernel_rfl
@[go_sem] theorem Try.xio8 : Try.prog.ioF 8 = false := by kernel_rfl
theorem Try.xen8 : Try.prog.enters 8 = true := by kernel_rfl
@[go_sem] theorem Try.xio9 : Try.prog.ioF 9 = false := by kernel_rfl
theorem Try.xen9 : Try.prog.enters 9 = true := by kernel_rfl
@[go_sem] theorem Try.xio10 : Try.prog.ioF 10 = false := by kernel_rfl
theorem Try.xen10 : Try.prog.enters 10 = true := by kernel_rfl
@[go_sem] theorem Try.xio11 : Try.prog.ioF 11 = false := by kernel_rfl
theorem Try.xen11 : Try.prog.enters 11 = true := by kernel_rfl
@[go_sem] theorem Try.xio12 : Try.prog.ioF 12 = false := by kernel_rfl
theorem Try.xen12 : Try.prog.enters 12 = true := by kernel_rfl
@[go_sem] theorem Try.xio13 : Try.prog.ioF 13 = false := by kernel_rfl
theorem Try.xen13 : Try.prog.enters 13 = true := by kernel_rfl
@[go_sem] theorem Try.xio14 : Try.prog.ioF 14 = false := by kernel_rfl
theorem Try.xen14 : Try.prog.enters 14 = true := by kernel_rfl
@[go_sem] theorem Try.xio15 : Try.prog.ioF 15 = false := by kernel_rfl
theorem Try.xen15 : Try.prog.enters 15 = true := by kernel_rfl
@[go_sem] theorem Try.xio16 : Try.prog.ioF 16 = false := by kernel_rfl
theorem Try.xen16 : Try.prog.enters 16 = true := by kernel_rfl
@[go_sem] theorem Try.xio17 : Try.prog.ioF 17 = false := by kernel_rfl
theorem Try.xen17 : Try.prog.enters 17 = true := by kernel_rfl
@[go_sem] theorem Try.xio18 : Try.prog.ioF 18 = true := by kernel_rfl
theorem Try.xen18 : Try.prog.enters 18 = true := by kernel_rfl
@[go_sem] theorem Try.xio19 : Try.prog.ioF 19 = false := by kernel_rfl
theorem Try.xen19 : Try.prog.enters 19 = true := by kernel_rfl
@[go_sem] theorem Try.xio20 : Try.prog.ioF 20 = false := by kernel_rfl
theorem Try.xen20 : Try.prog.enters 20 = true := by kernel_rfl
@[go_sem] theorem Try.xio21 : Try.prog.ioF 21 = false := by kernel_rfl
theorem Try.xen21 : Try.prog.enters 21 = true := by kernel_rfl
@[go_sem] theorem Try.xio22 : Try.prog.ioF 22 = false := by kernel_rfl
theorem Try.xen22 : Try.prog.enters 22 = true := by kernel_rfl
@[go_sem] theorem Try.xio23 : Try.prog.ioF 23 = false := by kernel_rfl
theorem Try.xen23 : Try.prog.enters 23 = true := by kernel_rfl
@[go_sem] theorem Try.xio24 : Try.prog.ioF 24 = false := by kernel_rfl
theorem Try.xen24 : Try.prog.enters 24 = true := by kernel_rfl
@[go_sem] theorem Try.xio25 : Try.prog.ioF 25 = true := by kernel_rfl
theorem Try.xen25 : Try.prog.enters 25 = true := by kernel_rfl
@[go_sem] theorem Try.xio26 : Try.prog.ioF 26 = false := by kernel_rfl
theorem Try.xen26 : Try.prog.enters 26 = true := by kernel_rfl
@[go_sem] theorem Try.xio27 : Try.prog.ioF 27 = false := by kernel_rfl
theorem Try.xen27 : Try.prog.enters 27 = true := by kernel_rfl
@[go_sem] theorem Try.xio28 : Try.prog.ioF 28 = false := by kernel_rfl
theorem Try.xen28 : Try.prog.enters 28 = true := by kernel_rfl
@[go_sem] theorem Try.xio29 : Try.prog.ioF 29 = false := by kernel_rfl
theorem Try.xen29 : Try.prog.enters 29 = true := by kernel_rfl
@[go_sem] theorem Try.xio30 : Try.prog.ioF 30 = false := by kernel_rfl
theorem Try.xen30 : Try.prog.enters 30 = true := by kernel_rfl
@[go_sem] theorem Try.xio31 : Try.prog.ioF 31 = false := by kernel_rfl
theorem Try.xen31 : Try.prog.enters 31 = true := by kernel_rfl
@[go_sem] theorem Try.xio32 : Try.prog.ioF 32 = true := by kernel_rfl
theorem Try.xen32 : Try.prog.enters 32 = true := by kernel_rfl
@[go_sem] theorem Try.xio33 : Try.prog.ioF 33 = false := by kernel_rfl
theorem Try.xen33 : Try.prog.enters 33 = true := by kernel_rfl
@[go_sem] theorem Try.xio34 : Try.prog.ioF 34 = false := by kernel_rfl
theorem Try.xen34 : Try.prog.enters 34 = true := by kernel_rfl
@[go_sem] theorem Try.xio35 : Try.prog.ioF 35 = false := by kernel_rfl
theorem Try.xen35 : Try.prog.enters 35 = true := by kernel_rfl
@[go_sem] theorem Try.xio36 : Try.prog.ioF 36 = false := by kernel_rfl
theorem Try.xen36 : Try.prog.enters 36 = true := by kernel_rfl
@[go_sem] theorem Try.xio37 : Try.prog.ioF 37 = false := by kernel_rfl
theorem Try.xen37 : Try.prog.enters 37 = true := by kernel_rfl
@[go_sem] theorem Try.xio38 : Try.prog.ioF 38 = false := by kernel_rfl
theorem Try.xen38 : Try.prog.enters 38 = true := by kernel_rfl
@[go_sem] theorem Try.xio39 : Try.prog.ioF 39 = false := by kernel_rfl
theorem Try.xen39 : Try.prog.enters 39 = true := by kernel_rfl
@[go_sem] theorem Try.xio40 : Try.prog.ioF 40 = false := by kernel_rfl
theorem Try.xen40 : Try.prog.enters 40 = true := by kernel_rfl
@[go_sem] theorem Try.xio41 : Try.prog.ioF 41 = false := by kernel_rfl
theorem Try.xen41 : Try.prog.enters 41 = true := by kernel_rfl
@[go_sem] theorem Try.xio42 : Try.prog.ioF 42 = false := by kernel_rfl
theorem Try.xen42 : Try.prog.enters 42 = true := by kernel_rfl
@[go_sem] theorem Try.xio43 : Try.prog.ioF 43 = false := by kernel_rfl
theorem Try.xen43 : Try.prog.enters 43 = true := by kernel_rfl
@[go_sem] theorem Try.xio44 : Try.prog.ioF 44 = false := by kernel_rfl
theorem Try.xen44 : Try.prog.enters 44 = true := by kernel_rfl
@[go_sem] theorem Try.xio45 : Try.prog.ioF 45 = false := by kernel_rfl
theorem Try.xen45 : Try.prog.enters 45 = true := by kernel_rfl
@[go_sem] theorem Try.xio46 : Try.prog.ioF 46 = false := by kernel_rfl
theorem Try.xen46 : Try.prog.enters 46 = true := by kernel_rfl
@[go_sem] theorem Try.xio47 : Try.prog.ioF 47 = false := by kernel_rfl
theorem Try.xen47 : Try.prog.enters 47 = true := by kernel_rfl
@[go_sem] theorem Try.xio48 : Try.prog.ioF 48 = true := by kernel_rfl
theorem Try.xen48 : Try.prog.enters 48 = true := by kernel_rfl
@[go_sem] theorem Try.xio49 : Try.prog.ioF 49 = false := by kernel_rfl
theorem Try.xen49 : Try.prog.enters 49 = true := by kernel_rfl
@[go_sem] theorem Try.xio50 : Try.prog.ioF 50 = false := by kernel_rfl
theorem Try.xen50 : Try.prog.enters 50 = true := by kernel_rfl
@[go_sem] theorem Try.xio51 : Try.prog.ioF 51 = false := by kernel_rfl
theorem Try.xen51 : Try.prog.enters 51 = true := by kernel_rfl
@[go_sem] theorem Try.xio52 : Try.prog.ioF 52 = false := by kernel_rfl
theorem Try.xen52 : Try.prog.enters 52 = true := by kernel_rfl
@[go_sem] theorem Try.xio53 : Try.prog.ioF 53 = false := by kernel_rfl
theorem Try.xen53 : Try.prog.enters 53 = true := by kernel_rfl
@[go_sem] theorem Try.xio54 : Try.prog.ioF 54 = false := by kernel_rfl
theorem Try.xen54 : Try.prog.enters 54 = true := by kernel_rfl
@[go_sem] theorem Try.xio55 : Try.prog.ioF 55 = false := by kernel_rfl
theorem Try.xen55 : Try.prog.enters 55 = true := by kernel_rfl
@[go_sem] theorem Try.xio56 : Try.prog.ioF 56 = false := by kernel_rfl
theorem Try.xen56 : Try.prog.enters 56 = true := by kernel_rfl
@[go_sem] theorem Try.xio57 : Try.prog.ioF 57 = false := by kernel_rfl
theorem Try.xen57 : Try.prog.enters 57 = true := by kernel_rfl
@[go_sem] theorem Try.xio58 : Try.prog.ioF 58 = false := by kernel_rfl
theorem Try.xen58 : Try.prog.enters 58 = true := by kernel_rfl
@[go_sem] theorem Try.xio59 : Try.prog.ioF 59 = false := by kernel_rfl
theorem Try.xen59 : Try.prog.enters 59 = true := by kernel_rfl
@[go_sem] theorem Try.xio60 : Try.prog.ioF 60 = false := by kernel_rfl
theorem Try.xen60 : Try.prog.enters 60 = true := by kernel_rfl
@[go_sem] theorem Try.xio61 : Try.prog.ioF 61 = false := by kernel_rfl
theorem Try.xen61 : Try.prog.enters 61 = true := by kernel_rfl
@[go_sem] theorem Try.xio62 : Try.prog.ioF 62 = false := by kernel_rfl
theorem Try.xen62 : Try.prog.enters 62 = true := by kernel_rfl
@[go_sem] theorem Try.xio63 : Try.prog.ioF 63 = false := by kernel_rfl
theorem Try.xen63 : Try.prog.enters 63 = true := by kernel_rfl
@[go_sem] theorem Try.xio64 : Try.prog.ioF 64 = false := by kernel_rfl
theorem Try.xen64 : Try.prog.enters 64 = true := by kernel_rfl
@[go_sem] theorem Try.xio65 : Try.prog.ioF 65 = false := by kernel_rfl
theorem Try.xen65 : Try.prog.enters 65 = true := by kernel_rfl
@[go_sem] theorem Try.xio66 : Try.prog.ioF 66 = true := by kernel_rfl
theorem Try.xen66 : Try.prog.enters 66 = true := by kernel_rfl
@[go_sem] theorem Try.xio67 : Try.prog.ioF 67 = false := by kernel_rfl
theorem Try.xen67 : Try.prog.enters 67 = true := by kernel_rfl
@[go_sem] theorem Try.xio68 : Try.prog.ioF 68 = false := by kernel_rfl
theorem Try.xen68 : Try.prog.enters 68 = true := by kernel_rfl
@[go_sem] theorem Try.xio69 : Try.prog.ioF 69 = false := by kernel_rfl
theorem Try.xen69 : Try.prog.enters 69 = true := by kernel_rfl
@[go_sem] theorem Try.xio70 : Try.prog.ioF 70 = false := by kernel_rfl
theorem Try.xen70 : Try.prog.enters 70 = true := by kernel_rfl
@[go_sem] theorem Try.xio71 : Try.prog.ioF 71 = false := by kernel_rfl
theorem Try.xen71 : Try.prog.enters 71 = true := by kernel_rfl
@[go_sem] theorem Try.xio72 : Try.prog.ioF 72 = false := by kernel_rfl
theorem Try.xen72 : Try.prog.enters 72 = true := by kernel_rfl
@[go_sem] theorem Try.xio73 : Try.prog.ioF 73 = false := by kernel_rfl
theorem Try.xen73 : Try.prog.enters 73 = true := by kernel_rfl
@[go_sem] theorem Try.xio74 : Try.prog.ioF 74 = true := by kernel_rfl
theorem Try.xen74 : Try.prog.enters 74 = true := by kernel_rfl
@[go_sem] theorem Try.xio75 : Try.prog.ioF 75 = false := by kernel_rfl
theorem Try.xen75 : Try.prog.enters 75 = true := by kernel_rfl
@[go_sem] theorem Try.xio76 : Try.prog.ioF 76 = false := by kernel_rfl
theorem Try.xen76 : Try.prog.enters 76 = true := by kernel_rfl
@[go_sem] theorem Try.xio77 : Try.prog.ioF 77 = false := by kernel_rfl
theorem Try.xen77 : Try.prog.enters 77 = true := by kernel_rfl
@[go_sem] theorem Try.xio78 : Try.prog.ioF 78 = true := by kernel_rfl
theorem Try.xen78 : Try.prog.enters 78 = true := by kernel_rfl
@[go_sem] theorem Try.xio79 : Try.prog.ioF 79 = false := by kernel_rfl
theorem Try.xen79 : Try.prog.enters 79 = true := by kernel_rfl
@[go_sem] theorem Try.xio80 : Try.prog.ioF 80 = false := by kernel_rfl
theorem Try.xen80 : Try.prog.enters 80 = true := by kernel_rfl
@[go_sem] theorem Try.xio81 : Try.prog.ioF 81 = false := by kernel_rfl
theorem Try.xen81 : Try.prog.enters 81 = true := by kernel_rfl
@[go_sem] theorem Try.xio82 : Try.prog.ioF 82 = false := by kernel_rfl
theorem Try.xen82 : Try.prog.enters 82 = true := by kernel_rfl
@[go_sem] theorem Try.xio83 : Try.prog.ioF 83 = false := by kernel_rfl
theorem Try.xen83 : Try.prog.enters 83 = true := by kernel_rfl
@[go_sem] theorem Try.xio84 : Try.prog.ioF 84 = false := by kernel_rfl
theorem Try.xen84 : Try.prog.enters 84 = true := by kernel_rfl
@[go_sem] theorem Try.xio85 : Try.prog.ioF 85 = false := by kernel_rfl
theorem Try.xen85 : Try.prog.enters 85 = true := by kernel_rfl
@[go_sem] theorem Try.xio86 : Try.prog.ioF 86 = false := by kernel_rfl
theorem Try.xen86 : Try.prog.enters 86 = true := by kernel_rfl
@[go_sem] theorem Try.xio87 : Try.prog.ioF 87 = false := by kernel_rfl
theorem Try.xen87 : Try.prog.enters 87 = true := by kernel_rfl
@[go_sem] theorem Try.xio88 : Try.prog.ioF 88 = false := by kernel_rfl
theorem Try.xen88 : Try.prog.enters 88 = true := by kernel_rfl
@[go_sem] theorem Try.xio89 : Try.prog.ioF 89 = false := by kernel_rfl
theorem Try.xen89 : Try.prog.enters 89 = true := by kernel_rfl
@[go_sem] theorem Try.xio90 : Try.prog.ioF 90 = false := by kernel_rfl
theorem Try.xen90 : Try.prog.enters 90 = true := by kernel_rfl
@[go_sem] theorem Try.xio91 : Try.prog.ioF 91 = false := by kernel_rfl
theorem Try.xen91 : Try.prog.enters 91 = true := by kernel_rfl
@[go_sem] theorem Try.xio92 : Try.prog.ioF 92 = false := by kernel_rfl
theorem Try.xen92 : Try.prog.enters 92 = true := by kernel_rfl
@[go_sem] theorem Try.xio93 : Try.prog.ioF 93 = false := by kernel_rfl
theorem Try.xen93 : Try.prog.enters 93 = true := by kernel_rfl
@[go_sem] theorem Try.xio94 : Try.prog.ioF 94 = false := by kernel_rfl
theorem Try.xen94 : Try.prog.enters 94 = true := by kernel_rfl
@[go_sem] theorem Try.xio95 : Try.prog.ioF 95 = false := by kernel_rfl
theorem Try.xen95 : Try.prog.enters 95 = true := by kernel_rfl
@[go_sem] theorem Try.xio96 : Try.prog.ioF 96 = false := by kernel_rfl
theorem Try.xen96 : Try.prog.enters 96 = true := by kernel_rfl
@[go_sem] theorem Try.xio97 : Try.prog.ioF 97 = false := by kernel_rfl
theorem Try.xen97 : Try.prog.enters 97 = true := by kernel_rfl
@[go_sem] theorem Try.xio98 : Try.prog.ioF 98 = false := by kernel_rfl
theorem Try.xen98 : Try.prog.enters 98 = true := by kernel_rfl
@[go_sem] theorem Try.xio99 : Try.prog.ioF 99 = false := by kernel_rfl
theorem Try.xen99 : Try.prog.enters 99 = true := by kernel_rfl
@[go_sem] theorem Try.xio100 : Try.prog.ioF 100 = true := by kernel_rfl
theorem Try.xen100 : Try.prog.enters 100 = true := by kernel_rfl
@[go_sem] theorem Try.xio101 : Try.prog.ioF 101 = true := by kernel_rfl
theorem Try.xen101 : Try.prog.enters 101 = true := by kernel_rfl
@[go_sem] theorem Try.xio102 : Try.prog.ioF 102 = true := by kernel_rfl
theorem Try.xen102 : Try.prog.enters 102 = true := by kernel_rfl
@[go_sem] theorem Try.xio103 : Try.prog.ioF 103 = false := by kernel_rfl
theorem Try.xen103 : Try.prog.enters 103 = true := by kernel_rfl
@[go_sem] theorem Try.xio104 : Try.prog.ioF 104 = true := by kernel_rfl
theorem Try.xen104 : Try.prog.enters 104 = true := by kernel_rfl
@[go_sem] theorem Try.xio113 : Try.prog.ioF 113 = true := by kernel_rfl
@[go_sem] theorem Try.xio114 : Try.prog.ioF 114 = true := by kernel_rfl
@[go_sem] theorem Try.xio115 : Try.prog.ioF 115 = true := by kernel_rfl
@[go_sem] theorem Try.xio116 : Try.prog.ioF 116 = true := by kernel_rfl
@[go_sem] theorem Try.xio117 : Try.prog.ioF 117 = true := by kernel_rfl
@[go_sem] theorem Try.xio121 : Try.prog.ioF 121 = true := by kernel_rfl
end Go.Proofs.Ytkppmlignfhdeaa
