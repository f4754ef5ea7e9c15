/- Proved here: The layout of the types of the program, for use in the proofs of the given statements; conditions stand in each theorem. -/
import Derived.Test.YtnbmiejjkkgckaaZO
import Derived.Test.YtnbmiejjkkgckaaProg
set_option linter.unusedSimpArgs false
set_option linter.unusedVariables false
set_option linter.unusedSimpArgs false
namespace Go.Proofs.Ytnbmiejjkkgckaa
open Go.RowKit
@[go_sem] theorem Try.xsz0 : Try.prog.szT 0 = some 1 := by kernel_rfl
@[go_sem] theorem Try.xag0 : Try.prog.aggT 0 = some false := by kernel_rfl
@[go_sem] theorem Try.xel0 : Try.prog.elemT 0 = none := by kernel_rfl
@[go_sem] theorem Try.xby0 : Try.prog.bytesT 0 = some 0 := by kernel_rfl
@[go_sem] theorem Try.xsz1 : Try.prog.szT 1 = some 1 := by kernel_rfl
@[go_sem] theorem Try.xag1 : Try.prog.aggT 1 = some false := by kernel_rfl
@[go_sem] theorem Try.xel1 : Try.prog.elemT 1 = none := by kernel_rfl
@[go_sem] theorem Try.xby1 : Try.prog.bytesT 1 = some 8 := by kernel_rfl
@[go_sem] theorem Try.xze1 : Try.prog.zeroT 1 = some [Value.nilFunc] := by kernel_rfl
@[go_sem] theorem Try.xzk1 : zeroOk [Value.nilFunc] = true := by kernel_rfl
@[go_sem] theorem Try.xsz2 : Try.prog.szT 2 = some 1 := by kernel_rfl
@[go_sem] theorem Try.xag2 : Try.prog.aggT 2 = some false := by kernel_rfl
@[go_sem] theorem Try.xel2 : Try.prog.elemT 2 = none := by kernel_rfl
@[go_sem] theorem Try.xby2 : Try.prog.bytesT 2 = some 8 := by kernel_rfl
@[go_sem] theorem Try.xze2 : Try.prog.zeroT 2 = some [Value.int IntKind.i64 0] := by kernel_rfl
@[go_sem] theorem Try.xzk2 : zeroOk [Value.int IntKind.i64 0] = true := by kernel_rfl
@[go_sem] theorem Try.xsz3 : Try.prog.szT 3 = some 1 := by kernel_rfl
@[go_sem] theorem Try.xag3 : Try.prog.aggT 3 = some false := by kernel_rfl
@[go_sem] theorem Try.xel3 : Try.prog.elemT 3 = none := by kernel_rfl
@[go_sem] theorem Try.xby3 : Try.prog.bytesT 3 = some 8 := by kernel_rfl
@[go_sem] theorem Try.xze3 : Try.prog.zeroT 3 = some [Value.int IntKind.i64 0] := by kernel_rfl
@[go_sem] theorem Try.xsz4 : Try.prog.szT 4 = some 1 := by kernel_rfl
@[go_sem] theorem Try.xag4 : Try.prog.aggT 4 = some false := by kernel_rfl
@[go_sem] theorem Try.xel4 : Try.prog.elemT 4 = none := by kernel_rfl
@[go_sem] theorem Try.xby4 : Try.prog.bytesT 4 = some 1 := by kernel_rfl
@[go_sem] theorem Try.xze4 : Try.prog.zeroT 4 = some [Value.bool false] := by kernel_rfl
@[go_sem] theorem Try.xzk4 : zeroOk [Value.bool false] = true := by kernel_rfl
@[go_sem] theorem Try.xsz5 : Try.prog.szT 5 = some 1 := by kernel_rfl
@[go_sem] theorem Try.xag5 : Try.prog.aggT 5 = some false := by kernel_rfl
@[go_sem] theorem Try.xel5 : Try.prog.elemT 5 = none := by kernel_rfl
@[go_sem] theorem Try.xby5 : Try.prog.bytesT 5 = some 1 := by kernel_rfl
@[go_sem] theorem Try.xze5 : Try.prog.zeroT 5 = some [Value.int IntKind.u8 0] := by kernel_rfl
@[go_sem] theorem Try.xzk5 : zeroOk [Value.int IntKind.u8 0] = true := by kernel_rfl
@[go_sem] theorem Try.xsz6 : Try.prog.szT 6 = some 1 := by kernel_rfl
@[go_sem] theorem Try.xag6 : Try.prog.aggT 6 = some false := by kernel_rfl
@[go_sem] theorem Try.xel6 : Try.prog.elemT 6 = none := by kernel_rfl
@[go_sem] theorem Try.xby6 : Try.prog.bytesT 6 = some 1 := by kernel_rfl
@[go_sem] theorem Try.xze6 : Try.prog.zeroT 6 = some [Value.int IntKind.u8 0] := by kernel_rfl
@[go_sem] theorem Try.xsz7 : Try.prog.szT 7 = some 4 := by kernel_rfl
@[go_sem] theorem Try.xag7 : Try.prog.aggT 7 = some true := by kernel_rfl
@[go_sem] theorem Try.xel7 : Try.prog.elemT 7 = none := by kernel_rfl
@[go_sem] theorem Try.xby7 : Try.prog.bytesT 7 = some 24 := by kernel_rfl
@[go_sem] theorem Try.xpl7 : Try.prog.plT 7 = some [(0, 1), (1, 1), (2, 1), (3, 1)] := by kernel_rfl
@[go_sem] theorem Try.xze7 : Try.prog.zeroT 7 = some [Value.int IntKind.i64 0, Value.int IntKind.i64 0, Value.bool false, Value.int IntKind.u8 0] := by kernel_rfl
@[go_sem] theorem Try.xzk7 : zeroOk [Value.int IntKind.i64 0, Value.int IntKind.i64 0, Value.bool false, Value.int IntKind.u8 0] = true := by kernel_rfl
@[go_sem] theorem Try.xfl7_0 : Try.prog.fldT 7 0 = some (0, 2) := by kernel_rfl
@[go_sem] theorem Try.xfl7_1 : Try.prog.fldT 7 1 = some (1, 3) := by kernel_rfl
@[go_sem] theorem Try.xfl7_2 : Try.prog.fldT 7 2 = some (2, 4) := by kernel_rfl
@[go_sem] theorem Try.xfl7_3 : Try.prog.fldT 7 3 = some (3, 6) := by kernel_rfl
@[go_sem] theorem Try.xsz8 : Try.prog.szT 8 = some 4 := by kernel_rfl
@[go_sem] theorem Try.xag8 : Try.prog.aggT 8 = some true := by kernel_rfl
@[go_sem] theorem Try.xel8 : Try.prog.elemT 8 = none := by kernel_rfl
@[go_sem] theorem Try.xby8 : Try.prog.bytesT 8 = some 24 := by kernel_rfl
@[go_sem] theorem Try.xpl8 : Try.prog.plT 8 = some [(0, 1), (1, 1), (2, 1), (3, 1)] := by kernel_rfl
@[go_sem] theorem Try.xze8 : Try.prog.zeroT 8 = some [Value.int IntKind.i64 0, Value.int IntKind.i64 0, Value.bool false, Value.int IntKind.u8 0] := by kernel_rfl
@[go_sem] theorem Try.xfl8_0 : Try.prog.fldT 8 0 = some (0, 2) := by kernel_rfl
@[go_sem] theorem Try.xfl8_1 : Try.prog.fldT 8 1 = some (1, 3) := by kernel_rfl
@[go_sem] theorem Try.xfl8_2 : Try.prog.fldT 8 2 = some (2, 4) := by kernel_rfl
@[go_sem] theorem Try.xfl8_3 : Try.prog.fldT 8 3 = some (3, 6) := by kernel_rfl
@[go_sem] theorem Try.xsz9 : Try.prog.szT 9 = some 1 := by kernel_rfl
@[go_sem] theorem Try.xag9 : Try.prog.aggT 9 = some false := by kernel_rfl
@[go_sem] theorem Try.xel9 : Try.prog.elemT 9 = none := by kernel_rfl
@[go_sem] theorem Try.xby9 : Try.prog.bytesT 9 = some 16 := by kernel_rfl
@[go_sem] theorem Try.xze9 : Try.prog.zeroT 9 = some [Value.string ⟨#[]⟩] := by kernel_rfl
@[go_sem] theorem Try.xzk9 : zeroOk [Value.string ⟨#[]⟩] = true := by kernel_rfl
@[go_sem] theorem Try.xsz10 : Try.prog.szT 10 = some 1 := by kernel_rfl
@[go_sem] theorem Try.xag10 : Try.prog.aggT 10 = some false := by kernel_rfl
@[go_sem] theorem Try.xel10 : Try.prog.elemT 10 = none := by kernel_rfl
@[go_sem] theorem Try.xby10 : Try.prog.bytesT 10 = some 16 := by kernel_rfl
@[go_sem] theorem Try.xze10 : Try.prog.zeroT 10 = some [Value.string ⟨#[]⟩] := by kernel_rfl
@[go_sem] theorem Try.xsz11 : Try.prog.szT 11 = some 1 := by kernel_rfl
@[go_sem] theorem Try.xag11 : Try.prog.aggT 11 = some false := by kernel_rfl
@[go_sem] theorem Try.xel11 : Try.prog.elemT 11 = none := by kernel_rfl
@[go_sem] theorem Try.xby11 : Try.prog.bytesT 11 = some 16 := by kernel_rfl
@[go_sem] theorem Try.xze11 : Try.prog.zeroT 11 = some [Value.string ⟨#[]⟩] := by kernel_rfl
@[go_sem] theorem Try.xsz12 : Try.prog.szT 12 = some 1 := by kernel_rfl
@[go_sem] theorem Try.xag12 : Try.prog.aggT 12 = some false := by kernel_rfl
@[go_sem] theorem Try.xel12 : Try.prog.elemT 12 = none := by kernel_rfl
@[go_sem] theorem Try.xby12 : Try.prog.bytesT 12 = some 8 := by kernel_rfl
@[go_sem] theorem Try.xze12 : Try.prog.zeroT 12 = some [Value.int IntKind.u64 0] := by kernel_rfl
@[go_sem] theorem Try.xzk12 : zeroOk [Value.int IntKind.u64 0] = true := by kernel_rfl
@[go_sem] theorem Try.xsz13 : Try.prog.szT 13 = some 2 := by kernel_rfl
@[go_sem] theorem Try.xag13 : Try.prog.aggT 13 = some true := by kernel_rfl
@[go_sem] theorem Try.xel13 : Try.prog.elemT 13 = none := by kernel_rfl
@[go_sem] theorem Try.xby13 : Try.prog.bytesT 13 = some 24 := by kernel_rfl
@[go_sem] theorem Try.xpl13 : Try.prog.plT 13 = some [(0, 1), (1, 1)] := by kernel_rfl
@[go_sem] theorem Try.xze13 : Try.prog.zeroT 13 = some [Value.string ⟨#[]⟩, Value.int IntKind.u64 0] := by kernel_rfl
@[go_sem] theorem Try.xzk13 : zeroOk [Value.string ⟨#[]⟩, Value.int IntKind.u64 0] = true := by kernel_rfl
@[go_sem] theorem Try.xfl13_0 : Try.prog.fldT 13 0 = some (0, 9) := by kernel_rfl
@[go_sem] theorem Try.xfl13_1 : Try.prog.fldT 13 1 = some (1, 12) := by kernel_rfl
@[go_sem] theorem Try.xsz14 : Try.prog.szT 14 = some 2 := by kernel_rfl
@[go_sem] theorem Try.xag14 : Try.prog.aggT 14 = some true := by kernel_rfl
@[go_sem] theorem Try.xel14 : Try.prog.elemT 14 = none := by kernel_rfl
@[go_sem] theorem Try.xby14 : Try.prog.bytesT 14 = some 24 := by kernel_rfl
@[go_sem] theorem Try.xpl14 : Try.prog.plT 14 = some [(0, 1), (1, 1)] := by kernel_rfl
@[go_sem] theorem Try.xze14 : Try.prog.zeroT 14 = some [Value.string ⟨#[]⟩, Value.int IntKind.u64 0] := by kernel_rfl
@[go_sem] theorem Try.xfl14_0 : Try.prog.fldT 14 0 = some (0, 9) := by kernel_rfl
@[go_sem] theorem Try.xfl14_1 : Try.prog.fldT 14 1 = some (1, 12) := by kernel_rfl
@[go_sem] theorem Try.xsz15 : Try.prog.szT 15 = some 1 := by kernel_rfl
@[go_sem] theorem Try.xag15 : Try.prog.aggT 15 = some false := by kernel_rfl
@[go_sem] theorem Try.xel15 : Try.prog.elemT 15 = none := by kernel_rfl
@[go_sem] theorem Try.xby15 : Try.prog.bytesT 15 = some 8 := by kernel_rfl
@[go_sem] theorem Try.xze15 : Try.prog.zeroT 15 = some [Value.pointer none] := by kernel_rfl
@[go_sem] theorem Try.xzk15 : zeroOk [Value.pointer none] = true := by kernel_rfl
@[go_sem] theorem Try.xsz16 : Try.prog.szT 16 = some 1 := by kernel_rfl
@[go_sem] theorem Try.xag16 : Try.prog.aggT 16 = some false := by kernel_rfl
@[go_sem] theorem Try.xel16 : Try.prog.elemT 16 = none := by kernel_rfl
@[go_sem] theorem Try.xby16 : Try.prog.bytesT 16 = some 8 := by kernel_rfl
@[go_sem] theorem Try.xze16 : Try.prog.zeroT 16 = some [Value.pointer none] := by kernel_rfl
@[go_sem] theorem Try.xsz17 : Try.prog.szT 17 = some 1 := by kernel_rfl
@[go_sem] theorem Try.xag17 : Try.prog.aggT 17 = some false := by kernel_rfl
@[go_sem] theorem Try.xel17 : Try.prog.elemT 17 = none := by kernel_rfl
@[go_sem] theorem Try.xby17 : Try.prog.bytesT 17 = some 8 := by kernel_rfl
@[go_sem] theorem Try.xze17 : Try.prog.zeroT 17 = some [Value.pointer none] := by kernel_rfl
@[go_sem] theorem Try.xsz18 : Try.prog.szT 18 = some 1 := by kernel_rfl
@[go_sem] theorem Try.xag18 : Try.prog.aggT 18 = some true := by kernel_rfl
@[go_sem] theorem Try.xel18 : Try.prog.elemT 18 = none := by kernel_rfl
@[go_sem] theorem Try.xby18 : Try.prog.bytesT 18 = some 8 := by kernel_rfl
@[go_sem] theorem Try.xpl18 : Try.prog.plT 18 = some [(0, 1)] := by kernel_rfl
@[go_sem] theorem Try.xze18 : Try.prog.zeroT 18 = some [Value.pointer none] := by kernel_rfl
@[go_sem] theorem Try.xfl18_0 : Try.prog.fldT 18 0 = some (0, 17) := by kernel_rfl
@[go_sem] theorem Try.xsz19 : Try.prog.szT 19 = some 1 := by kernel_rfl
@[go_sem] theorem Try.xag19 : Try.prog.aggT 19 = some true := by kernel_rfl
@[go_sem] theorem Try.xel19 : Try.prog.elemT 19 = none := by kernel_rfl
@[go_sem] theorem Try.xby19 : Try.prog.bytesT 19 = some 8 := by kernel_rfl
@[go_sem] theorem Try.xpl19 : Try.prog.plT 19 = some [(0, 1)] := by kernel_rfl
@[go_sem] theorem Try.xze19 : Try.prog.zeroT 19 = some [Value.pointer none] := by kernel_rfl
@[go_sem] theorem Try.xfl19_0 : Try.prog.fldT 19 0 = some (0, 17) := by kernel_rfl
@[go_sem] theorem Try.xsz20 : Try.prog.szT 20 = some 1 := by kernel_rfl
@[go_sem] theorem Try.xag20 : Try.prog.aggT 20 = some false := by kernel_rfl
@[go_sem] theorem Try.xel20 : Try.prog.elemT 20 = none := by kernel_rfl
@[go_sem] theorem Try.xby20 : Try.prog.bytesT 20 = some 16 := by kernel_rfl
@[go_sem] theorem Try.xze20 : Try.prog.zeroT 20 = some [Value.nilIface] := by kernel_rfl
@[go_sem] theorem Try.xzk20 : zeroOk [Value.nilIface] = true := by kernel_rfl
@[go_sem] theorem Try.xsz21 : Try.prog.szT 21 = some 1 := by kernel_rfl
@[go_sem] theorem Try.xag21 : Try.prog.aggT 21 = some false := by kernel_rfl
@[go_sem] theorem Try.xel21 : Try.prog.elemT 21 = none := by kernel_rfl
@[go_sem] theorem Try.xby21 : Try.prog.bytesT 21 = some 4 := by kernel_rfl
@[go_sem] theorem Try.xze21 : Try.prog.zeroT 21 = some [Value.int IntKind.i32 0] := by kernel_rfl
@[go_sem] theorem Try.xzk21 : zeroOk [Value.int IntKind.i32 0] = true := by kernel_rfl
@[go_sem] theorem Try.xsz22 : Try.prog.szT 22 = some 1 := by kernel_rfl
@[go_sem] theorem Try.xag22 : Try.prog.aggT 22 = some false := by kernel_rfl
@[go_sem] theorem Try.xel22 : Try.prog.elemT 22 = some 5 := by kernel_rfl
@[go_sem] theorem Try.xby22 : Try.prog.bytesT 22 = some 24 := by kernel_rfl
@[go_sem] theorem Try.xze22 : Try.prog.zeroT 22 = some [Value.slice none 0 0] := by kernel_rfl
@[go_sem] theorem Try.xzk22 : zeroOk [Value.slice none 0 0] = true := by kernel_rfl
@[go_sem] theorem Try.xsz23 : Try.prog.szT 23 = some 1 := by kernel_rfl
@[go_sem] theorem Try.xag23 : Try.prog.aggT 23 = some false := by kernel_rfl
@[go_sem] theorem Try.xel23 : Try.prog.elemT 23 = none := by kernel_rfl
@[go_sem] theorem Try.xby23 : Try.prog.bytesT 23 = some 8 := by kernel_rfl
@[go_sem] theorem Try.xze23 : Try.prog.zeroT 23 = some [Value.int IntKind.u64 0] := by kernel_rfl
@[go_sem] theorem Try.xsz24 : Try.prog.szT 24 = some 1 := by kernel_rfl
@[go_sem] theorem Try.xag24 : Try.prog.aggT 24 = some false := by kernel_rfl
@[go_sem] theorem Try.xel24 : Try.prog.elemT 24 = none := by kernel_rfl
@[go_sem] theorem Try.xby24 : Try.prog.bytesT 24 = some 8 := by kernel_rfl
@[go_sem] theorem Try.xze24 : Try.prog.zeroT 24 = some [Value.nilFunc] := by kernel_rfl
@[go_sem] theorem Try.xsz25 : Try.prog.szT 25 = some 1 := by kernel_rfl
@[go_sem] theorem Try.xag25 : Try.prog.aggT 25 = some false := by kernel_rfl
@[go_sem] theorem Try.xel25 : Try.prog.elemT 25 = none := by kernel_rfl
@[go_sem] theorem Try.xby25 : Try.prog.bytesT 25 = some 8 := by kernel_rfl
@[go_sem] theorem Try.xze25 : Try.prog.zeroT 25 = some [Value.nilFunc] := by kernel_rfl
@[go_sem] theorem Try.xsz26 : Try.prog.szT 26 = some 1 := by kernel_rfl
@[go_sem] theorem Try.xag26 : Try.prog.aggT 26 = some false := by kernel_rfl
@[go_sem] theorem Try.xel26 : Try.prog.elemT 26 = none := by kernel_rfl
@[go_sem] theorem Try.xby26 : Try.prog.bytesT 26 = some 8 := by kernel_rfl
@[go_sem] theorem Try.xze26 : Try.prog.zeroT 26 = some [Value.nilFunc] := by kernel_rfl
@[go_sem] theorem Try.xsz27 : Try.prog.szT 27 = some 1 := by kernel_rfl
@[go_sem] theorem Try.xag27 : Try.prog.aggT 27 = some false := by kernel_rfl
@[go_sem] theorem Try.xel27 : Try.prog.elemT 27 = some 37 := by kernel_rfl
@[go_sem] theorem Try.xby27 : Try.prog.bytesT 27 = some 24 := by kernel_rfl
@[go_sem] theorem Try.xze27 : Try.prog.zeroT 27 = some [Value.slice none 0 0] := by kernel_rfl
@[go_sem] theorem Try.xsz28 : Try.prog.szT 28 = some 1 := by kernel_rfl
@[go_sem] theorem Try.xag28 : Try.prog.aggT 28 = some false := by kernel_rfl
@[go_sem] theorem Try.xel28 : Try.prog.elemT 28 = some 39 := by kernel_rfl
@[go_sem] theorem Try.xby28 : Try.prog.bytesT 28 = some 24 := by kernel_rfl
@[go_sem] theorem Try.xze28 : Try.prog.zeroT 28 = some [Value.slice none 0 0] := by kernel_rfl
@[go_sem] theorem Try.xsz29 : Try.prog.szT 29 = some 2 := by kernel_rfl
@[go_sem] theorem Try.xag29 : Try.prog.aggT 29 = some true := by kernel_rfl
@[go_sem] theorem Try.xel29 : Try.prog.elemT 29 = none := by kernel_rfl
@[go_sem] theorem Try.xby29 : Try.prog.bytesT 29 = some 48 := by kernel_rfl
@[go_sem] theorem Try.xpl29 : Try.prog.plT 29 = some [(0, 1), (1, 1)] := by kernel_rfl
@[go_sem] theorem Try.xze29 : Try.prog.zeroT 29 = some [Value.slice none 0 0, Value.slice none 0 0] := by kernel_rfl
@[go_sem] theorem Try.xzk29 : zeroOk [Value.slice none 0 0, Value.slice none 0 0] = true := by kernel_rfl
@[go_sem] theorem Try.xfl29_0 : Try.prog.fldT 29 0 = some (0, 27) := by kernel_rfl
@[go_sem] theorem Try.xfl29_1 : Try.prog.fldT 29 1 = some (1, 28) := by kernel_rfl
@[go_sem] theorem Try.xsz30 : Try.prog.szT 30 = some 2 := by kernel_rfl
@[go_sem] theorem Try.xag30 : Try.prog.aggT 30 = some true := by kernel_rfl
@[go_sem] theorem Try.xel30 : Try.prog.elemT 30 = none := by kernel_rfl
@[go_sem] theorem Try.xby30 : Try.prog.bytesT 30 = some 48 := by kernel_rfl
@[go_sem] theorem Try.xpl30 : Try.prog.plT 30 = some [(0, 1), (1, 1)] := by kernel_rfl
@[go_sem] theorem Try.xze30 : Try.prog.zeroT 30 = some [Value.slice none 0 0, Value.slice none 0 0] := by kernel_rfl
@[go_sem] theorem Try.xfl30_0 : Try.prog.fldT 30 0 = some (0, 27) := by kernel_rfl
@[go_sem] theorem Try.xfl30_1 : Try.prog.fldT 30 1 = some (1, 28) := by kernel_rfl
@[go_sem] theorem Try.xsz31 : Try.prog.szT 31 = some 1 := by kernel_rfl
@[go_sem] theorem Try.xag31 : Try.prog.aggT 31 = some false := by kernel_rfl
@[go_sem] theorem Try.xel31 : Try.prog.elemT 31 = some 3 := by kernel_rfl
@[go_sem] theorem Try.xby31 : Try.prog.bytesT 31 = some 24 := by kernel_rfl
@[go_sem] theorem Try.xze31 : Try.prog.zeroT 31 = some [Value.slice none 0 0] := by kernel_rfl
@[go_sem] theorem Try.xsz32 : Try.prog.szT 32 = some 1 := by kernel_rfl
@[go_sem] theorem Try.xag32 : Try.prog.aggT 32 = some false := by kernel_rfl
@[go_sem] theorem Try.xel32 : Try.prog.elemT 32 = none := by kernel_rfl
@[go_sem] theorem Try.xby32 : Try.prog.bytesT 32 = some 8 := by kernel_rfl
@[go_sem] theorem Try.xze32 : Try.prog.zeroT 32 = some [Value.pointer none] := by kernel_rfl
@[go_sem] theorem Try.xsz33 : Try.prog.szT 33 = some 1 := by kernel_rfl
@[go_sem] theorem Try.xag33 : Try.prog.aggT 33 = some false := by kernel_rfl
@[go_sem] theorem Try.xel33 : Try.prog.elemT 33 = none := by kernel_rfl
@[go_sem] theorem Try.xby33 : Try.prog.bytesT 33 = some 0 := by kernel_rfl
@[go_sem] theorem Try.xsz34 : Try.prog.szT 34 = some 1 := by kernel_rfl
@[go_sem] theorem Try.xag34 : Try.prog.aggT 34 = some false := by kernel_rfl
@[go_sem] theorem Try.xel34 : Try.prog.elemT 34 = none := by kernel_rfl
@[go_sem] theorem Try.xby34 : Try.prog.bytesT 34 = some 8 := by kernel_rfl
@[go_sem] theorem Try.xze34 : Try.prog.zeroT 34 = some [Value.nilFunc] := by kernel_rfl
@[go_sem] theorem Try.xsz35 : Try.prog.szT 35 = some 1 := by kernel_rfl
@[go_sem] theorem Try.xag35 : Try.prog.aggT 35 = some false := by kernel_rfl
@[go_sem] theorem Try.xel35 : Try.prog.elemT 35 = none := by kernel_rfl
@[go_sem] theorem Try.xby35 : Try.prog.bytesT 35 = some 8 := by kernel_rfl
@[go_sem] theorem Try.xze35 : Try.prog.zeroT 35 = some [Value.nilFunc] := by kernel_rfl
@[go_sem] theorem Try.xsz36 : Try.prog.szT 36 = some 3 := by kernel_rfl
@[go_sem] theorem Try.xag36 : Try.prog.aggT 36 = some true := by kernel_rfl
@[go_sem] theorem Try.xel36 : Try.prog.elemT 36 = none := by kernel_rfl
@[go_sem] theorem Try.xby36 : Try.prog.bytesT 36 = some 32 := by kernel_rfl
@[go_sem] theorem Try.xpl36 : Try.prog.plT 36 = some [(0, 1), (1, 1), (2, 1)] := by kernel_rfl
@[go_sem] theorem Try.xze36 : Try.prog.zeroT 36 = some [Value.string ⟨#[]⟩, Value.int IntKind.u64 0, Value.bool false] := by kernel_rfl
@[go_sem] theorem Try.xzk36 : zeroOk [Value.string ⟨#[]⟩, Value.int IntKind.u64 0, Value.bool false] = true := by kernel_rfl
@[go_sem] theorem Try.xfl36_0 : Try.prog.fldT 36 0 = some (0, 9) := by kernel_rfl
@[go_sem] theorem Try.xfl36_1 : Try.prog.fldT 36 1 = some (1, 23) := by kernel_rfl
@[go_sem] theorem Try.xfl36_2 : Try.prog.fldT 36 2 = some (2, 4) := by kernel_rfl
@[go_sem] theorem Try.xsz37 : Try.prog.szT 37 = some 3 := by kernel_rfl
@[go_sem] theorem Try.xag37 : Try.prog.aggT 37 = some true := by kernel_rfl
@[go_sem] theorem Try.xel37 : Try.prog.elemT 37 = none := by kernel_rfl
@[go_sem] theorem Try.xby37 : Try.prog.bytesT 37 = some 32 := by kernel_rfl
@[go_sem] theorem Try.xpl37 : Try.prog.plT 37 = some [(0, 1), (1, 1), (2, 1)] := by kernel_rfl
@[go_sem] theorem Try.xze37 : Try.prog.zeroT 37 = some [Value.string ⟨#[]⟩, Value.int IntKind.u64 0, Value.bool false] := by kernel_rfl
@[go_sem] theorem Try.xfl37_0 : Try.prog.fldT 37 0 = some (0, 9) := by kernel_rfl
@[go_sem] theorem Try.xfl37_1 : Try.prog.fldT 37 1 = some (1, 23) := by kernel_rfl
@[go_sem] theorem Try.xfl37_2 : Try.prog.fldT 37 2 = some (2, 4) := by kernel_rfl
@[go_sem] theorem Try.xsz38 : Try.prog.szT 38 = some 4 := by kernel_rfl
@[go_sem] theorem Try.xag38 : Try.prog.aggT 38 = some true := by kernel_rfl
@[go_sem] theorem Try.xel38 : Try.prog.elemT 38 = none := by kernel_rfl
@[go_sem] theorem Try.xby38 : Try.prog.bytesT 38 = some 56 := by kernel_rfl
@[go_sem] theorem Try.xpl38 : Try.prog.plT 38 = some [(0, 1), (1, 1), (2, 1), (3, 1)] := by kernel_rfl
@[go_sem] theorem Try.xze38 : Try.prog.zeroT 38 = some [Value.string ⟨#[]⟩, Value.string ⟨#[]⟩, Value.int IntKind.u64 0, Value.string ⟨#[]⟩] := by kernel_rfl
@[go_sem] theorem Try.xzk38 : zeroOk [Value.string ⟨#[]⟩, Value.string ⟨#[]⟩, Value.int IntKind.u64 0, Value.string ⟨#[]⟩] = true := by kernel_rfl
@[go_sem] theorem Try.xfl38_0 : Try.prog.fldT 38 0 = some (0, 9) := by kernel_rfl
@[go_sem] theorem Try.xfl38_1 : Try.prog.fldT 38 1 = some (1, 9) := by kernel_rfl
@[go_sem] theorem Try.xfl38_2 : Try.prog.fldT 38 2 = some (2, 23) := by kernel_rfl
@[go_sem] theorem Try.xfl38_3 : Try.prog.fldT 38 3 = some (3, 9) := by kernel_rfl
@[go_sem] theorem Try.xsz39 : Try.prog.szT 39 = some 4 := by kernel_rfl
@[go_sem] theorem Try.xag39 : Try.prog.aggT 39 = some true := by kernel_rfl
@[go_sem] theorem Try.xel39 : Try.prog.elemT 39 = none := by kernel_rfl
@[go_sem] theorem Try.xby39 : Try.prog.bytesT 39 = some 56 := by kernel_rfl
@[go_sem] theorem Try.xpl39 : Try.prog.plT 39 = some [(0, 1), (1, 1), (2, 1), (3, 1)] := by kernel_rfl
@[go_sem] theorem Try.xze39 : Try.prog.zeroT 39 = some [Value.string ⟨#[]⟩, Value.string ⟨#[]⟩, Value.int IntKind.u64 0, Value.string ⟨#[]⟩] := by kernel_rfl
@[go_sem] theorem Try.xfl39_0 : Try.prog.fldT 39 0 = some (0, 9) := by kernel_rfl
@[go_sem] theorem Try.xfl39_1 : Try.prog.fldT 39 1 = some (1, 9) := by kernel_rfl
@[go_sem] theorem Try.xfl39_2 : Try.prog.fldT 39 2 = some (2, 23) := by kernel_rfl
@[go_sem] theorem Try.xfl39_3 : Try.prog.fldT 39 3 = some (3, 9) := by kernel_rfl
@[go_sem] theorem Try.xsz40 : Try.prog.szT 40 = some 1 := by kernel_rfl
@[go_sem] theorem Try.xag40 : Try.prog.aggT 40 = some false := by kernel_rfl
@[go_sem] theorem Try.xel40 : Try.prog.elemT 40 = some 30 := by kernel_rfl
@[go_sem] theorem Try.xby40 : Try.prog.bytesT 40 = some 24 := by kernel_rfl
@[go_sem] theorem Try.xze40 : Try.prog.zeroT 40 = some [Value.slice none 0 0] := by kernel_rfl
@[go_sem] theorem Try.xsz41 : Try.prog.szT 41 = some 1 := by kernel_rfl
@[go_sem] theorem Try.xag41 : Try.prog.aggT 41 = some false := by kernel_rfl
@[go_sem] theorem Try.xel41 : Try.prog.elemT 41 = some 9 := by kernel_rfl
@[go_sem] theorem Try.xby41 : Try.prog.bytesT 41 = some 24 := by kernel_rfl
@[go_sem] theorem Try.xze41 : Try.prog.zeroT 41 = some [Value.slice none 0 0] := by kernel_rfl
@[go_sem] theorem Try.xsz42 : Try.prog.szT 42 = some 1 := by kernel_rfl
@[go_sem] theorem Try.xag42 : Try.prog.aggT 42 = some false := by kernel_rfl
@[go_sem] theorem Try.xel42 : Try.prog.elemT 42 = none := by kernel_rfl
@[go_sem] theorem Try.xby42 : Try.prog.bytesT 42 = some 8 := by kernel_rfl
@[go_sem] theorem Try.xze42 : Try.prog.zeroT 42 = some [Value.nilFunc] := by kernel_rfl
@[go_sem] theorem Try.xsz43 : Try.prog.szT 43 = some 1 := by kernel_rfl
@[go_sem] theorem Try.xag43 : Try.prog.aggT 43 = some false := by kernel_rfl
@[go_sem] theorem Try.xel43 : Try.prog.elemT 43 = none := by kernel_rfl
@[go_sem] theorem Try.xby43 : Try.prog.bytesT 43 = some 8 := by kernel_rfl
@[go_sem] theorem Try.xze43 : Try.prog.zeroT 43 = some [Value.nilFunc] := by kernel_rfl
@[go_sem] theorem Try.xsz44 : Try.prog.szT 44 = some 5 := by kernel_rfl
@[go_sem] theorem Try.xag44 : Try.prog.aggT 44 = some true := by kernel_rfl
@[go_sem] theorem Try.xel44 : Try.prog.elemT 44 = none := by kernel_rfl
@[go_sem] theorem Try.xby44 : Try.prog.bytesT 44 = some 64 := by kernel_rfl
@[go_sem] theorem Try.xpl44 : Try.prog.plT 44 = some [(0, 1), (1, 1), (2, 1), (3, 1), (4, 1)] := by kernel_rfl
@[go_sem] theorem Try.xze44 : Try.prog.zeroT 44 = some [Value.int IntKind.i64 0, Value.string ⟨#[]⟩, Value.string ⟨#[]⟩, Value.string ⟨#[]⟩, Value.int IntKind.u64 0] := by kernel_rfl
@[go_sem] theorem Try.xzk44 : zeroOk [Value.int IntKind.i64 0, Value.string ⟨#[]⟩, Value.string ⟨#[]⟩, Value.string ⟨#[]⟩, Value.int IntKind.u64 0] = true := by kernel_rfl
@[go_sem] theorem Try.xfl44_0 : Try.prog.fldT 44 0 = some (0, 3) := by kernel_rfl
@[go_sem] theorem Try.xfl44_1 : Try.prog.fldT 44 1 = some (1, 9) := by kernel_rfl
@[go_sem] theorem Try.xfl44_2 : Try.prog.fldT 44 2 = some (2, 9) := by kernel_rfl
@[go_sem] theorem Try.xfl44_3 : Try.prog.fldT 44 3 = some (3, 9) := by kernel_rfl
@[go_sem] theorem Try.xfl44_4 : Try.prog.fldT 44 4 = some (4, 23) := by kernel_rfl
@[go_sem] theorem Try.xsz45 : Try.prog.szT 45 = some 5 := by kernel_rfl
@[go_sem] theorem Try.xag45 : Try.prog.aggT 45 = some true := by kernel_rfl
@[go_sem] theorem Try.xel45 : Try.prog.elemT 45 = none := by kernel_rfl
@[go_sem] theorem Try.xby45 : Try.prog.bytesT 45 = some 64 := by kernel_rfl
@[go_sem] theorem Try.xpl45 : Try.prog.plT 45 = some [(0, 1), (1, 1), (2, 1), (3, 1), (4, 1)] := by kernel_rfl
@[go_sem] theorem Try.xze45 : Try.prog.zeroT 45 = some [Value.int IntKind.i64 0, Value.string ⟨#[]⟩, Value.string ⟨#[]⟩, Value.string ⟨#[]⟩, Value.int IntKind.u64 0] := by kernel_rfl
@[go_sem] theorem Try.xfl45_0 : Try.prog.fldT 45 0 = some (0, 3) := by kernel_rfl
@[go_sem] theorem Try.xfl45_1 : Try.prog.fldT 45 1 = some (1, 9) := by kernel_rfl
@[go_sem] theorem Try.xfl45_2 : Try.prog.fldT 45 2 = some (2, 9) := by kernel_rfl
@[go_sem] theorem Try.xfl45_3 : Try.prog.fldT 45 3 = some (3, 9) := by kernel_rfl
@[go_sem] theorem Try.xfl45_4 : Try.prog.fldT 45 4 = some (4, 23) := by kernel_rfl
@[go_sem] theorem Try.xsz46 : Try.prog.szT 46 = some 1 := by kernel_rfl
@[go_sem] theorem Try.xag46 : Try.prog.aggT 46 = some false := by kernel_rfl
@[go_sem] theorem Try.xel46 : Try.prog.elemT 46 = some 45 := by kernel_rfl
@[go_sem] theorem Try.xby46 : Try.prog.bytesT 46 = some 24 := by kernel_rfl
@[go_sem] theorem Try.xze46 : Try.prog.zeroT 46 = some [Value.slice none 0 0] := by kernel_rfl
@[go_sem] theorem Try.xsz47 : Try.prog.szT 47 = some 1 := by kernel_rfl
@[go_sem] theorem Try.xag47 : Try.prog.aggT 47 = some false := by kernel_rfl
@[go_sem] theorem Try.xel47 : Try.prog.elemT 47 = none := by kernel_rfl
@[go_sem] theorem Try.xby47 : Try.prog.bytesT 47 = some 8 := by kernel_rfl
@[go_sem] theorem Try.xze47 : Try.prog.zeroT 47 = some [Value.nilFunc] := by kernel_rfl
@[go_sem] theorem Try.xsz48 : Try.prog.szT 48 = some 1 := by kernel_rfl
@[go_sem] theorem Try.xag48 : Try.prog.aggT 48 = some false := by kernel_rfl
@[go_sem] theorem Try.xel48 : Try.prog.elemT 48 = some 61 := by kernel_rfl
@[go_sem] theorem Try.xby48 : Try.prog.bytesT 48 = some 24 := by kernel_rfl
@[go_sem] theorem Try.xze48 : Try.prog.zeroT 48 = some [Value.slice none 0 0] := by kernel_rfl
@[go_sem] theorem Try.xsz49 : Try.prog.szT 49 = some 1 := by kernel_rfl
@[go_sem] theorem Try.xag49 : Try.prog.aggT 49 = some false := by kernel_rfl
@[go_sem] theorem Try.xel49 : Try.prog.elemT 49 = none := by kernel_rfl
@[go_sem] theorem Try.xby49 : Try.prog.bytesT 49 = some 8 := by kernel_rfl
@[go_sem] theorem Try.xze49 : Try.prog.zeroT 49 = some [Value.int IntKind.i64 0] := by kernel_rfl
@[go_sem] theorem Try.xsz50 : Try.prog.szT 50 = some 1 := by kernel_rfl
@[go_sem] theorem Try.xag50 : Try.prog.aggT 50 = some false := by kernel_rfl
@[go_sem] theorem Try.xel50 : Try.prog.elemT 50 = none := by kernel_rfl
@[go_sem] theorem Try.xby50 : Try.prog.bytesT 50 = some 0 := by kernel_rfl
@[go_sem] theorem Try.xsz51 : Try.prog.szT 51 = some 1 := by kernel_rfl
@[go_sem] theorem Try.xag51 : Try.prog.aggT 51 = some false := by kernel_rfl
@[go_sem] theorem Try.xel51 : Try.prog.elemT 51 = none := by kernel_rfl
@[go_sem] theorem Try.xby51 : Try.prog.bytesT 51 = some 8 := by kernel_rfl
@[go_sem] theorem Try.xze51 : Try.prog.zeroT 51 = some [Value.nilFunc] := by kernel_rfl
@[go_sem] theorem Try.xsz52 : Try.prog.szT 52 = some 1 := by kernel_rfl
@[go_sem] theorem Try.xag52 : Try.prog.aggT 52 = some false := by kernel_rfl
@[go_sem] theorem Try.xel52 : Try.prog.elemT 52 = none := by kernel_rfl
@[go_sem] theorem Try.xby52 : Try.prog.bytesT 52 = some 8 := by kernel_rfl
@[go_sem] theorem Try.xze52 : Try.prog.zeroT 52 = some [Value.nilFunc] := by kernel_rfl
@[go_sem] theorem Try.xsz53 : Try.prog.szT 53 = some 1 := by kernel_rfl
@[go_sem] theorem Try.xag53 : Try.prog.aggT 53 = some false := by kernel_rfl
@[go_sem] theorem Try.xel53 : Try.prog.elemT 53 = none := by kernel_rfl
@[go_sem] theorem Try.xby53 : Try.prog.bytesT 53 = some 8 := by kernel_rfl
@[go_sem] theorem Try.xze53 : Try.prog.zeroT 53 = some [Value.nilFunc] := by kernel_rfl
@[go_sem] theorem Try.xsz54 : Try.prog.szT 54 = some 1 := by kernel_rfl
@[go_sem] theorem Try.xag54 : Try.prog.aggT 54 = some false := by kernel_rfl
@[go_sem] theorem Try.xel54 : Try.prog.elemT 54 = some 49 := by kernel_rfl
@[go_sem] theorem Try.xby54 : Try.prog.bytesT 54 = some 24 := by kernel_rfl
@[go_sem] theorem Try.xze54 : Try.prog.zeroT 54 = some [Value.slice none 0 0] := by kernel_rfl
@[go_sem] theorem Try.xsz55 : Try.prog.szT 55 = some 1 := by kernel_rfl
@[go_sem] theorem Try.xag55 : Try.prog.aggT 55 = some false := by kernel_rfl
@[go_sem] theorem Try.xel55 : Try.prog.elemT 55 = none := by kernel_rfl
@[go_sem] theorem Try.xby55 : Try.prog.bytesT 55 = some 0 := by kernel_rfl
@[go_sem] theorem Try.xsz56 : Try.prog.szT 56 = some 1 := by kernel_rfl
@[go_sem] theorem Try.xag56 : Try.prog.aggT 56 = some false := by kernel_rfl
@[go_sem] theorem Try.xel56 : Try.prog.elemT 56 = none := by kernel_rfl
@[go_sem] theorem Try.xby56 : Try.prog.bytesT 56 = some 8 := by kernel_rfl
@[go_sem] theorem Try.xze56 : Try.prog.zeroT 56 = some [Value.nilFunc] := by kernel_rfl
@[go_sem] theorem Try.xsz57 : Try.prog.szT 57 = some 1 := by kernel_rfl
@[go_sem] theorem Try.xag57 : Try.prog.aggT 57 = some false := by kernel_rfl
@[go_sem] theorem Try.xel57 : Try.prog.elemT 57 = none := by kernel_rfl
@[go_sem] theorem Try.xby57 : Try.prog.bytesT 57 = some 8 := by kernel_rfl
@[go_sem] theorem Try.xze57 : Try.prog.zeroT 57 = some [Value.nilFunc] := by kernel_rfl
@[go_sem] theorem Try.xsz58 : Try.prog.szT 58 = some 1 := by kernel_rfl
@[go_sem] theorem Try.xag58 : Try.prog.aggT 58 = some false := by kernel_rfl
@[go_sem] theorem Try.xel58 : Try.prog.elemT 58 = none := by kernel_rfl
@[go_sem] theorem Try.xby58 : Try.prog.bytesT 58 = some 8 := by kernel_rfl
@[go_sem] theorem Try.xze58 : Try.prog.zeroT 58 = some [Value.nilFunc] := by kernel_rfl
@[go_sem] theorem Try.xsz59 : Try.prog.szT 59 = some 1 := by kernel_rfl
@[go_sem] theorem Try.xag59 : Try.prog.aggT 59 = some false := by kernel_rfl
@[go_sem] theorem Try.xel59 : Try.prog.elemT 59 = none := by kernel_rfl
@[go_sem] theorem Try.xby59 : Try.prog.bytesT 59 = some 8 := by kernel_rfl
@[go_sem] theorem Try.xze59 : Try.prog.zeroT 59 = some [Value.nilFunc] := by kernel_rfl
@[go_sem] theorem Try.xsz60 : Try.prog.szT 60 = some 2 := by kernel_rfl
@[go_sem] theorem Try.xag60 : Try.prog.aggT 60 = some true := by kernel_rfl
@[go_sem] theorem Try.xel60 : Try.prog.elemT 60 = none := by kernel_rfl
@[go_sem] theorem Try.xby60 : Try.prog.bytesT 60 = some 24 := by kernel_rfl
@[go_sem] theorem Try.xpl60 : Try.prog.plT 60 = some [(0, 1), (1, 1)] := by kernel_rfl
@[go_sem] theorem Try.xze60 : Try.prog.zeroT 60 = some [Value.string ⟨#[]⟩, Value.int IntKind.i64 0] := by kernel_rfl
@[go_sem] theorem Try.xzk60 : zeroOk [Value.string ⟨#[]⟩, Value.int IntKind.i64 0] = true := by kernel_rfl
@[go_sem] theorem Try.xfl60_0 : Try.prog.fldT 60 0 = some (0, 9) := by kernel_rfl
@[go_sem] theorem Try.xfl60_1 : Try.prog.fldT 60 1 = some (1, 3) := by kernel_rfl
@[go_sem] theorem Try.xsz61 : Try.prog.szT 61 = some 2 := by kernel_rfl
@[go_sem] theorem Try.xag61 : Try.prog.aggT 61 = some true := by kernel_rfl
@[go_sem] theorem Try.xel61 : Try.prog.elemT 61 = none := by kernel_rfl
@[go_sem] theorem Try.xby61 : Try.prog.bytesT 61 = some 24 := by kernel_rfl
@[go_sem] theorem Try.xpl61 : Try.prog.plT 61 = some [(0, 1), (1, 1)] := by kernel_rfl
@[go_sem] theorem Try.xze61 : Try.prog.zeroT 61 = some [Value.string ⟨#[]⟩, Value.int IntKind.i64 0] := by kernel_rfl
@[go_sem] theorem Try.xfl61_0 : Try.prog.fldT 61 0 = some (0, 9) := by kernel_rfl
@[go_sem] theorem Try.xfl61_1 : Try.prog.fldT 61 1 = some (1, 3) := by kernel_rfl
@[go_sem] theorem Try.xsz62 : Try.prog.szT 62 = some 1 := by kernel_rfl
@[go_sem] theorem Try.xag62 : Try.prog.aggT 62 = some false := by kernel_rfl
@[go_sem] theorem Try.xel62 : Try.prog.elemT 62 = none := by kernel_rfl
@[go_sem] theorem Try.xby62 : Try.prog.bytesT 62 = some 8 := by kernel_rfl
@[go_sem] theorem Try.xze62 : Try.prog.zeroT 62 = some [Value.nilFunc] := by kernel_rfl
@[go_sem] theorem Try.xsz63 : Try.prog.szT 63 = some 1 := by kernel_rfl
@[go_sem] theorem Try.xag63 : Try.prog.aggT 63 = some false := by kernel_rfl
@[go_sem] theorem Try.xel63 : Try.prog.elemT 63 = none := by kernel_rfl
@[go_sem] theorem Try.xby63 : Try.prog.bytesT 63 = some 8 := by kernel_rfl
@[go_sem] theorem Try.xze63 : Try.prog.zeroT 63 = some [Value.nilFunc] := by kernel_rfl
@[go_sem] theorem Try.xsz64 : Try.prog.szT 64 = some 2 := by kernel_rfl
@[go_sem] theorem Try.xag64 : Try.prog.aggT 64 = some true := by kernel_rfl
@[go_sem] theorem Try.xel64 : Try.prog.elemT 64 = none := by kernel_rfl
@[go_sem] theorem Try.xby64 : Try.prog.bytesT 64 = some 32 := by kernel_rfl
@[go_sem] theorem Try.xpl64 : Try.prog.plT 64 = some [(0, 1), (1, 1)] := by kernel_rfl
@[go_sem] theorem Try.xze64 : Try.prog.zeroT 64 = some [Value.slice none 0 0, Value.int IntKind.i64 0] := by kernel_rfl
@[go_sem] theorem Try.xzk64 : zeroOk [Value.slice none 0 0, Value.int IntKind.i64 0] = true := by kernel_rfl
@[go_sem] theorem Try.xfl64_0 : Try.prog.fldT 64 0 = some (0, 31) := by kernel_rfl
@[go_sem] theorem Try.xfl64_1 : Try.prog.fldT 64 1 = some (1, 3) := by kernel_rfl
@[go_sem] theorem Try.xsz65 : Try.prog.szT 65 = some 2 := by kernel_rfl
@[go_sem] theorem Try.xag65 : Try.prog.aggT 65 = some true := by kernel_rfl
@[go_sem] theorem Try.xel65 : Try.prog.elemT 65 = none := by kernel_rfl
@[go_sem] theorem Try.xby65 : Try.prog.bytesT 65 = some 32 := by kernel_rfl
@[go_sem] theorem Try.xpl65 : Try.prog.plT 65 = some [(0, 1), (1, 1)] := by kernel_rfl
@[go_sem] theorem Try.xze65 : Try.prog.zeroT 65 = some [Value.slice none 0 0, Value.int IntKind.i64 0] := by kernel_rfl
@[go_sem] theorem Try.xfl65_0 : Try.prog.fldT 65 0 = some (0, 31) := by kernel_rfl
@[go_sem] theorem Try.xfl65_1 : Try.prog.fldT 65 1 = some (1, 3) := by kernel_rfl
@[go_sem] theorem Try.xsz66 : Try.prog.szT 66 = some 1 := by kernel_rfl
@[go_sem] theorem Try.xag66 : Try.prog.aggT 66 = some false := by kernel_rfl
@[go_sem] theorem Try.xel66 : Try.prog.elemT 66 = none := by kernel_rfl
@[go_sem] theorem Try.xby66 : Try.prog.bytesT 66 = some 8 := by kernel_rfl
@[go_sem] theorem Try.xze66 : Try.prog.zeroT 66 = some [Value.map none] := by kernel_rfl
@[go_sem] theorem Try.xzk66 : zeroOk [Value.map none] = true := by kernel_rfl
@[go_sem] theorem Try.xsz67 : Try.prog.szT 67 = some 1 := by kernel_rfl
@[go_sem] theorem Try.xag67 : Try.prog.aggT 67 = some false := by kernel_rfl
@[go_sem] theorem Try.xel67 : Try.prog.elemT 67 = none := by kernel_rfl
@[go_sem] theorem Try.xby67 : Try.prog.bytesT 67 = some 8 := by kernel_rfl
@[go_sem] theorem Try.xze67 : Try.prog.zeroT 67 = some [Value.nilFunc] := by kernel_rfl
@[go_sem] theorem Try.xsz68 : Try.prog.szT 68 = some 1 := by kernel_rfl
@[go_sem] theorem Try.xag68 : Try.prog.aggT 68 = some false := by kernel_rfl
@[go_sem] theorem Try.xel68 : Try.prog.elemT 68 = none := by kernel_rfl
@[go_sem] theorem Try.xby68 : Try.prog.bytesT 68 = some 8 := by kernel_rfl
@[go_sem] theorem Try.xze68 : Try.prog.zeroT 68 = some [Value.nilFunc] := by kernel_rfl
@[go_sem] theorem Try.xsz69 : Try.prog.szT 69 = some 1 := by kernel_rfl
@[go_sem] theorem Try.xag69 : Try.prog.aggT 69 = some false := by kernel_rfl
@[go_sem] theorem Try.xel69 : Try.prog.elemT 69 = none := by kernel_rfl
@[go_sem] theorem Try.xby69 : Try.prog.bytesT 69 = some 8 := by kernel_rfl
@[go_sem] theorem Try.xze69 : Try.prog.zeroT 69 = some [Value.nilFunc] := by kernel_rfl
@[go_sem] theorem Try.xsz70 : Try.prog.szT 70 = some 1 := by kernel_rfl
@[go_sem] theorem Try.xag70 : Try.prog.aggT 70 = some false := by kernel_rfl
@[go_sem] theorem Try.xel70 : Try.prog.elemT 70 = none := by kernel_rfl
@[go_sem] theorem Try.xby70 : Try.prog.bytesT 70 = some 8 := by kernel_rfl
@[go_sem] theorem Try.xze70 : Try.prog.zeroT 70 = some [Value.nilFunc] := by kernel_rfl
@[go_sem] theorem Try.xsz71 : Try.prog.szT 71 = some 1 := by kernel_rfl
@[go_sem] theorem Try.xag71 : Try.prog.aggT 71 = some false := by kernel_rfl
@[go_sem] theorem Try.xel71 : Try.prog.elemT 71 = none := by kernel_rfl
@[go_sem] theorem Try.xby71 : Try.prog.bytesT 71 = some 8 := by kernel_rfl
@[go_sem] theorem Try.xze71 : Try.prog.zeroT 71 = some [Value.nilFunc] := by kernel_rfl
@[go_sem] theorem Try.xsz72 : Try.prog.szT 72 = some 1 := by kernel_rfl
@[go_sem] theorem Try.xag72 : Try.prog.aggT 72 = some false := by kernel_rfl
@[go_sem] theorem Try.xel72 : Try.prog.elemT 72 = none := by kernel_rfl
@[go_sem] theorem Try.xby72 : Try.prog.bytesT 72 = some 8 := by kernel_rfl
@[go_sem] theorem Try.xze72 : Try.prog.zeroT 72 = some [Value.nilFunc] := by kernel_rfl
@[go_sem] theorem Try.xsz73 : Try.prog.szT 73 = some 1 := by kernel_rfl
@[go_sem] theorem Try.xag73 : Try.prog.aggT 73 = some false := by kernel_rfl
@[go_sem] theorem Try.xel73 : Try.prog.elemT 73 = none := by kernel_rfl
@[go_sem] theorem Try.xby73 : Try.prog.bytesT 73 = some 8 := by kernel_rfl
@[go_sem] theorem Try.xze73 : Try.prog.zeroT 73 = some [Value.nilFunc] := by kernel_rfl
@[go_sem] theorem Try.xsz74 : Try.prog.szT 74 = some 1 := by kernel_rfl
@[go_sem] theorem Try.xag74 : Try.prog.aggT 74 = some false := by kernel_rfl
@[go_sem] theorem Try.xel74 : Try.prog.elemT 74 = none := by kernel_rfl
@[go_sem] theorem Try.xby74 : Try.prog.bytesT 74 = some 8 := by kernel_rfl
@[go_sem] theorem Try.xze74 : Try.prog.zeroT 74 = some [Value.nilFunc] := by kernel_rfl
@[go_sem] theorem Try.xsz75 : Try.prog.szT 75 = some 1 := by kernel_rfl
@[go_sem] theorem Try.xag75 : Try.prog.aggT 75 = some false := by kernel_rfl
@[go_sem] theorem Try.xel75 : Try.prog.elemT 75 = none := by kernel_rfl
@[go_sem] theorem Try.xby75 : Try.prog.bytesT 75 = some 8 := by kernel_rfl
@[go_sem] theorem Try.xze75 : Try.prog.zeroT 75 = some [Value.pointer none] := by kernel_rfl
@[go_sem] theorem Try.xsz76 : Try.prog.szT 76 = some 1 := by kernel_rfl
@[go_sem] theorem Try.xag76 : Try.prog.aggT 76 = some false := by kernel_rfl
@[go_sem] theorem Try.xel76 : Try.prog.elemT 76 = none := by kernel_rfl
@[go_sem] theorem Try.xby76 : Try.prog.bytesT 76 = some 8 := by kernel_rfl
@[go_sem] theorem Try.xze76 : Try.prog.zeroT 76 = some [Value.nilFunc] := by kernel_rfl
@[go_sem] theorem Try.xsz77 : Try.prog.szT 77 = some 1 := by kernel_rfl
@[go_sem] theorem Try.xag77 : Try.prog.aggT 77 = some false := by kernel_rfl
@[go_sem] theorem Try.xel77 : Try.prog.elemT 77 = none := by kernel_rfl
@[go_sem] theorem Try.xby77 : Try.prog.bytesT 77 = some 8 := by kernel_rfl
@[go_sem] theorem Try.xze77 : Try.prog.zeroT 77 = some [Value.nilFunc] := by kernel_rfl
@[go_sem] theorem Try.xsz78 : Try.prog.szT 78 = some 1 := by kernel_rfl
@[go_sem] theorem Try.xag78 : Try.prog.aggT 78 = some false := by kernel_rfl
@[go_sem] theorem Try.xel78 : Try.prog.elemT 78 = none := by kernel_rfl
@[go_sem] theorem Try.xby78 : Try.prog.bytesT 78 = some 8 := by kernel_rfl
@[go_sem] theorem Try.xze78 : Try.prog.zeroT 78 = some [Value.nilFunc] := by kernel_rfl
@[go_sem] theorem Try.xsz79 : Try.prog.szT 79 = some 1 := by kernel_rfl
@[go_sem] theorem Try.xag79 : Try.prog.aggT 79 = some false := by kernel_rfl
@[go_sem] theorem Try.xel79 : Try.prog.elemT 79 = none := by kernel_rfl
@[go_sem] theorem Try.xby79 : Try.prog.bytesT 79 = some 8 := by kernel_rfl
@[go_sem] theorem Try.xze79 : Try.prog.zeroT 79 = some [Value.nilFunc] := by kernel_rfl
@[go_sem] theorem Try.xsz80 : Try.prog.szT 80 = some 1 := by kernel_rfl
@[go_sem] theorem Try.xag80 : Try.prog.aggT 80 = some false := by kernel_rfl
@[go_sem] theorem Try.xel80 : Try.prog.elemT 80 = none := by kernel_rfl
@[go_sem] theorem Try.xby80 : Try.prog.bytesT 80 = some 8 := by kernel_rfl
@[go_sem] theorem Try.xze80 : Try.prog.zeroT 80 = some [Value.nilFunc] := by kernel_rfl
@[go_sem] theorem Try.xsz81 : Try.prog.szT 81 = some 1 := by kernel_rfl
@[go_sem] theorem Try.xag81 : Try.prog.aggT 81 = some false := by kernel_rfl
@[go_sem] theorem Try.xel81 : Try.prog.elemT 81 = none := by kernel_rfl
@[go_sem] theorem Try.xby81 : Try.prog.bytesT 81 = some 8 := by kernel_rfl
@[go_sem] theorem Try.xze81 : Try.prog.zeroT 81 = some [Value.nilFunc] := by kernel_rfl
@[go_sem] theorem Try.xsz82 : Try.prog.szT 82 = some 1 := by kernel_rfl
@[go_sem] theorem Try.xag82 : Try.prog.aggT 82 = some false := by kernel_rfl
@[go_sem] theorem Try.xel82 : Try.prog.elemT 82 = none := by kernel_rfl
@[go_sem] theorem Try.xby82 : Try.prog.bytesT 82 = some 8 := by kernel_rfl
@[go_sem] theorem Try.xze82 : Try.prog.zeroT 82 = some [Value.nilFunc] := by kernel_rfl
@[go_sem] theorem Try.xsz83 : Try.prog.szT 83 = some 1 := by kernel_rfl
@[go_sem] theorem Try.xag83 : Try.prog.aggT 83 = some false := by kernel_rfl
@[go_sem] theorem Try.xel83 : Try.prog.elemT 83 = none := by kernel_rfl
@[go_sem] theorem Try.xby83 : Try.prog.bytesT 83 = some 0 := by kernel_rfl
@[go_sem] theorem Try.xsz84 : Try.prog.szT 84 = some 1 := by kernel_rfl
@[go_sem] theorem Try.xag84 : Try.prog.aggT 84 = some false := by kernel_rfl
@[go_sem] theorem Try.xel84 : Try.prog.elemT 84 = none := by kernel_rfl
@[go_sem] theorem Try.xby84 : Try.prog.bytesT 84 = some 8 := by kernel_rfl
@[go_sem] theorem Try.xze84 : Try.prog.zeroT 84 = some [Value.nilFunc] := by kernel_rfl
@[go_sem] theorem Try.xsz85 : Try.prog.szT 85 = some 1 := by kernel_rfl
@[go_sem] theorem Try.xag85 : Try.prog.aggT 85 = some false := by kernel_rfl
@[go_sem] theorem Try.xel85 : Try.prog.elemT 85 = none := by kernel_rfl
@[go_sem] theorem Try.xby85 : Try.prog.bytesT 85 = some 8 := by kernel_rfl
@[go_sem] theorem Try.xze85 : Try.prog.zeroT 85 = some [Value.nilFunc] := by kernel_rfl
@[go_sem] theorem Try.xsz86 : Try.prog.szT 86 = some 4 := by kernel_rfl
@[go_sem] theorem Try.xag86 : Try.prog.aggT 86 = some true := by kernel_rfl
@[go_sem] theorem Try.xel86 : Try.prog.elemT 86 = none := by kernel_rfl
@[go_sem] theorem Try.xby86 : Try.prog.bytesT 86 = some 40 := by kernel_rfl
@[go_sem] theorem Try.xpl86 : Try.prog.plT 86 = some [(0, 1), (1, 1), (2, 1), (3, 1)] := by kernel_rfl
@[go_sem] theorem Try.xze86 : Try.prog.zeroT 86 = some [Value.pointer none, Value.pointer none, Value.pointer none, Value.string ⟨#[]⟩] := by kernel_rfl
@[go_sem] theorem Try.xzk86 : zeroOk [Value.pointer none, Value.pointer none, Value.pointer none, Value.string ⟨#[]⟩] = true := by kernel_rfl
@[go_sem] theorem Try.xfl86_0 : Try.prog.fldT 86 0 = some (0, 17) := by kernel_rfl
@[go_sem] theorem Try.xfl86_1 : Try.prog.fldT 86 1 = some (1, 17) := by kernel_rfl
@[go_sem] theorem Try.xfl86_2 : Try.prog.fldT 86 2 = some (2, 17) := by kernel_rfl
@[go_sem] theorem Try.xfl86_3 : Try.prog.fldT 86 3 = some (3, 9) := by kernel_rfl
@[go_sem] theorem Try.xsz87 : Try.prog.szT 87 = some 4 := by kernel_rfl
@[go_sem] theorem Try.xag87 : Try.prog.aggT 87 = some true := by kernel_rfl
@[go_sem] theorem Try.xel87 : Try.prog.elemT 87 = none := by kernel_rfl
@[go_sem] theorem Try.xby87 : Try.prog.bytesT 87 = some 40 := by kernel_rfl
@[go_sem] theorem Try.xpl87 : Try.prog.plT 87 = some [(0, 1), (1, 1), (2, 1), (3, 1)] := by kernel_rfl
@[go_sem] theorem Try.xze87 : Try.prog.zeroT 87 = some [Value.pointer none, Value.pointer none, Value.pointer none, Value.string ⟨#[]⟩] := by kernel_rfl
@[go_sem] theorem Try.xfl87_0 : Try.prog.fldT 87 0 = some (0, 17) := by kernel_rfl
@[go_sem] theorem Try.xfl87_1 : Try.prog.fldT 87 1 = some (1, 17) := by kernel_rfl
@[go_sem] theorem Try.xfl87_2 : Try.prog.fldT 87 2 = some (2, 17) := by kernel_rfl
@[go_sem] theorem Try.xfl87_3 : Try.prog.fldT 87 3 = some (3, 9) := by kernel_rfl
@[go_sem] theorem Try.xsz88 : Try.prog.szT 88 = some 0 := by kernel_rfl
@[go_sem] theorem Try.xag88 : Try.prog.aggT 88 = some true := by kernel_rfl
@[go_sem] theorem Try.xel88 : Try.prog.elemT 88 = none := by kernel_rfl
@[go_sem] theorem Try.xby88 : Try.prog.bytesT 88 = some 0 := by kernel_rfl
@[go_sem] theorem Try.xpl88 : Try.prog.plT 88 = some [] := by kernel_rfl
@[go_sem] theorem Try.xze88 : Try.prog.zeroT 88 = some [] := by kernel_rfl
@[go_sem] theorem Try.xzk88 : zeroOk [] = true := by kernel_rfl
@[go_sem] theorem Try.xsz89 : Try.prog.szT 89 = some 0 := by kernel_rfl
@[go_sem] theorem Try.xag89 : Try.prog.aggT 89 = some true := by kernel_rfl
@[go_sem] theorem Try.xel89 : Try.prog.elemT 89 = none := by kernel_rfl
@[go_sem] theorem Try.xby89 : Try.prog.bytesT 89 = some 0 := by kernel_rfl
@[go_sem] theorem Try.xpl89 : Try.prog.plT 89 = some [(0, 0)] := by kernel_rfl
@[go_sem] theorem Try.xze89 : Try.prog.zeroT 89 = some [] := by kernel_rfl
@[go_sem] theorem Try.xfl89_0 : Try.prog.fldT 89 0 = some (0, 88) := by kernel_rfl
@[go_sem] theorem Try.xsz90 : Try.prog.szT 90 = some 0 := by kernel_rfl
@[go_sem] theorem Try.xag90 : Try.prog.aggT 90 = some true := by kernel_rfl
@[go_sem] theorem Try.xel90 : Try.prog.elemT 90 = none := by kernel_rfl
@[go_sem] theorem Try.xby90 : Try.prog.bytesT 90 = some 0 := by kernel_rfl
@[go_sem] theorem Try.xpl90 : Try.prog.plT 90 = some [(0, 0)] := by kernel_rfl
@[go_sem] theorem Try.xze90 : Try.prog.zeroT 90 = some [] := by kernel_rfl
@[go_sem] theorem Try.xfl90_0 : Try.prog.fldT 90 0 = some (0, 88) := by kernel_rfl
@[go_sem] theorem Try.xsz91 : Try.prog.szT 91 = some 1 := by kernel_rfl
@[go_sem] theorem Try.xag91 : Try.prog.aggT 91 = some false := by kernel_rfl
@[go_sem] theorem Try.xel91 : Try.prog.elemT 91 = none := by kernel_rfl
@[go_sem] theorem Try.xby91 : Try.prog.bytesT 91 = some 8 := by kernel_rfl
@[go_sem] theorem Try.xze91 : Try.prog.zeroT 91 = some [Value.nilFunc] := by kernel_rfl
@[go_sem] theorem Try.xsz92 : Try.prog.szT 92 = some 1 := by kernel_rfl
@[go_sem] theorem Try.xag92 : Try.prog.aggT 92 = some false := by kernel_rfl
@[go_sem] theorem Try.xel92 : Try.prog.elemT 92 = none := by kernel_rfl
@[go_sem] theorem Try.xby92 : Try.prog.bytesT 92 = some 4 := by kernel_rfl
@[go_sem] theorem Try.xze92 : Try.prog.zeroT 92 = some [Value.int IntKind.u32 0] := by kernel_rfl
@[go_sem] theorem Try.xzk92 : zeroOk [Value.int IntKind.u32 0] = true := by kernel_rfl
@[go_sem] theorem Try.xsz93 : Try.prog.szT 93 = some 1 := by kernel_rfl
@[go_sem] theorem Try.xag93 : Try.prog.aggT 93 = some false := by kernel_rfl
@[go_sem] theorem Try.xel93 : Try.prog.elemT 93 = none := by kernel_rfl
@[go_sem] theorem Try.xby93 : Try.prog.bytesT 93 = some 1 := by kernel_rfl
@[go_sem] theorem Try.xze93 : Try.prog.zeroT 93 = some [Value.int IntKind.u8 0] := by kernel_rfl
@[go_sem] theorem Try.xsz94 : Try.prog.szT 94 = some 1 := by kernel_rfl
@[go_sem] theorem Try.xag94 : Try.prog.aggT 94 = some false := by kernel_rfl
@[go_sem] theorem Try.xel94 : Try.prog.elemT 94 = none := by kernel_rfl
@[go_sem] theorem Try.xby94 : Try.prog.bytesT 94 = some 1 := by kernel_rfl
@[go_sem] theorem Try.xze94 : Try.prog.zeroT 94 = some [Value.int IntKind.u8 0] := by kernel_rfl
@[go_sem] theorem Try.xsz95 : Try.prog.szT 95 = some 1 := by kernel_rfl
@[go_sem] theorem Try.xag95 : Try.prog.aggT 95 = some false := by kernel_rfl
@[go_sem] theorem Try.xel95 : Try.prog.elemT 95 = none := by kernel_rfl
@[go_sem] theorem Try.xby95 : Try.prog.bytesT 95 = some 8 := by kernel_rfl
@[go_sem] theorem Try.xze95 : Try.prog.zeroT 95 = some [Value.nilFunc] := by kernel_rfl
@[go_sem] theorem Try.xsz96 : Try.prog.szT 96 = some 1 := by kernel_rfl
@[go_sem] theorem Try.xag96 : Try.prog.aggT 96 = some false := by kernel_rfl
@[go_sem] theorem Try.xel96 : Try.prog.elemT 96 = none := by kernel_rfl
@[go_sem] theorem Try.xby96 : Try.prog.bytesT 96 = some 8 := by kernel_rfl
@[go_sem] theorem Try.xze96 : Try.prog.zeroT 96 = some [Value.pointer none] := by kernel_rfl
@[go_sem] theorem Try.xsz97 : Try.prog.szT 97 = some 1 := by kernel_rfl
@[go_sem] theorem Try.xag97 : Try.prog.aggT 97 = some false := by kernel_rfl
@[go_sem] theorem Try.xel97 : Try.prog.elemT 97 = none := by kernel_rfl
@[go_sem] theorem Try.xby97 : Try.prog.bytesT 97 = some 4 := by kernel_rfl
@[go_sem] theorem Try.xze97 : Try.prog.zeroT 97 = some [Value.int IntKind.i32 0] := by kernel_rfl
@[go_sem] theorem Try.xsz98 : Try.prog.szT 98 = some 1 := by kernel_rfl
@[go_sem] theorem Try.xag98 : Try.prog.aggT 98 = some false := by kernel_rfl
@[go_sem] theorem Try.xel98 : Try.prog.elemT 98 = none := by kernel_rfl
@[go_sem] theorem Try.xby98 : Try.prog.bytesT 98 = some 4 := by kernel_rfl
@[go_sem] theorem Try.xze98 : Try.prog.zeroT 98 = some [Value.int IntKind.i32 0] := by kernel_rfl
@[go_sem] theorem Try.xsz99 : Try.prog.szT 99 = some 11 := by kernel_rfl
@[go_sem] theorem Try.xag99 : Try.prog.aggT 99 = some true := by kernel_rfl
@[go_sem] theorem Try.xel99 : Try.prog.elemT 99 = none := by kernel_rfl
@[go_sem] theorem Try.xby99 : Try.prog.bytesT 99 = some 48 := by kernel_rfl
@[go_sem] theorem Try.xpl99 : Try.prog.plT 99 = some [(0, 1), (1, 1), (2, 1), (3, 1), (4, 1), (5, 1), (6, 1), (7, 1), (8, 1), (9, 1), (10, 1)] := by kernel_rfl
@[go_sem] theorem Try.xze99 : Try.prog.zeroT 99 = some [Value.int IntKind.u64 0, Value.int IntKind.u64 0, Value.int IntKind.u32 0, Value.int IntKind.u8 0, Value.int IntKind.u8 0, Value.int IntKind.u8 0, Value.int IntKind.u8 0, Value.nilFunc, Value.pointer none, Value.int IntKind.i32 0, Value.int IntKind.i32 0] := by kernel_rfl
@[go_sem] theorem Try.xzk99 : zeroOk [Value.int IntKind.u64 0, Value.int IntKind.u64 0, Value.int IntKind.u32 0, Value.int IntKind.u8 0, Value.int IntKind.u8 0, Value.int IntKind.u8 0, Value.int IntKind.u8 0, Value.nilFunc, Value.pointer none, Value.int IntKind.i32 0, Value.int IntKind.i32 0] = true := by kernel_rfl
@[go_sem] theorem Try.xfl99_0 : Try.prog.fldT 99 0 = some (0, 12) := by kernel_rfl
@[go_sem] theorem Try.xfl99_1 : Try.prog.fldT 99 1 = some (1, 12) := by kernel_rfl
@[go_sem] theorem Try.xfl99_2 : Try.prog.fldT 99 2 = some (2, 92) := by kernel_rfl
@[go_sem] theorem Try.xfl99_3 : Try.prog.fldT 99 3 = some (3, 93) := by kernel_rfl
@[go_sem] theorem Try.xfl99_4 : Try.prog.fldT 99 4 = some (4, 5) := by kernel_rfl
@[go_sem] theorem Try.xfl99_5 : Try.prog.fldT 99 5 = some (5, 5) := by kernel_rfl
@[go_sem] theorem Try.xfl99_6 : Try.prog.fldT 99 6 = some (6, 94) := by kernel_rfl
@[go_sem] theorem Try.xfl99_7 : Try.prog.fldT 99 7 = some (7, 95) := by kernel_rfl
@[go_sem] theorem Try.xfl99_8 : Try.prog.fldT 99 8 = some (8, 96) := by kernel_rfl
@[go_sem] theorem Try.xfl99_9 : Try.prog.fldT 99 9 = some (9, 97) := by kernel_rfl
@[go_sem] theorem Try.xfl99_10 : Try.prog.fldT 99 10 = some (10, 98) := by kernel_rfl
@[go_sem] theorem Try.xsz100 : Try.prog.szT 100 = some 11 := by kernel_rfl
@[go_sem] theorem Try.xag100 : Try.prog.aggT 100 = some true := by kernel_rfl
@[go_sem] theorem Try.xel100 : Try.prog.elemT 100 = none := by kernel_rfl
@[go_sem] theorem Try.xby100 : Try.prog.bytesT 100 = some 48 := by kernel_rfl
@[go_sem] theorem Try.xpl100 : Try.prog.plT 100 = some [(0, 1), (1, 1), (2, 1), (3, 1), (4, 1), (5, 1), (6, 1), (7, 1), (8, 1), (9, 1), (10, 1)] := by kernel_rfl
@[go_sem] theorem Try.xze100 : Try.prog.zeroT 100 = some [Value.int IntKind.u64 0, Value.int IntKind.u64 0, Value.int IntKind.u32 0, Value.int IntKind.u8 0, Value.int IntKind.u8 0, Value.int IntKind.u8 0, Value.int IntKind.u8 0, Value.nilFunc, Value.pointer none, Value.int IntKind.i32 0, Value.int IntKind.i32 0] := by kernel_rfl
@[go_sem] theorem Try.xfl100_0 : Try.prog.fldT 100 0 = some (0, 12) := by kernel_rfl
@[go_sem] theorem Try.xfl100_1 : Try.prog.fldT 100 1 = some (1, 12) := by kernel_rfl
@[go_sem] theorem Try.xfl100_2 : Try.prog.fldT 100 2 = some (2, 92) := by kernel_rfl
@[go_sem] theorem Try.xfl100_3 : Try.prog.fldT 100 3 = some (3, 93) := by kernel_rfl
@[go_sem] theorem Try.xfl100_4 : Try.prog.fldT 100 4 = some (4, 5) := by kernel_rfl
@[go_sem] theorem Try.xfl100_5 : Try.prog.fldT 100 5 = some (5, 5) := by kernel_rfl
@[go_sem] theorem Try.xfl100_6 : Try.prog.fldT 100 6 = some (6, 94) := by kernel_rfl
@[go_sem] theorem Try.xfl100_7 : Try.prog.fldT 100 7 = some (7, 95) := by kernel_rfl
@[go_sem] theorem Try.xfl100_8 : Try.prog.fldT 100 8 = some (8, 96) := by kernel_rfl
@[go_sem] theorem Try.xfl100_9 : Try.prog.fldT 100 9 = some (9, 97) := by kernel_rfl
@[go_sem] theorem Try.xfl100_10 : Try.prog.fldT 100 10 = some (10, 98) := by kernel_rfl
@[go_sem] theorem Try.xsz101 : Try.prog.szT 101 = some 1 := by kernel_rfl
@[go_sem] theorem Try.xag101 : Try.prog.aggT 101 = some false := by kernel_rfl
@[go_sem] theorem Try.xel101 : Try.prog.elemT 101 = none := by kernel_rfl
@[go_sem] theorem Try.xby101 : Try.prog.bytesT 101 = some 8 := by kernel_rfl
@[go_sem] theorem Try.xze101 : Try.prog.zeroT 101 = some [Value.pointer none] := by kernel_rfl
attribute [go_sem] Try.underlying0 Try.underlying1 Try.underlying2 Try.underlying3 Try.underlying4 Try.underlying5 Try.underlying6 Try.underlying7 Try.underlying8 Try.underlying9 Try.underlying10 Try.underlying11 Try.underlying12 Try.underlying13 Try.underlying14 Try.underlying15 Try.underlying16 Try.underlying17 Try.underlying18 Try.underlying19 Try.underlying20 Try.underlying21 Try.underlying22 Try.underlying23 Try.underlying24 Try.underlying25 Try.underlying26 Try.underlying27 Try.underlying28 Try.underlying29 Try.underlying30 Try.underlying31 Try.underlying32 Try.underlying33 Try.underlying34 Try.underlying35 Try.underlying36 Try.underlying37 Try.underlying38 Try.underlying39 Try.underlying40 Try.underlying41 Try.underlying42 Try.underlying43 Try.underlying44 Try.underlying45 Try.underlying46 Try.underlying47 Try.underlying48 Try.underlying49 Try.underlying50 Try.underlying51 Try.underlying52 Try.underlying53 Try.underlying54 Try.underlying55 Try.underlying56 Try.underlying57 Try.underlying58 Try.underlying59 Try.underlying60 Try.underlying61 Try.underlying62 Try.underlying63 Try.underlying64 Try.underlying65 Try.underlying66 Try.underlying67 Try.underlying68 Try.underlying69 Try.underlying70 Try.underlying71 Try.underlying72 Try.underlying73 Try.underlying74 Try.underlying75 Try.underlying76 Try.underlying77 Try.underlying78 Try.underlying79 Try.underlying80 Try.underlying81 Try.underlying82 Try.underlying83 Try.underlying84 Try.underlying85 Try.underlying86 Try.underlying87 Try.underlying88 Try.underlying89 Try.underlying90 Try.underlying91 Try.underlying92 Try.underlying93 Try.underlying94 Try.underlying95 Try.underlying96 Try.underlying97 Try.underlying98 Try.underlying99 Try.underlying100 Try.underlying101
@[go_sem] theorem Try.xio2 : Try.prog.ioF 2 = false := by kernel_rfl
theorem Try.xen2 : Try.prog.enters 2 = true := by kernel_rfl
@[go_sem] theorem Try.xio3 : Try.prog.ioF 3 = false := by kernel_rfl
theorem Try.xen3 : Try.prog.enters 3 = true := by kernel_rfl
@[go_sem] theorem Try.xio4 : Try.prog.ioF 4 = false := by kernel_rfl
theorem Try.xen4 : Try.prog.enters 4 = true := by kernel_rfl
@[go_sem] theorem Try.xio5 : Try.prog.ioF 5 = false := by kernel_rfl
theorem Try.xen5 : Try.prog.enters 5 = true := by kernel_rfl
@[go_sem] theorem Try.xio6 : Try.prog.ioF 6 = false := by kernel_rfl
theorem Try.xen6 : Try.prog.enters 6 = true := by kernel_rfl
@[go_sem] theorem Try.xio7 : Try.prog.ioF 7 = false := by kernel_rfl
theorem Try.xen7 : Try.prog.enters 7 = true := by kernel_rfl
@[go_sem] theorem Try.xio8 : Try.prog.ioF 8 = false := by kernel_rfl
theorem Try.xen8 : Try.prog.enters 8 = true := by kernel_rfl
@[go_sem] theorem Try.xio9 : Try.prog.ioF 9 = false := by kernel_rfl
theorem Try.xen9 : Try.prog.enters 9 = true := by kernel_rfl
@[go_sem] theorem Try.xio10 : Try.prog.ioF 10 = false := by kernel_rfl
theorem Try.xen10 : Try.prog.enters 10 = true := by kernel_rfl
@[go_sem] theorem Try.xio11 : Try.prog.ioF 11 = false := by kernel_rfl
theorem Try.xen11 : Try.prog.enters 11 = true := by kernel_rfl
@[go_sem] theorem Try.xio12 : Try.prog.ioF 12 = true := by kernel_rfl
theorem Try.xen12 : Try.prog.enters 12 = true := by kernel_rfl
@[go_sem] theorem Try.xio13 : Try.prog.ioF 13 = false := by kernel_rfl
theorem Try.xen13 : Try.prog.enters 13 = true := by kernel_rfl
@[go_sem] theorem Try.xio14 : Try.prog.ioF 14 = false := by kernel_rfl
theorem Try.xen14 : Try.prog.enters 14 = true := by kernel_rfl
@[go_sem] theorem Try.xio15 : Try.prog.ioF 15 = false := by kernel_rfl
theorem Try.xen15 : Try.prog.enters 15 = true := by kernel_rfl
@[go_sem] theorem Try.xio16 : Try.prog.ioF 16 = false := by kernel_rfl
theorem Try.xen16 : Try.prog.enters 16 = true := by kernel_rfl
@[go_sem] theorem Try.xio17 : Try.prog.ioF 17 = true := by kernel_rfl
theorem Try.xen17 : Try.prog.enters 17 = true := by kernel_rfl
@[go_sem] theorem Try.xio18 : Try.prog.ioF 18 = false := by kernel_rfl
theorem Try.xen18 : Try.prog.enters 18 = true := by kernel_rfl
@[go_sem] theorem Try.xio19 : Try.prog.ioF 19 = false := by kernel_rfl
theorem Try.xen19 : Try.prog.enters 19 = true := by kernel_rfl
@[go_sem] theorem Try.xio20 : Try.prog.ioF 20 = false := by kernel_rfl
theorem Try.xen20 : Try.prog.enters 20 = true := by kernel_rfl
@[go_sem] theorem Try.xio21 : Try.prog.ioF 21 = false := by kernel_rfl
theorem Try.xen21 : Try.prog.enters 21 = true := by kernel_rfl
@[go_sem] theorem Try.xio22 : Try.prog.ioF 22 = false := by kernel_rfl
theorem Try.xen22 : Try.prog.enters 22 = true := by kernel_rfl
@[go_sem] theorem Try.xio23 : Try.prog.ioF 23 = false := by kernel_rfl
theorem Try.xen23 : Try.prog.enters 23 = true := by kernel_rfl
@[go_sem] theorem Try.xio24 : Try.prog.ioF 24 = false := by kernel_rfl
theorem Try.xen24 : Try.prog.enters 24 = true := by kernel_rfl
@[go_sem] theorem Try.xio25 : Try.prog.ioF 25 = false := by kernel_rfl
theorem Try.xen25 : Try.prog.enters 25 = true := by kernel_rfl
@[go_sem] theorem Try.xio26 : Try.prog.ioF 26 = false := by kernel_rfl
theorem Try.xen26 : Try.prog.enters 26 = true := by kernel_rfl
@[go_sem] theorem Try.xio27 : Try.prog.ioF 27 = false := by kernel_rfl
theorem Try.xen27 : Try.prog.enters 27 = true := by kernel_rfl
@[go_sem] theorem Try.xio28 : Try.prog.ioF 28 = false := by kernel_rfl
theorem Try.xen28 : Try.prog.enters 28 = true := by kernel_rfl
@[go_sem] theorem Try.xio29 : Try.prog.ioF 29 = false := by kernel_rfl
theorem Try.xen29 : Try.prog.enters 29 = true := by kernel_rfl
@[go_sem] theorem Try.xio30 : Try.prog.ioF 30 = false := by kernel_rfl
theorem Try.xen30 : Try.prog.enters 30 = true := by kernel_rfl
@[go_sem] theorem Try.xio31 : Try.prog.ioF 31 = false := by kernel_rfl
theorem Try.xen31 : Try.prog.enters 31 = true := by kernel_rfl
@[go_sem] theorem Try.xio32 : Try.prog.ioF 32 = true := by kernel_rfl
theorem Try.xen32 : Try.prog.enters 32 = true := by kernel_rfl
@[go_sem] theorem Try.xio33 : Try.prog.ioF 33 = false := by kernel_rfl
theorem Try.xen33 : Try.prog.enters 33 = true := by kernel_rfl
@[go_sem] theorem Try.xio34 : Try.prog.ioF 34 = false := by kernel_rfl
theorem Try.xen34 : Try.prog.enters 34 = true := by kernel_rfl
@[go_sem] theorem Try.xio35 : Try.prog.ioF 35 = false := by kernel_rfl
theorem Try.xen35 : Try.prog.enters 35 = true := by kernel_rfl
@[go_sem] theorem Try.xio36 : Try.prog.ioF 36 = true := by kernel_rfl
theorem Try.xen36 : Try.prog.enters 36 = true := by kernel_rfl
@[go_sem] theorem Try.xio37 : Try.prog.ioF 37 = false := by kernel_rfl
theorem Try.xen37 : Try.prog.enters 37 = true := by kernel_rfl
@[go_sem] theorem Try.xio38 : Try.prog.ioF 38 = true := by kernel_rfl
theorem Try.xen38 : Try.prog.enters 38 = true := by kernel_rfl
@[go_sem] theorem Try.xio39 : Try.prog.ioF 39 = false := by kernel_rfl
theorem Try.xen39 : Try.prog.enters 39 = true := by kernel_rfl
@[go_sem] theorem Try.xio40 : Try.prog.ioF 40 = false := by kernel_rfl
theorem Try.xen40 : Try.prog.enters 40 = true := by kernel_rfl
@[go_sem] theorem Try.xio41 : Try.prog.ioF 41 = false := by kernel_rfl
theorem Try.xen41 : Try.prog.enters 41 = true := by kernel_rfl
@[go_sem] theorem Try.xio42 : Try.prog.ioF 42 = false := by kernel_rfl
theorem Try.xen42 : Try.prog.enters 42 = true := by kernel_rfl
@[go_sem] theorem Try.xio43 : Try.prog.ioF 43 = true := by kernel_rfl
theorem Try.xen43 : Try.prog.enters 43 = true := by kernel_rfl
@[go_sem] theorem Try.xio44 : Try.prog.ioF 44 = true := by kernel_rfl
theorem Try.xen44 : Try.prog.enters 44 = true := by kernel_rfl
@[go_sem] theorem Try.xio45 : Try.prog.ioF 45 = true := by kernel_rfl
theorem Try.xen45 : Try.prog.enters 45 = true := by kernel_rfl
@[go_sem] theorem Try.xio46 : Try.prog.ioF 46 = true := by kernel_rfl
theorem Try.xen46 : Try.prog.enters 46 = true := by kernel_rfl
@[go_sem] theorem Try.xio47 : Try.prog.ioF 47 = true := by kernel_rfl
theorem Try.xen47 : Try.prog.enters 47 = true := by kernel_rfl
@[go_sem] theorem Try.xio48 : Try.prog.ioF 48 = true := by kernel_rfl
theorem Try.xen48 : Try.prog.enters 48 = true := by kernel_rfl
end Go.Proofs.Ytnbmiejjkkgckaa
