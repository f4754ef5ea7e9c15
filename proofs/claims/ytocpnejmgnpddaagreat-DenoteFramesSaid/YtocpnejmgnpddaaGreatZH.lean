/- Proved here: Sources, clips, tracks and expressions as plain data, and how they lie in cells, for use in the proofs of the given statements; conditions stand in each theorem. -/
import Derived.Test.YtocpnejmgnpddaaGreatZG
import Derived.Test.YtocpnejmgnpddaaGreatZC
import Derived.Test.YtocpnejmgnpddaaGreatProg
set_option linter.unusedSimpArgs false
set_option linter.unusedVariables false
set_option linter.unusedSectionVars false
set_option linter.unnecessarySimpa false
namespace Go.Proofs.YtocpnejmgnpddaaGreat
open Go.RowKit
set_option maxRecDepth 4000
abbrev ti (n:Int):T := .lit (.int .i64 n)
abbrev tu (n:Int):T := .lit (.int .u64 n)
abbrev tstr (s:ByteArray):T := .lit (.string s)
abbrev tbl (b:Bool):T := .lit (.bool b)
abbrev vu64 (n:Int):V := .t (.lit (.int .u64 n))
def intC (n:Int):List T:=[ti n]
def strC (s:ByteArray):List T:=[tstr s]
@[go_sem] abbrev tints (l:List Int):T := .list 1 (intC 0) (l.map intC)
@[go_sem] abbrev tstrs (l:List ByteArray):T := .list 1 (strC ⟨#[]⟩) (l.map strC)
@[go_sem] theorem intC_t (n:Int):(intC n).map V.t = [vint n]:=rfl
@[go_sem] theorem strC_t (n:ByteArray):(strC n).map V.t = [vstr n]:=rfl
@[go_sem] theorem intC_l (n:Int):(intC n).length=1:=rfl
@[go_sem] theorem strC_l (n:ByteArray):(strC n).length=1:=rfl
structure RatR where
 num:Int
 den:Int
 deriving Inhabited
structure SourceR where
 kind:Int
 name:ByteArray
 pos:RatR
 speed:RatR
 smooth:Bool
 deriving Inhabited
structure ClipR where
 len:Int
 kind:Int
 a:SourceR
 b:SourceR
 off:Int
 total:Int
 param:Int
 text:ByteArray
 gain:Int
 chan:List Int
 deriving Inhabited
def RatR.c (r:RatR):List T:=[ti r.num,ti r.den]
def SourceR.c (s:SourceR):List T:=[ti s.kind,tstr s.name,ti s.pos.num,ti s.pos.den,ti s.speed.num,ti s.speed.den,tbl s.smooth]
def ClipR.c (c:ClipR):List T:=[ti c.len,ti c.kind,ti c.a.kind,tstr c.a.name,ti c.a.pos.num,ti c.a.pos.den,ti c.a.speed.num,ti c.a.speed.den,tbl c.a.smooth,
 ti c.b.kind,tstr c.b.name,ti c.b.pos.num,ti c.b.pos.den,ti c.b.speed.num,ti c.b.speed.den,tbl c.b.smooth,ti c.off,ti c.total,ti c.param,tstr c.text,ti c.gain,tints c.chan]
abbrev vrat (r:RatR):V := .agg [vint r.num,vint r.den]
abbrev vsource (s:SourceR):V := .agg [vint s.kind,vstr s.name,vint s.pos.num,vint s.pos.den,vint s.speed.num,vint s.speed.den,vbool s.smooth]
abbrev vclip (c:ClipR):V := .agg [vint c.len,vint c.kind,vint c.a.kind,vstr c.a.name,vint c.a.pos.num,vint c.a.pos.den,vint c.a.speed.num,vint c.a.speed.den,vbool c.a.smooth,
 vint c.b.kind,vstr c.b.name,vint c.b.pos.num,vint c.b.pos.den,vint c.b.speed.num,vint c.b.speed.den,vbool c.b.smooth,vint c.off,vint c.total,vint c.param,vstr c.text,vint c.gain, .t (tints c.chan)]
@[go_sem] theorem RatR.ct (r:RatR):(RatR.c r).map V.t = [vint r.num,vint r.den]:=rfl
@[go_sem] theorem SourceR.ct (s:SourceR):(SourceR.c s).map V.t = [vint s.kind,vstr s.name,vint s.pos.num,vint s.pos.den,vint s.speed.num,vint s.speed.den,vbool s.smooth]:=rfl
@[go_sem] theorem ClipR.ct (c:ClipR):(ClipR.c c).map V.t = [vint c.len,vint c.kind,vint c.a.kind,vstr c.a.name,vint c.a.pos.num,vint c.a.pos.den,vint c.a.speed.num,vint c.a.speed.den,vbool c.a.smooth,
 vint c.b.kind,vstr c.b.name,vint c.b.pos.num,vint c.b.pos.den,vint c.b.speed.num,vint c.b.speed.den,vbool c.b.smooth,vint c.off,vint c.total,vint c.param,vstr c.text,vint c.gain, .t (tints c.chan)]:=rfl
@[go_sem] theorem RatR.cl (r:RatR):(RatR.c r).length=2:=rfl
@[go_sem] theorem SourceR.cl (r:SourceR):(SourceR.c r).length=7:=rfl
@[go_sem] theorem ClipR.cl (r:ClipR):(ClipR.c r).length=22:=rfl
@[go_sem] abbrev tclips (l:List ClipR):T := .list 22 (ClipR.c default) (l.map ClipR.c)
theorem getD_of_lt {α : Type} [Inhabited α] {xs:List α} {k:Nat} (h:k<xs.length):xs.getD k default=xs[k]:=by simp [List.getD_eq_getElem?_getD,h]
theorem brW {B b:Bool} {A C:Prop} (h:B=b) (k:(b=true→A)∧(b=false→C)):(B=true→A)∧(B=false→C):=by rw [h];exact k
theorem nt {b:Bool} (h:(!b)=true):b=false:=by cases b<;>simp_all
theorem nf {b:Bool} (h:(!b)=false):b=true:=by cases b<;>simp_all
@[go_sem] theorem bne_f {b:Bool}:(b != false)=b:=by cases b<;>rfl
def I64 (n:Int):Prop := -9223372036854775808≤n∧n≤9223372036854775807
theorem wrap64 {x:Int} (h1 : -9223372036854775808≤x) (h2:x≤9223372036854775807):IntKind.i64.wrap x=x:=by
 have e1:(2:Int) ^ IntKind.i64.bits=18446744073709551616:=by decide
 have e2:(2:Int) ^ (IntKind.i64.bits - 1)=9223372036854775808:=by decide
 unfold IntKind.wrap
 simp only [IntKind.signed,e1,e2,Bool.true_and,decide_eq_true_eq]
 split<;>omega
theorem wrapN {n:Nat} (h:n≤9223372036854775807):IntKind.i64.wrap (n:Int)=n:=wrap64 (by omega) (by omega)
theorem wrap1 {k:Nat} (h:k<9223372036854775807):IntKind.i64.wrap ((k:Int)+1)=(k:Int)+1:=wrap64 (by omega) (by omega)
theorem wrapU64 {x:Int} (h1 : 0≤x) (h2:x≤18446744073709551615):IntKind.u64.wrap x=x:=by
 have e1:(2:Int) ^ IntKind.u64.bits=18446744073709551616:=by decide
 unfold IntKind.wrap
 simp only [IntKind.signed,e1,Bool.false_and,Bool.false_eq_true,if_false]
 omega
theorem wrapU64_neg {x:Int} (h1 : -18446744073709551616≤x) (h2:x<0):IntKind.u64.wrap x=x+18446744073709551616:=by
 have e1:(2:Int) ^ IntKind.u64.bits=18446744073709551616:=by decide
 unfold IntKind.wrap
 simp only [IntKind.signed,e1,Bool.false_and,Bool.false_eq_true,if_false]
 omega
structure RatR.fit (r:RatR):Prop where
 num:I64 r.num
 den:I64 r.den
structure SourceR.fit (s:SourceR):Prop where
 kind:I64 s.kind
 pos:s.pos.fit
 speed:s.speed.fit
structure ClipR.fit (c:ClipR):Prop where
 len:I64 c.len
 kind:I64 c.kind
 a:c.a.fit
 b:c.b.fit
 off:I64 c.off
 total:I64 c.total
 param:I64 c.param
 gain:I64 c.gain
def nmI (n:Int):Bool:=(decide (97≤n)&&decide (n≤122))||(decide (48≤n)&&decide (n≤57))||n==45||n==95||n==46
def lnI (n:Int):Bool:=decide (32≤n)&&decide (n≤126)
def bytesAll (p:Int→Bool) (s:ByteArray):Bool:=s.data.toList.all fun c=>p c.toNat
def byteAt (s:ByteArray) (k:Nat):Int:=(s.data.toList.getD k 0).toNat
theorem bytes_len (s:ByteArray):s.data.toList.length=s.size:=Array.length_toList
theorem bytes_hit {p:Int→Bool} {s:ByteArray} {k:Nat} (h:k<s.size) (hp:p (byteAt s k)=false):bytesAll p s=false:=by
 have hl:k<s.data.toList.length:=by rw [bytes_len];exact h
 unfold byteAt at hp
 rw [List.getD_eq_getElem?_getD,List.getElem?_eq_getElem hl] at hp
 unfold bytesAll
 rw [Bool.eq_false_iff,ne_eq,List.all_eq_true]
 intro h'
 have:=h' _ (List.getElem_mem hl)
 simp only [Option.getD_some] at hp
 rw [hp] at this;cases this
theorem bytes_done {p:Int→Bool} {s:ByteArray} (h:∀ k,k<s.size→p (byteAt s k)=true):bytesAll p s=true:=by
 unfold bytesAll
 rw [List.all_eq_true]
 intro c hc
 obtain ⟨k,hk,rfl⟩:=List.mem_iff_getElem.1 hc
 have:=h k (by rw [← bytes_len];exact hk)
 unfold byteAt at this
 rw [List.getD_eq_getElem?_getD,List.getElem?_eq_getElem hk] at this
 exact this
def vName (s:ByteArray):Bool:=decide (1≤s.size)&&decide (s.size≤32)&&bytesAll nmI s
def vLine (s:ByteArray):Bool:=decide (1≤s.size)&&decide (s.size≤64)&&bytesAll lnI s
open Go.RowKit
@[go_sem] theorem Tryz.xsz2:Tryz.prog.szT 2=some 1:=by kernel_rfl
@[go_sem] theorem Tryz.xag2:Tryz.prog.aggT 2=some false:=by kernel_rfl
@[go_sem] theorem Tryz.xby2:Tryz.prog.bytesT 2=some 8:=by kernel_rfl
@[go_sem] theorem Tryz.xze2:Tryz.prog.zeroT 2=some [Value.int IntKind.i64 0]:=by kernel_rfl
@[go_sem] theorem Tryz.xzk2:zeroOk [Value.int IntKind.i64 0]=true:=by kernel_rfl
@[go_sem] theorem Tryz.xsz3:Tryz.prog.szT 3=some 1:=by kernel_rfl
@[go_sem] theorem Tryz.xag3:Tryz.prog.aggT 3=some false:=by kernel_rfl
@[go_sem] theorem Tryz.xby3:Tryz.prog.bytesT 3=some 8:=by kernel_rfl
@[go_sem] theorem Tryz.xze3:Tryz.prog.zeroT 3=some [Value.int IntKind.i64 0]:=by kernel_rfl
@[go_sem] theorem Tryz.xsz4:Tryz.prog.szT 4=some 1:=by kernel_rfl
@[go_sem] theorem Tryz.xag4:Tryz.prog.aggT 4=some false:=by kernel_rfl
@[go_sem] theorem Tryz.xze4:Tryz.prog.zeroT 4=some [Value.bool false]:=by kernel_rfl
@[go_sem] theorem Tryz.xzk4:zeroOk [Value.bool false]=true:=by kernel_rfl
@[go_sem] theorem Tryz.xag5:Tryz.prog.aggT 5=some false:=by kernel_rfl
@[go_sem] theorem Tryz.xsz9:Tryz.prog.szT 9=some 1:=by kernel_rfl
@[go_sem] theorem Tryz.xag9:Tryz.prog.aggT 9=some false:=by kernel_rfl
@[go_sem] theorem Tryz.xby9:Tryz.prog.bytesT 9=some 16:=by kernel_rfl
@[go_sem] theorem Tryz.xze9:Tryz.prog.zeroT 9=some [Value.string ⟨#[]⟩]:=by kernel_rfl
@[go_sem] theorem Tryz.xzk9:zeroOk [Value.string ⟨#[]⟩]=true:=by kernel_rfl
@[go_sem] theorem Tryz.xsz22:Tryz.prog.szT 22=some 1:=by kernel_rfl
@[go_sem] theorem Tryz.xag22:Tryz.prog.aggT 22=some false:=by kernel_rfl
@[go_sem] theorem Tryz.xel22:Tryz.prog.elemT 22=some 78:=by kernel_rfl
@[go_sem] theorem Tryz.xzk22:zeroOk [Value.slice none 0 0]=true:=by kernel_rfl
@[go_sem] theorem Tryz.xsz23:Tryz.prog.szT 23=some 1:=by kernel_rfl
@[go_sem] theorem Tryz.xag23:Tryz.prog.aggT 23=some false:=by kernel_rfl
@[go_sem] theorem Tryz.xel23:Tryz.prog.elemT 23=some 97:=by kernel_rfl
@[go_sem] theorem Tryz.xzk24:zeroOk [Value.slice none 0 0,Value.slice none 0 0]=true:=by kernel_rfl
@[go_sem] theorem Tryz.xsz25:Tryz.prog.szT 25=some 2:=by kernel_rfl
@[go_sem] theorem Tryz.xag25:Tryz.prog.aggT 25=some true:=by kernel_rfl
@[go_sem] theorem Tryz.xpl25:Tryz.prog.plT 25=some [(0,1),(1,1)]:=by kernel_rfl
@[go_sem] theorem Tryz.xze25:Tryz.prog.zeroT 25=some [Value.slice none 0 0,Value.slice none 0 0]:=by kernel_rfl
@[go_sem] theorem Tryz.xfl25_0:Tryz.prog.fldT 25 0=some (0,22):=by kernel_rfl
@[go_sem] theorem Tryz.xfl25_1:Tryz.prog.fldT 25 1=some (1,23):=by kernel_rfl
@[go_sem] theorem Tryz.xsz26:Tryz.prog.szT 26=some 1:=by kernel_rfl
@[go_sem] theorem Tryz.xag26:Tryz.prog.aggT 26=some false:=by kernel_rfl
@[go_sem] theorem Tryz.xel26:Tryz.prog.elemT 26=some 3:=by kernel_rfl
@[go_sem] theorem Tryz.xsz29:Tryz.prog.szT 29=some 1:=by kernel_rfl
@[go_sem] theorem Tryz.xag29:Tryz.prog.aggT 29=some false:=by kernel_rfl
@[go_sem] theorem Tryz.xze29:Tryz.prog.zeroT 29=some [Value.int IntKind.i64 0]:=by kernel_rfl
@[go_sem] theorem Tryz.xsz33:Tryz.prog.szT 33=some 1:=by kernel_rfl
@[go_sem] theorem Tryz.xag33:Tryz.prog.aggT 33=some false:=by kernel_rfl
@[go_sem] theorem Tryz.xel33:Tryz.prog.elemT 33=some 9:=by kernel_rfl
@[go_sem] theorem Tryz.xsz38:Tryz.prog.szT 38=some 1:=by kernel_rfl
@[go_sem] theorem Tryz.xag38:Tryz.prog.aggT 38=some false:=by kernel_rfl
@[go_sem] theorem Tryz.xel38:Tryz.prog.elemT 38=some 2:=by kernel_rfl
@[go_sem] theorem Tryz.xsz39:Tryz.prog.szT 39=some 1:=by kernel_rfl
@[go_sem] theorem Tryz.xag39:Tryz.prog.aggT 39=some false:=by kernel_rfl
@[go_sem] theorem Tryz.xel39:Tryz.prog.elemT 39=some 99:=by kernel_rfl
@[go_sem] theorem Tryz.xel52:Tryz.prog.elemT 52=some 25:=by kernel_rfl
@[go_sem] theorem Tryz.xsz59:Tryz.prog.szT 59=some 1:=by kernel_rfl
@[go_sem] theorem Tryz.xag59:Tryz.prog.aggT 59=some false:=by kernel_rfl
@[go_sem] theorem Tryz.xzk68:zeroOk [Value.slice none 0 0,Value.int IntKind.i64 0]=true:=by kernel_rfl
@[go_sem] theorem Tryz.xpl69:Tryz.prog.plT 69=some [(0,1),(1,1)]:=by kernel_rfl
@[go_sem] theorem Tryz.xze69:Tryz.prog.zeroT 69=some [Value.slice none 0 0,Value.int IntKind.i64 0]:=by kernel_rfl
@[go_sem] theorem Tryz.xfl69_0:Tryz.prog.fldT 69 0=some (0,26):=by kernel_rfl
@[go_sem] theorem Tryz.xfl69_1:Tryz.prog.fldT 69 1=some (1,3):=by kernel_rfl
@[go_sem] theorem Tryz.xzk71:zeroOk [Value.int IntKind.i64 0,Value.int IntKind.i64 0]=true:=by kernel_rfl
@[go_sem] theorem Tryz.xsz72:Tryz.prog.szT 72=some 2:=by kernel_rfl
@[go_sem] theorem Tryz.xag72:Tryz.prog.aggT 72=some true:=by kernel_rfl
@[go_sem] theorem Tryz.xpl72:Tryz.prog.plT 72=some [(0,1),(1,1)]:=by kernel_rfl
@[go_sem] theorem Tryz.xze72:Tryz.prog.zeroT 72=some [Value.int IntKind.i64 0,Value.int IntKind.i64 0]:=by kernel_rfl
@[go_sem] theorem Tryz.xfl72_0:Tryz.prog.fldT 72 0=some (0,2):=by kernel_rfl
@[go_sem] theorem Tryz.xfl72_1:Tryz.prog.fldT 72 1=some (1,2):=by kernel_rfl
def Tryz.z74:List Value:=[Value.int IntKind.i64 0,Value.int IntKind.i64 0,Value.int IntKind.i64 0,Value.int IntKind.i64 0,Value.bool false,Value.int IntKind.i64 0,Value.int IntKind.i64 0]++List.replicate 128 (Value.int IntKind.u8 0)
@[go_sem] theorem Tryz.zok74:zeroOk Tryz.z74=true:=by kernel_rfl
@[go_sem] theorem Tryz.zlen74:Tryz.z74.length=135:=by kernel_rfl
@[go_sem] theorem Tryz.xsz75:Tryz.prog.szT 75=some 135:=by kernel_rfl
@[go_sem] theorem Tryz.xpl75:Tryz.prog.plT 75=some [(0,1),(1,1),(2,2),(4,1),(5,1),(6,1),(7,64),(71,64)]:=by kernel_rfl
def Tryz.z75:List Value:=[Value.int IntKind.i64 0,Value.int IntKind.i64 0,Value.int IntKind.i64 0,Value.int IntKind.i64 0,Value.bool false,Value.int IntKind.i64 0,Value.int IntKind.i64 0]++List.replicate 128 (Value.int IntKind.u8 0)
@[go_sem] theorem Tryz.xze75:Tryz.prog.zeroT 75=some Tryz.z75:=by kernel_rfl
@[go_sem] theorem Tryz.zok75:zeroOk Tryz.z75=true:=by kernel_rfl
@[go_sem] theorem Tryz.zlen75:Tryz.z75.length=135:=by kernel_rfl
@[go_sem] theorem Tryz.xfl75_2:Tryz.prog.fldT 75 2=some (2,72):=by kernel_rfl
@[go_sem] theorem Tryz.xsz76:Tryz.prog.szT 76=some 1:=by kernel_rfl
@[go_sem] theorem Tryz.xag76:Tryz.prog.aggT 76=some false:=by kernel_rfl
@[go_sem] theorem Tryz.xel76:Tryz.prog.elemT 76=some 110:=by kernel_rfl
def Tryz.z77:List Value:=[Value.string ⟨#[]⟩,Value.int IntKind.u64 0,Value.int IntKind.i64 0,Value.int IntKind.i64 0,Value.int IntKind.i64 0,Value.int IntKind.i64 0,Value.bool false,Value.int IntKind.i64 0,Value.int IntKind.i64 0]++List.replicate 128 (Value.int IntKind.u8 0) ++ [Value.int IntKind.i64 0,Value.int IntKind.i64 0,Value.int IntKind.i64 0,Value.slice none 0 0]
@[go_sem] theorem Tryz.zok77:zeroOk Tryz.z77=true:=by kernel_rfl
@[go_sem] theorem Tryz.zlen77:Tryz.z77.length=141:=by kernel_rfl
@[go_sem] theorem Tryz.xsz78:Tryz.prog.szT 78=some 141:=by kernel_rfl
@[go_sem] theorem Tryz.xag78:Tryz.prog.aggT 78=some true:=by kernel_rfl
@[go_sem] theorem Tryz.xby78:Tryz.prog.bytesT 78=some 256:=by kernel_rfl
@[go_sem] theorem Tryz.xpl78:Tryz.prog.plT 78=some [(0,1),(1,1),(2,135),(137,1),(138,1),(139,1),(140,1)]:=by kernel_rfl
def Tryz.z78:List Value:=[Value.string ⟨#[]⟩,Value.int IntKind.u64 0,Value.int IntKind.i64 0,Value.int IntKind.i64 0,Value.int IntKind.i64 0,Value.int IntKind.i64 0,Value.bool false,Value.int IntKind.i64 0,Value.int IntKind.i64 0]++List.replicate 128 (Value.int IntKind.u8 0) ++ [Value.int IntKind.i64 0,Value.int IntKind.i64 0,Value.int IntKind.i64 0,Value.slice none 0 0]
@[go_sem] theorem Tryz.xze78:Tryz.prog.zeroT 78=some Tryz.z78:=by kernel_rfl
@[go_sem] theorem Tryz.zok78:zeroOk Tryz.z78=true:=by kernel_rfl
@[go_sem] theorem Tryz.zlen78:Tryz.z78.length=141:=by kernel_rfl
@[go_sem] theorem Tryz.xfl78_0:Tryz.prog.fldT 78 0=some (0,9):=by kernel_rfl
@[go_sem] theorem Tryz.xfl78_2:Tryz.prog.fldT 78 2=some (2,75):=by kernel_rfl
@[go_sem] theorem Tryz.xfl78_3:Tryz.prog.fldT 78 3=some (137,2):=by kernel_rfl
@[go_sem] theorem Tryz.xfl78_4:Tryz.prog.fldT 78 4=some (138,3):=by kernel_rfl
@[go_sem] theorem Tryz.xfl78_5:Tryz.prog.fldT 78 5=some (139,2):=by kernel_rfl
@[go_sem] theorem Tryz.xfl78_6:Tryz.prog.fldT 78 6=some (140,76):=by kernel_rfl
@[go_sem] theorem Tryz.xsz86:Tryz.prog.szT 86=some 1:=by kernel_rfl
@[go_sem] theorem Tryz.xag86:Tryz.prog.aggT 86=some false:=by kernel_rfl
@[go_sem] theorem Tryz.xel86:Tryz.prog.elemT 86=some 94:=by kernel_rfl
@[go_sem] theorem Tryz.xsz87:Tryz.prog.szT 87=some 1:=by kernel_rfl
@[go_sem] theorem Tryz.xag87:Tryz.prog.aggT 87=some false:=by kernel_rfl
@[go_sem] theorem Tryz.xel87:Tryz.prog.elemT 87=some 94:=by kernel_rfl
@[go_sem] theorem Tryz.xby87:Tryz.prog.bytesT 87=some 24:=by kernel_rfl
@[go_sem] theorem Tryz.xze87:Tryz.prog.zeroT 87=some [Value.slice none 0 0]:=by kernel_rfl
@[go_sem] theorem Tryz.xzk91:zeroOk [Value.int IntKind.i64 0,Value.string ⟨#[]⟩,Value.int IntKind.i64 0,Value.int IntKind.i64 0,Value.int IntKind.i64 0,Value.int IntKind.i64 0,Value.bool false]=true:=by kernel_rfl
@[go_sem] theorem Tryz.xsz92:Tryz.prog.szT 92=some 7:=by kernel_rfl
@[go_sem] theorem Tryz.xag92:Tryz.prog.aggT 92=some true:=by kernel_rfl
@[go_sem] theorem Tryz.xby92:Tryz.prog.bytesT 92=some 64:=by kernel_rfl
@[go_sem] theorem Tryz.xpl92:Tryz.prog.plT 92=some [(0,1),(1,1),(2,2),(4,2),(6,1)]:=by kernel_rfl
@[go_sem] theorem Tryz.xze92:Tryz.prog.zeroT 92=some [Value.int IntKind.i64 0,Value.string ⟨#[]⟩,Value.int IntKind.i64 0,Value.int IntKind.i64 0,Value.int IntKind.i64 0,Value.int IntKind.i64 0,Value.bool false]:=by kernel_rfl
@[go_sem] theorem Tryz.xfl92_0:Tryz.prog.fldT 92 0=some (0,3):=by kernel_rfl
@[go_sem] theorem Tryz.xfl92_1:Tryz.prog.fldT 92 1=some (1,9):=by kernel_rfl
@[go_sem] theorem Tryz.xfl92_2:Tryz.prog.fldT 92 2=some (2,72):=by kernel_rfl
@[go_sem] theorem Tryz.xfl92_3:Tryz.prog.fldT 92 3=some (4,72):=by kernel_rfl
@[go_sem] theorem Tryz.xfl92_4:Tryz.prog.fldT 92 4=some (6,4):=by kernel_rfl
@[go_sem] theorem Tryz.xzk93:zeroOk [Value.int IntKind.i64 0,Value.int IntKind.i64 0,Value.int IntKind.i64 0,Value.string ⟨#[]⟩,Value.int IntKind.i64 0,Value.int IntKind.i64 0,Value.int IntKind.i64 0,Value.int IntKind.i64 0,Value.bool false,Value.int IntKind.i64 0,Value.string ⟨#[]⟩,Value.int IntKind.i64 0,Value.int IntKind.i64 0,Value.int IntKind.i64 0,Value.int IntKind.i64 0,Value.bool false,Value.int IntKind.i64 0,Value.int IntKind.i64 0,Value.int IntKind.i64 0,Value.string ⟨#[]⟩,Value.int IntKind.i64 0,Value.slice none 0 0]=true:=by kernel_rfl
@[go_sem] theorem Tryz.xsz94:Tryz.prog.szT 94=some 22:=by kernel_rfl
@[go_sem] theorem Tryz.xag94:Tryz.prog.aggT 94=some true:=by kernel_rfl
@[go_sem] theorem Tryz.xby94:Tryz.prog.bytesT 94=some 216:=by kernel_rfl
@[go_sem] theorem Tryz.xpl94:Tryz.prog.plT 94=some [(0,1),(1,1),(2,7),(9,7),(16,1),(17,1),(18,1),(19,1),(20,1),(21,1)]:=by kernel_rfl
@[go_sem] theorem Tryz.xze94:Tryz.prog.zeroT 94=some [Value.int IntKind.i64 0,Value.int IntKind.i64 0,Value.int IntKind.i64 0,Value.string ⟨#[]⟩,Value.int IntKind.i64 0,Value.int IntKind.i64 0,Value.int IntKind.i64 0,Value.int IntKind.i64 0,Value.bool false,Value.int IntKind.i64 0,Value.string ⟨#[]⟩,Value.int IntKind.i64 0,Value.int IntKind.i64 0,Value.int IntKind.i64 0,Value.int IntKind.i64 0,Value.bool false,Value.int IntKind.i64 0,Value.int IntKind.i64 0,Value.int IntKind.i64 0,Value.string ⟨#[]⟩,Value.int IntKind.i64 0,Value.slice none 0 0]:=by kernel_rfl
@[go_sem] theorem Tryz.xfl94_0:Tryz.prog.fldT 94 0=some (0,2):=by kernel_rfl
@[go_sem] theorem Tryz.xfl94_1:Tryz.prog.fldT 94 1=some (1,3):=by kernel_rfl
@[go_sem] theorem Tryz.xfl94_2:Tryz.prog.fldT 94 2=some (2,92):=by kernel_rfl
@[go_sem] theorem Tryz.xfl94_3:Tryz.prog.fldT 94 3=some (9,92):=by kernel_rfl
@[go_sem] theorem Tryz.xfl94_4:Tryz.prog.fldT 94 4=some (16,2):=by kernel_rfl
@[go_sem] theorem Tryz.xfl94_5:Tryz.prog.fldT 94 5=some (17,2):=by kernel_rfl
@[go_sem] theorem Tryz.xfl94_6:Tryz.prog.fldT 94 6=some (18,3):=by kernel_rfl
@[go_sem] theorem Tryz.xfl94_7:Tryz.prog.fldT 94 7=some (19,9):=by kernel_rfl
@[go_sem] theorem Tryz.xfl94_8:Tryz.prog.fldT 94 8=some (20,3):=by kernel_rfl
@[go_sem] theorem Tryz.xfl94_9:Tryz.prog.fldT 94 9=some (21,26):=by kernel_rfl
@[go_sem] theorem Tryz.xsz95:Tryz.prog.szT 95=some 1:=by kernel_rfl
@[go_sem] theorem Tryz.xag95:Tryz.prog.aggT 95=some false:=by kernel_rfl
@[go_sem] theorem Tryz.xel95:Tryz.prog.elemT 95=some 87:=by kernel_rfl
@[go_sem] theorem Tryz.xze95:Tryz.prog.zeroT 95=some [Value.slice none 0 0]:=by kernel_rfl
@[go_sem] theorem Tryz.xzk96:zeroOk [Value.string ⟨#[]⟩,Value.int IntKind.i64 0,Value.int IntKind.i64 0,Value.int IntKind.i64 0,Value.int IntKind.i64 0,Value.slice none 0 0,Value.slice none 0 0,Value.slice none 0 0,Value.int IntKind.i64 0]=true:=by kernel_rfl
@[go_sem] theorem Tryz.xsz97:Tryz.prog.szT 97=some 9:=by kernel_rfl
@[go_sem] theorem Tryz.xag97:Tryz.prog.aggT 97=some true:=by kernel_rfl
@[go_sem] theorem Tryz.xby97:Tryz.prog.bytesT 97=some 128:=by kernel_rfl
@[go_sem] theorem Tryz.xpl97:Tryz.prog.plT 97=some [(0,1),(1,2),(3,1),(4,1),(5,1),(6,1),(7,1),(8,1)]:=by kernel_rfl
@[go_sem] theorem Tryz.xze97:Tryz.prog.zeroT 97=some [Value.string ⟨#[]⟩,Value.int IntKind.i64 0,Value.int IntKind.i64 0,Value.int IntKind.i64 0,Value.int IntKind.i64 0,Value.slice none 0 0,Value.slice none 0 0,Value.slice none 0 0,Value.int IntKind.i64 0]:=by kernel_rfl
@[go_sem] theorem Tryz.xfl97_0:Tryz.prog.fldT 97 0=some (0,9):=by kernel_rfl
@[go_sem] theorem Tryz.xfl97_1:Tryz.prog.fldT 97 1=some (1,72):=by kernel_rfl
@[go_sem] theorem Tryz.xfl97_2:Tryz.prog.fldT 97 2=some (3,3):=by kernel_rfl
@[go_sem] theorem Tryz.xfl97_3:Tryz.prog.fldT 97 3=some (4,3):=by kernel_rfl
@[go_sem] theorem Tryz.xfl97_4:Tryz.prog.fldT 97 4=some (5,95):=by kernel_rfl
@[go_sem] theorem Tryz.xfl97_5:Tryz.prog.fldT 97 5=some (6,95):=by kernel_rfl
@[go_sem] theorem Tryz.xfl97_6:Tryz.prog.fldT 97 6=some (7,76):=by kernel_rfl
@[go_sem] theorem Tryz.xfl97_7:Tryz.prog.fldT 97 7=some (8,3):=by kernel_rfl
@[go_sem] theorem Tryz.xzk98:zeroOk [Value.int IntKind.i64 0,Value.string ⟨#[]⟩,Value.int IntKind.i64 0,Value.int IntKind.i64 0,Value.int IntKind.i64 0,Value.int IntKind.i64 0,Value.string ⟨#[]⟩,Value.slice none 0 0]=true:=by kernel_rfl
@[go_sem] theorem Tryz.xsz99:Tryz.prog.szT 99=some 8:=by kernel_rfl
@[go_sem] theorem Tryz.xag99:Tryz.prog.aggT 99=some true:=by kernel_rfl
@[go_sem] theorem Tryz.xby99:Tryz.prog.bytesT 99=some 96:=by kernel_rfl
@[go_sem] theorem Tryz.xpl99:Tryz.prog.plT 99=some [(0,1),(1,1),(2,1),(3,1),(4,1),(5,1),(6,1),(7,1)]:=by kernel_rfl
@[go_sem] theorem Tryz.xze99:Tryz.prog.zeroT 99=some [Value.int IntKind.i64 0,Value.string ⟨#[]⟩,Value.int IntKind.i64 0,Value.int IntKind.i64 0,Value.int IntKind.i64 0,Value.int IntKind.i64 0,Value.string ⟨#[]⟩,Value.slice none 0 0]:=by kernel_rfl
@[go_sem] theorem Tryz.xfl99_0:Tryz.prog.fldT 99 0=some (0,3):=by kernel_rfl
@[go_sem] theorem Tryz.xfl99_1:Tryz.prog.fldT 99 1=some (1,9):=by kernel_rfl
@[go_sem] theorem Tryz.xfl99_2:Tryz.prog.fldT 99 2=some (2,2):=by kernel_rfl
@[go_sem] theorem Tryz.xfl99_3:Tryz.prog.fldT 99 3=some (3,2):=by kernel_rfl
@[go_sem] theorem Tryz.xfl99_4:Tryz.prog.fldT 99 4=some (4,2):=by kernel_rfl
@[go_sem] theorem Tryz.xfl99_5:Tryz.prog.fldT 99 5=some (5,3):=by kernel_rfl
@[go_sem] theorem Tryz.xfl99_6:Tryz.prog.fldT 99 6=some (6,9):=by kernel_rfl
@[go_sem] theorem Tryz.xfl99_7:Tryz.prog.fldT 99 7=some (7,39):=by kernel_rfl
@[go_sem] theorem Tryz.xel107:Tryz.prog.elemT 107=some 72:=by kernel_rfl
@[go_sem] theorem Tryz.xzk109:zeroOk [Value.int IntKind.i64 0,Value.int IntKind.i64 0,Value.slice none 0 0]=true:=by kernel_rfl
@[go_sem] theorem Tryz.xsz110:Tryz.prog.szT 110=some 3:=by kernel_rfl
@[go_sem] theorem Tryz.xag110:Tryz.prog.aggT 110=some true:=by kernel_rfl
@[go_sem] theorem Tryz.xby110:Tryz.prog.bytesT 110=some 40:=by kernel_rfl
@[go_sem] theorem Tryz.xpl110:Tryz.prog.plT 110=some [(0,1),(1,1),(2,1)]:=by kernel_rfl
@[go_sem] theorem Tryz.xze110:Tryz.prog.zeroT 110=some [Value.int IntKind.i64 0,Value.int IntKind.i64 0,Value.slice none 0 0]:=by kernel_rfl
@[go_sem] theorem Tryz.xfl110_0:Tryz.prog.fldT 110 0=some (0,2):=by kernel_rfl
@[go_sem] theorem Tryz.xfl110_1:Tryz.prog.fldT 110 1=some (1,2):=by kernel_rfl
@[go_sem] theorem Tryz.xfl110_2:Tryz.prog.fldT 110 2=some (2,33):=by kernel_rfl
@[go_sem] theorem Tryz.xsz120:Tryz.prog.szT 120=some 1:=by kernel_rfl
@[go_sem] theorem Tryz.xag120:Tryz.prog.aggT 120=some false:=by kernel_rfl
@[go_sem] theorem Tryz.xzk120:zeroOk [Value.map none]=true:=by kernel_rfl
@[go_sem] theorem Tryz.xmt120:Tryz.prog.mapT 120=some (9,78):=by kernel_rfl
@[go_sem] theorem Tryz.xz178:Tryz.prog.zero1 78=some (Value.agg #[Value.string ⟨#[]⟩,Value.int IntKind.u64 0,Value.int IntKind.i64 0,Value.int IntKind.i64 0,Value.int IntKind.i64 0,Value.int IntKind.i64 0,Value.bool false,Value.int IntKind.i64 0,Value.int IntKind.i64 0,Value.int IntKind.u8 0,Value.int IntKind.u8 0,Value.int IntKind.u8 0,Value.int IntKind.u8 0,Value.int IntKind.u8 0,Value.int IntKind.u8 0,Value.int IntKind.u8 0,Value.int IntKind.u8 0,Value.int IntKind.u8 0,Value.int IntKind.u8 0,Value.int IntKind.u8 0,Value.int IntKind.u8 0,Value.int IntKind.u8 0,Value.int IntKind.u8 0,Value.int IntKind.u8 0,Value.int IntKind.u8 0,Value.int IntKind.u8 0,Value.int IntKind.u8 0,Value.int IntKind.u8 0,Value.int IntKind.u8 0,Value.int IntKind.u8 0,Value.int IntKind.u8 0,Value.int IntKind.u8 0,Value.int IntKind.u8 0,Value.int IntKind.u8 0,Value.int IntKind.u8 0,Value.int IntKind.u8 0,Value.int IntKind.u8 0,Value.int IntKind.u8 0,Value.int IntKind.u8 0,Value.int IntKind.u8 0,Value.int IntKind.u8 0,Value.int IntKind.u8 0,Value.int IntKind.u8 0,Value.int IntKind.u8 0,Value.int IntKind.u8 0,Value.int IntKind.u8 0,Value.int IntKind.u8 0,Value.int IntKind.u8 0,Value.int IntKind.u8 0,Value.int IntKind.u8 0,Value.int IntKind.u8 0,Value.int IntKind.u8 0,Value.int IntKind.u8 0,Value.int IntKind.u8 0,Value.int IntKind.u8 0,Value.int IntKind.u8 0,Value.int IntKind.u8 0,Value.int IntKind.u8 0,Value.int IntKind.u8 0,Value.int IntKind.u8 0,Value.int IntKind.u8 0,Value.int IntKind.u8 0,Value.int IntKind.u8 0,Value.int IntKind.u8 0,Value.int IntKind.u8 0,Value.int IntKind.u8 0,Value.int IntKind.u8 0,Value.int IntKind.u8 0,Value.int IntKind.u8 0,Value.int IntKind.u8 0,Value.int IntKind.u8 0,Value.int IntKind.u8 0,Value.int IntKind.u8 0,Value.int IntKind.u8 0,Value.int IntKind.u8 0,Value.int IntKind.u8 0,Value.int IntKind.u8 0,Value.int IntKind.u8 0,Value.int IntKind.u8 0,Value.int IntKind.u8 0,Value.int IntKind.u8 0,Value.int IntKind.u8 0,Value.int IntKind.u8 0,Value.int IntKind.u8 0,Value.int IntKind.u8 0,Value.int IntKind.u8 0,Value.int IntKind.u8 0,Value.int IntKind.u8 0,Value.int IntKind.u8 0,Value.int IntKind.u8 0,Value.int IntKind.u8 0,Value.int IntKind.u8 0,Value.int IntKind.u8 0,Value.int IntKind.u8 0,Value.int IntKind.u8 0,Value.int IntKind.u8 0,Value.int IntKind.u8 0,Value.int IntKind.u8 0,Value.int IntKind.u8 0,Value.int IntKind.u8 0,Value.int IntKind.u8 0,Value.int IntKind.u8 0,Value.int IntKind.u8 0,Value.int IntKind.u8 0,Value.int IntKind.u8 0,Value.int IntKind.u8 0,Value.int IntKind.u8 0,Value.int IntKind.u8 0,Value.int IntKind.u8 0,Value.int IntKind.u8 0,Value.int IntKind.u8 0,Value.int IntKind.u8 0,Value.int IntKind.u8 0,Value.int IntKind.u8 0,Value.int IntKind.u8 0,Value.int IntKind.u8 0,Value.int IntKind.u8 0,Value.int IntKind.u8 0,Value.int IntKind.u8 0,Value.int IntKind.u8 0,Value.int IntKind.u8 0,Value.int IntKind.u8 0,Value.int IntKind.u8 0,Value.int IntKind.u8 0,Value.int IntKind.u8 0,Value.int IntKind.u8 0,Value.int IntKind.u8 0,Value.int IntKind.u8 0,Value.int IntKind.u8 0,Value.int IntKind.u8 0,Value.int IntKind.u8 0,Value.int IntKind.u8 0,Value.int IntKind.u8 0,Value.int IntKind.u8 0,Value.int IntKind.u8 0,Value.int IntKind.u8 0,Value.int IntKind.u8 0,Value.int IntKind.i64 0,Value.int IntKind.i64 0,Value.int IntKind.i64 0,Value.slice none 0 0]):=by kernel_rfl
@[go_sem] theorem Tryz.xsz121:Tryz.prog.szT 121=some 1:=by kernel_rfl
@[go_sem] theorem Tryz.xag121:Tryz.prog.aggT 121=some false:=by kernel_rfl
@[go_sem] theorem Tryz.xmt121:Tryz.prog.mapT 121=some (9,97):=by kernel_rfl
@[go_sem] theorem Tryz.xz197:Tryz.prog.zero1 97=some (Value.agg #[Value.string ⟨#[]⟩,Value.int IntKind.i64 0,Value.int IntKind.i64 0,Value.int IntKind.i64 0,Value.int IntKind.i64 0,Value.slice none 0 0,Value.slice none 0 0,Value.slice none 0 0,Value.int IntKind.i64 0]):=by kernel_rfl
@[go_sem] theorem Tryz.xzk122:zeroOk [Value.map none,Value.map none]=true:=by kernel_rfl
@[go_sem] theorem Tryz.xsz123:Tryz.prog.szT 123=some 2:=by kernel_rfl
@[go_sem] theorem Tryz.xag123:Tryz.prog.aggT 123=some true:=by kernel_rfl
@[go_sem] theorem Tryz.xpl123:Tryz.prog.plT 123=some [(0,1),(1,1)]:=by kernel_rfl
@[go_sem] theorem Tryz.xze123:Tryz.prog.zeroT 123=some [Value.map none,Value.map none]:=by kernel_rfl
@[go_sem] theorem Tryz.xfl123_0:Tryz.prog.fldT 123 0=some (0,120):=by kernel_rfl
@[go_sem] theorem Tryz.xfl123_1:Tryz.prog.fldT 123 1=some (1,121):=by kernel_rfl
@[go_sem] theorem Tryz.xmt125:Tryz.prog.mapT 125=some (9,3):=by kernel_rfl
@[go_sem] theorem Tryz.xz13:Tryz.prog.zero1 3=some (Value.int IntKind.i64 0):=by kernel_rfl
@[go_sem] theorem Tryz.xel128:Tryz.prog.elemT 128=some 92:=by kernel_rfl
@[go_sem] theorem Tryz.xsz138:Tryz.prog.szT 138=some 1:=by kernel_rfl
@[go_sem] theorem Tryz.xag138:Tryz.prog.aggT 138=some false:=by kernel_rfl
@[go_sem] theorem Tryz.xze138:Tryz.prog.zeroT 138=some [Value.map none]:=by kernel_rfl
@[go_sem] theorem Tryz.xmt138:Tryz.prog.mapT 138=some (9,4):=by kernel_rfl
@[go_sem] theorem Tryz.xz14:Tryz.prog.zero1 4=some (Value.bool false):=by kernel_rfl
@[go_sem] theorem Tryz.xsz149:Tryz.prog.szT 149=some 1:=by kernel_rfl
@[go_sem] theorem Tryz.xag149:Tryz.prog.aggT 149=some false:=by kernel_rfl
@[go_sem] theorem Tryz.xmt149:Tryz.prog.mapT 149=some (9,2):=by kernel_rfl
@[go_sem] theorem Tryz.xz12:Tryz.prog.zero1 2=some (Value.int IntKind.i64 0):=by kernel_rfl
@[go_sem] theorem Tryz.xsz150:Tryz.prog.szT 150=some 1:=by kernel_rfl
@[go_sem] theorem Tryz.xag150:Tryz.prog.aggT 150=some false:=by kernel_rfl
@[go_sem] theorem Tryz.xmt150:Tryz.prog.mapT 150=some (9,221):=by kernel_rfl
@[go_sem] theorem Tryz.xz1221:Tryz.prog.zero1 221=some (Value.slice none 0 0):=by kernel_rfl
@[go_sem] theorem Tryz.xsz152:Tryz.prog.szT 152=some 2:=by kernel_rfl
@[go_sem] theorem Tryz.xag152:Tryz.prog.aggT 152=some true:=by kernel_rfl
@[go_sem] theorem Tryz.xpl152:Tryz.prog.plT 152=some [(0,1),(1,1)]:=by kernel_rfl
@[go_sem] theorem Tryz.xze152:Tryz.prog.zeroT 152=some [Value.map none,Value.map none]:=by kernel_rfl
@[go_sem] theorem Tryz.xfl152_0:Tryz.prog.fldT 152 0=some (0,149):=by kernel_rfl
@[go_sem] theorem Tryz.xfl152_1:Tryz.prog.fldT 152 1=some (1,150):=by kernel_rfl
@[go_sem] theorem Tryz.xel157:Tryz.prog.elemT 157=some 161:=by kernel_rfl
@[go_sem] theorem Tryz.xzk160:zeroOk [Value.string ⟨#[]⟩,Value.int IntKind.i64 0,Value.int IntKind.i64 0,Value.int IntKind.i64 0]=true:=by kernel_rfl
@[go_sem] theorem Tryz.xsz161:Tryz.prog.szT 161=some 4:=by kernel_rfl
@[go_sem] theorem Tryz.xag161:Tryz.prog.aggT 161=some true:=by kernel_rfl
@[go_sem] theorem Tryz.xby161:Tryz.prog.bytesT 161=some 40:=by kernel_rfl
@[go_sem] theorem Tryz.xpl161:Tryz.prog.plT 161=some [(0,1),(1,1),(2,1),(3,1)]:=by kernel_rfl
@[go_sem] theorem Tryz.xze161:Tryz.prog.zeroT 161=some [Value.string ⟨#[]⟩,Value.int IntKind.i64 0,Value.int IntKind.i64 0,Value.int IntKind.i64 0]:=by kernel_rfl
@[go_sem] theorem Tryz.xfl161_3:Tryz.prog.fldT 161 3=some (3,2):=by kernel_rfl
@[go_sem] theorem Tryz.xel191:Tryz.prog.elemT 191=some 95:=by kernel_rfl
@[go_sem] theorem Tryz.xpl195:Tryz.prog.plT 195=some [(0,1),(1,1)]:=by kernel_rfl
@[go_sem] theorem Tryz.xze195:Tryz.prog.zeroT 195=some [Value.slice none 0 0,Value.slice none 0 0]:=by kernel_rfl
@[go_sem] theorem Tryz.xpl212:Tryz.prog.plT 212=some [(0,7),(7,7)]:=by kernel_rfl
@[go_sem] theorem Tryz.xze212:Tryz.prog.zeroT 212=some [Value.int IntKind.i64 0,Value.string ⟨#[]⟩,Value.int IntKind.i64 0,Value.int IntKind.i64 0,Value.int IntKind.i64 0,Value.int IntKind.i64 0,Value.bool false,Value.int IntKind.i64 0,Value.string ⟨#[]⟩,Value.int IntKind.i64 0,Value.int IntKind.i64 0,Value.int IntKind.i64 0,Value.int IntKind.i64 0,Value.bool false]:=by kernel_rfl
@[go_sem] theorem Tryz.xzk212:zeroOk [Value.int IntKind.i64 0,Value.string ⟨#[]⟩,Value.int IntKind.i64 0,Value.int IntKind.i64 0,Value.int IntKind.i64 0,Value.int IntKind.i64 0,Value.bool false,Value.int IntKind.i64 0,Value.string ⟨#[]⟩,Value.int IntKind.i64 0,Value.int IntKind.i64 0,Value.int IntKind.i64 0,Value.int IntKind.i64 0,Value.bool false]=true:=by kernel_rfl
@[go_sem] theorem Tryz.xmt215:Tryz.prog.mapT 215=some (3,4):=by kernel_rfl
@[go_sem] theorem Tryz.xel221:Tryz.prog.elemT 221=some 224:=by kernel_rfl
@[go_sem] theorem Tryz.xsz222:Tryz.prog.szT 222=some 1:=by kernel_rfl
@[go_sem] theorem Tryz.xag222:Tryz.prog.aggT 222=some false:=by kernel_rfl
@[go_sem] theorem Tryz.xel222:Tryz.prog.elemT 222=some 244:=by kernel_rfl
@[go_sem] theorem Tryz.xzk223:zeroOk [Value.slice none 0 0,Value.slice none 0 0,Value.slice none 0 0]=true:=by kernel_rfl
@[go_sem] theorem Tryz.xsz224:Tryz.prog.szT 224=some 3:=by kernel_rfl
@[go_sem] theorem Tryz.xag224:Tryz.prog.aggT 224=some true:=by kernel_rfl
@[go_sem] theorem Tryz.xby224:Tryz.prog.bytesT 224=some 72:=by kernel_rfl
@[go_sem] theorem Tryz.xpl224:Tryz.prog.plT 224=some [(0,1),(1,1),(2,1)]:=by kernel_rfl
@[go_sem] theorem Tryz.xze224:Tryz.prog.zeroT 224=some [Value.slice none 0 0,Value.slice none 0 0,Value.slice none 0 0]:=by kernel_rfl
@[go_sem] theorem Tryz.xfl224_0:Tryz.prog.fldT 224 0=some (0,86):=by kernel_rfl
@[go_sem] theorem Tryz.xfl224_1:Tryz.prog.fldT 224 1=some (1,38):=by kernel_rfl
@[go_sem] theorem Tryz.xfl224_2:Tryz.prog.fldT 224 2=some (2,222):=by kernel_rfl
@[go_sem] theorem Tryz.xzk242:zeroOk [Value.int IntKind.i64 0,Value.string ⟨#[]⟩,Value.int IntKind.i64 0,Value.int IntKind.i64 0,Value.int IntKind.i64 0,Value.int IntKind.i64 0,Value.bool false,Value.int IntKind.i64 0,Value.int IntKind.i64 0,Value.int IntKind.i64 0]=true:=by kernel_rfl
@[go_sem] theorem Tryz.xsz243:Tryz.prog.szT 243=some 10:=by kernel_rfl
@[go_sem] theorem Tryz.xag243:Tryz.prog.aggT 243=some true:=by kernel_rfl
@[go_sem] theorem Tryz.xpl243:Tryz.prog.plT 243=some [(0,7),(7,1),(8,1),(9,1)]:=by kernel_rfl
@[go_sem] theorem Tryz.xze243:Tryz.prog.zeroT 243=some [Value.int IntKind.i64 0,Value.string ⟨#[]⟩,Value.int IntKind.i64 0,Value.int IntKind.i64 0,Value.int IntKind.i64 0,Value.int IntKind.i64 0,Value.bool false,Value.int IntKind.i64 0,Value.int IntKind.i64 0,Value.int IntKind.i64 0]:=by kernel_rfl
@[go_sem] theorem Tryz.xfl243_0:Tryz.prog.fldT 243 0=some (0,92):=by kernel_rfl
@[go_sem] theorem Tryz.xfl243_1:Tryz.prog.fldT 243 1=some (7,2):=by kernel_rfl
@[go_sem] theorem Tryz.xfl243_2:Tryz.prog.fldT 243 2=some (8,2):=by kernel_rfl
@[go_sem] theorem Tryz.xfl243_3:Tryz.prog.fldT 243 3=some (9,2):=by kernel_rfl
@[go_sem] theorem Tryz.xsz244:Tryz.prog.szT 244=some 20:=by kernel_rfl
@[go_sem] theorem Tryz.xag244:Tryz.prog.aggT 244=some true:=by kernel_rfl
@[go_sem] theorem Tryz.xby244:Tryz.prog.bytesT 244=some 176:=by kernel_rfl
@[go_sem] theorem Tryz.xpl244:Tryz.prog.plT 244=some [(0,10),(10,10)]:=by kernel_rfl
@[go_sem] theorem Tryz.xze244:Tryz.prog.zeroT 244=some [Value.int IntKind.i64 0,Value.string ⟨#[]⟩,Value.int IntKind.i64 0,Value.int IntKind.i64 0,Value.int IntKind.i64 0,Value.int IntKind.i64 0,Value.bool false,Value.int IntKind.i64 0,Value.int IntKind.i64 0,Value.int IntKind.i64 0,Value.int IntKind.i64 0,Value.string ⟨#[]⟩,Value.int IntKind.i64 0,Value.int IntKind.i64 0,Value.int IntKind.i64 0,Value.int IntKind.i64 0,Value.bool false,Value.int IntKind.i64 0,Value.int IntKind.i64 0,Value.int IntKind.i64 0]:=by kernel_rfl
@[go_sem] theorem Tryz.xzk244:zeroOk [Value.int IntKind.i64 0,Value.string ⟨#[]⟩,Value.int IntKind.i64 0,Value.int IntKind.i64 0,Value.int IntKind.i64 0,Value.int IntKind.i64 0,Value.bool false,Value.int IntKind.i64 0,Value.int IntKind.i64 0,Value.int IntKind.i64 0,Value.int IntKind.i64 0,Value.string ⟨#[]⟩,Value.int IntKind.i64 0,Value.int IntKind.i64 0,Value.int IntKind.i64 0,Value.int IntKind.i64 0,Value.bool false,Value.int IntKind.i64 0,Value.int IntKind.i64 0,Value.int IntKind.i64 0]=true:=by kernel_rfl
@[go_sem] theorem Tryz.xzk274:zeroOk [Value.bool false,Value.int IntKind.u64 0,Value.int IntKind.u64 0]=true:=by kernel_rfl
@[go_sem] theorem Tryz.xsz275:Tryz.prog.szT 275=some 3:=by kernel_rfl
@[go_sem] theorem Tryz.xag275:Tryz.prog.aggT 275=some true:=by kernel_rfl
@[go_sem] theorem Tryz.xpl275:Tryz.prog.plT 275=some [(0,1),(1,1),(2,1)]:=by kernel_rfl
@[go_sem] theorem Tryz.xze275:Tryz.prog.zeroT 275=some [Value.bool false,Value.int IntKind.u64 0,Value.int IntKind.u64 0]:=by kernel_rfl
@[go_sem] theorem Tryz.xfl275_0:Tryz.prog.fldT 275 0=some (0,4):=by kernel_rfl
@[go_sem] theorem Tryz.xfl275_1:Tryz.prog.fldT 275 1=some (1,59):=by kernel_rfl
@[go_sem] theorem Tryz.xfl275_2:Tryz.prog.fldT 275 2=some (2,59):=by kernel_rfl
attribute [go_sem] Tryz.underlying0 Tryz.underlying1 Tryz.underlying2 Tryz.underlying3 Tryz.underlying4 Tryz.underlying5 Tryz.underlying6 Tryz.underlying7 Tryz.underlying8 Tryz.underlying9 Tryz.underlying10 Tryz.underlying11 Tryz.underlying12 Tryz.underlying13 Tryz.underlying14 Tryz.underlying15 Tryz.underlying16 Tryz.underlying17 Tryz.underlying18 Tryz.underlying19 Tryz.underlying20 Tryz.underlying21 Tryz.underlying22 Tryz.underlying23 Tryz.underlying24 Tryz.underlying25 Tryz.underlying26 Tryz.underlying27 Tryz.underlying28 Tryz.underlying29 Tryz.underlying30 Tryz.underlying31 Tryz.underlying32 Tryz.underlying33 Tryz.underlying34 Tryz.underlying35 Tryz.underlying36 Tryz.underlying37 Tryz.underlying38 Tryz.underlying39 Tryz.underlying40 Tryz.underlying41 Tryz.underlying42 Tryz.underlying43 Tryz.underlying44 Tryz.underlying45 Tryz.underlying46 Tryz.underlying47 Tryz.underlying48 Tryz.underlying49 Tryz.underlying50 Tryz.underlying51 Tryz.underlying52 Tryz.underlying53 Tryz.underlying54 Tryz.underlying55 Tryz.underlying56 Tryz.underlying57 Tryz.underlying58 Tryz.underlying59 Tryz.underlying60 Tryz.underlying61 Tryz.underlying62 Tryz.underlying63 Tryz.underlying64 Tryz.underlying65 Tryz.underlying66 Tryz.underlying67 Tryz.underlying68 Tryz.underlying69 Tryz.underlying70 Tryz.underlying71 Tryz.underlying72 Tryz.underlying73 Tryz.underlying74 Tryz.underlying75 Tryz.underlying76 Tryz.underlying77 Tryz.underlying78 Tryz.underlying79 Tryz.underlying80 Tryz.underlying81 Tryz.underlying82 Tryz.underlying83 Tryz.underlying84 Tryz.underlying85 Tryz.underlying86 Tryz.underlying87 Tryz.underlying88 Tryz.underlying89 Tryz.underlying90 Tryz.underlying91 Tryz.underlying92 Tryz.underlying93 Tryz.underlying94 Tryz.underlying95 Tryz.underlying96 Tryz.underlying97 Tryz.underlying98 Tryz.underlying99 Tryz.underlying100 Tryz.underlying101 Tryz.underlying102 Tryz.underlying103 Tryz.underlying104 Tryz.underlying105 Tryz.underlying106 Tryz.underlying107 Tryz.underlying108 Tryz.underlying109 Tryz.underlying110 Tryz.underlying111 Tryz.underlying112 Tryz.underlying113 Tryz.underlying114 Tryz.underlying115 Tryz.underlying116 Tryz.underlying117 Tryz.underlying118 Tryz.underlying119 Tryz.underlying120 Tryz.underlying121 Tryz.underlying122 Tryz.underlying123 Tryz.underlying124 Tryz.underlying125 Tryz.underlying126 Tryz.underlying127 Tryz.underlying128 Tryz.underlying129 Tryz.underlying130 Tryz.underlying131 Tryz.underlying132 Tryz.underlying133 Tryz.underlying134 Tryz.underlying135 Tryz.underlying136 Tryz.underlying137 Tryz.underlying138 Tryz.underlying139 Tryz.underlying140 Tryz.underlying141 Tryz.underlying142 Tryz.underlying143 Tryz.underlying144 Tryz.underlying145 Tryz.underlying146 Tryz.underlying147 Tryz.underlying148 Tryz.underlying149 Tryz.underlying150 Tryz.underlying151 Tryz.underlying152 Tryz.underlying153 Tryz.underlying154 Tryz.underlying155 Tryz.underlying156 Tryz.underlying157 Tryz.underlying158 Tryz.underlying159 Tryz.underlying160 Tryz.underlying161 Tryz.underlying162 Tryz.underlying163 Tryz.underlying164 Tryz.underlying165 Tryz.underlying166 Tryz.underlying167 Tryz.underlying168 Tryz.underlying169 Tryz.underlying170 Tryz.underlying171 Tryz.underlying172 Tryz.underlying173 Tryz.underlying174 Tryz.underlying175 Tryz.underlying176 Tryz.underlying177 Tryz.underlying178 Tryz.underlying179 Tryz.underlying180 Tryz.underlying181 Tryz.underlying182 Tryz.underlying183 Tryz.underlying184 Tryz.underlying185 Tryz.underlying186 Tryz.underlying187 Tryz.underlying188 Tryz.underlying189 Tryz.underlying190 Tryz.underlying191 Tryz.underlying192 Tryz.underlying193 Tryz.underlying194 Tryz.underlying195 Tryz.underlying196 Tryz.underlying197 Tryz.underlying198 Tryz.underlying199 Tryz.underlying200 Tryz.underlying201 Tryz.underlying202 Tryz.underlying203 Tryz.underlying204 Tryz.underlying205 Tryz.underlying206 Tryz.underlying207 Tryz.underlying208 Tryz.underlying209 Tryz.underlying210 Tryz.underlying211 Tryz.underlying212 Tryz.underlying213 Tryz.underlying214 Tryz.underlying215 Tryz.underlying216 Tryz.underlying217 Tryz.underlying218 Tryz.underlying219 Tryz.underlying220 Tryz.underlying221 Tryz.underlying222 Tryz.underlying223 Tryz.underlying224 Tryz.underlying225 Tryz.underlying226 Tryz.underlying227 Tryz.underlying228 Tryz.underlying229 Tryz.underlying230 Tryz.underlying231 Tryz.underlying232 Tryz.underlying233 Tryz.underlying234 Tryz.underlying235 Tryz.underlying236 Tryz.underlying237 Tryz.underlying238 Tryz.underlying239 Tryz.underlying240 Tryz.underlying241 Tryz.underlying242 Tryz.underlying243 Tryz.underlying244 Tryz.underlying245 Tryz.underlying246 Tryz.underlying247 Tryz.underlying248 Tryz.underlying249 Tryz.underlying250 Tryz.underlying251 Tryz.underlying252 Tryz.underlying253 Tryz.underlying254 Tryz.underlying255 Tryz.underlying256 Tryz.underlying257 Tryz.underlying258 Tryz.underlying259 Tryz.underlying260 Tryz.underlying261 Tryz.underlying262 Tryz.underlying263 Tryz.underlying264 Tryz.underlying265 Tryz.underlying266 Tryz.underlying267 Tryz.underlying268 Tryz.underlying269 Tryz.underlying270 Tryz.underlying271 Tryz.underlying272 Tryz.underlying273 Tryz.underlying274 Tryz.underlying275 Tryz.underlying276 Tryz.underlying277 Tryz.underlying278 Tryz.underlying279 Tryz.underlying280 Tryz.underlying281 Tryz.underlying282 Tryz.underlying283 Tryz.underlying284 Tryz.underlying285 Tryz.underlying286 Tryz.underlying287 Tryz.underlying288 Tryz.underlying289 Tryz.underlying290 Tryz.underlying291 Tryz.underlying292 Tryz.underlying293 Tryz.underlying294 Tryz.underlying295 Tryz.underlying296 Tryz.underlying297 Tryz.underlying298 Tryz.underlying299 Tryz.underlying300 Tryz.underlying301 Tryz.underlying302 Tryz.underlying303 Tryz.underlying304 Tryz.underlying305 Tryz.underlying306 Tryz.underlying307 Tryz.underlying308 Tryz.underlying309 Tryz.underlying310 Tryz.underlying311 Tryz.underlying312 Tryz.underlying313 Tryz.underlying314 Tryz.underlying315 Tryz.underlying316 Tryz.underlying317 Tryz.underlying318 Tryz.underlying319 Tryz.underlying320 Tryz.underlying321 Tryz.underlying322 Tryz.underlying323 Tryz.underlying324 Tryz.underlying325 Tryz.underlying326 Tryz.underlying327 Tryz.underlying328 Tryz.underlying329 Tryz.underlying330 Tryz.underlying331 Tryz.underlying332 Tryz.underlying333
theorem Tryz.xen12:Tryz.prog.enters 12=true:=by kernel_rfl
@[go_sem] theorem Tryz.xio13:Tryz.prog.ioF 13=false:=by kernel_rfl
theorem Tryz.xen13:Tryz.prog.enters 13=true:=by kernel_rfl
@[go_sem] theorem Tryz.xio14:Tryz.prog.ioF 14=false:=by kernel_rfl
theorem Tryz.xen14:Tryz.prog.enters 14=true:=by kernel_rfl
@[go_sem] theorem Tryz.xio15:Tryz.prog.ioF 15=false:=by kernel_rfl
theorem Tryz.xen15:Tryz.prog.enters 15=true:=by kernel_rfl
@[go_sem] theorem Tryz.xio16:Tryz.prog.ioF 16=false:=by kernel_rfl
theorem Tryz.xen16:Tryz.prog.enters 16=true:=by kernel_rfl
@[go_sem] theorem Tryz.xio22:Tryz.prog.ioF 22=false:=by kernel_rfl
theorem Tryz.xen22:Tryz.prog.enters 22=true:=by kernel_rfl
@[go_sem] theorem Tryz.xio24:Tryz.prog.ioF 24=false:=by kernel_rfl
theorem Tryz.xen24:Tryz.prog.enters 24=true:=by kernel_rfl
@[go_sem] theorem Tryz.xio33:Tryz.prog.ioF 33=true:=by kernel_rfl
theorem Tryz.xen33:Tryz.prog.enters 33=true:=by kernel_rfl
@[go_sem] theorem Tryz.xio38:Tryz.prog.ioF 38=false:=by kernel_rfl
theorem Tryz.xen38:Tryz.prog.enters 38=true:=by kernel_rfl
@[go_sem] theorem Tryz.xio39:Tryz.prog.ioF 39=false:=by kernel_rfl
theorem Tryz.xen39:Tryz.prog.enters 39=true:=by kernel_rfl
@[go_sem] theorem Tryz.xio40:Tryz.prog.ioF 40=false:=by kernel_rfl
theorem Tryz.xen40:Tryz.prog.enters 40=true:=by kernel_rfl
@[go_sem] theorem Tryz.xio41:Tryz.prog.ioF 41=false:=by kernel_rfl
theorem Tryz.xen41:Tryz.prog.enters 41=true:=by kernel_rfl
@[go_sem] theorem Tryz.xio42:Tryz.prog.ioF 42=false:=by kernel_rfl
theorem Tryz.xen42:Tryz.prog.enters 42=true:=by kernel_rfl
@[go_sem] theorem Tryz.xio43:Tryz.prog.ioF 43=false:=by kernel_rfl
theorem Tryz.xen43:Tryz.prog.enters 43=true:=by kernel_rfl
@[go_sem] theorem Tryz.xio44:Tryz.prog.ioF 44=true:=by kernel_rfl
theorem Tryz.xen44:Tryz.prog.enters 44=true:=by kernel_rfl
@[go_sem] theorem Tryz.xio45:Tryz.prog.ioF 45=true:=by kernel_rfl
theorem Tryz.xen45:Tryz.prog.enters 45=true:=by kernel_rfl
@[go_sem] theorem Tryz.xio46:Tryz.prog.ioF 46=true:=by kernel_rfl
theorem Tryz.xen46:Tryz.prog.enters 46=true:=by kernel_rfl
@[go_sem] theorem Tryz.xio47:Tryz.prog.ioF 47=true:=by kernel_rfl
theorem Tryz.xen47:Tryz.prog.enters 47=true:=by kernel_rfl
theorem Tryz.xen48:Tryz.prog.enters 48=true:=by kernel_rfl
@[go_sem] theorem Tryz.xio49:Tryz.prog.ioF 49=false:=by kernel_rfl
theorem Tryz.xen49:Tryz.prog.enters 49=true:=by kernel_rfl
@[go_sem] theorem Tryz.xio50:Tryz.prog.ioF 50=false:=by kernel_rfl
theorem Tryz.xen50:Tryz.prog.enters 50=true:=by kernel_rfl
theorem Tryz.xen51:Tryz.prog.enters 51=true:=by kernel_rfl
@[go_sem] theorem Tryz.xio52:Tryz.prog.ioF 52=false:=by kernel_rfl
theorem Tryz.xen52:Tryz.prog.enters 52=true:=by kernel_rfl
theorem Tryz.xen53:Tryz.prog.enters 53=true:=by kernel_rfl
@[go_sem] theorem Tryz.xio54:Tryz.prog.ioF 54=true:=by kernel_rfl
theorem Tryz.xen54:Tryz.prog.enters 54=true:=by kernel_rfl
@[go_sem] theorem Tryz.xio55:Tryz.prog.ioF 55=false:=by kernel_rfl
theorem Tryz.xen55:Tryz.prog.enters 55=true:=by kernel_rfl
@[go_sem] theorem Tryz.xio56:Tryz.prog.ioF 56=false:=by kernel_rfl
theorem Tryz.xen56:Tryz.prog.enters 56=true:=by kernel_rfl
@[go_sem] theorem Tryz.xio57:Tryz.prog.ioF 57=false:=by kernel_rfl
theorem Tryz.xen57:Tryz.prog.enters 57=true:=by kernel_rfl
@[go_sem] theorem Tryz.xio58:Tryz.prog.ioF 58=false:=by kernel_rfl
theorem Tryz.xen58:Tryz.prog.enters 58=true:=by kernel_rfl
@[go_sem] theorem Tryz.xio59:Tryz.prog.ioF 59=false:=by kernel_rfl
theorem Tryz.xen59:Tryz.prog.enters 59=true:=by kernel_rfl
@[go_sem] theorem Tryz.xio60:Tryz.prog.ioF 60=false:=by kernel_rfl
theorem Tryz.xen60:Tryz.prog.enters 60=true:=by kernel_rfl
@[go_sem] theorem Tryz.xio61:Tryz.prog.ioF 61=false:=by kernel_rfl
theorem Tryz.xen61:Tryz.prog.enters 61=true:=by kernel_rfl
@[go_sem] theorem Tryz.xio62:Tryz.prog.ioF 62=false:=by kernel_rfl
theorem Tryz.xen62:Tryz.prog.enters 62=true:=by kernel_rfl
@[go_sem] theorem Tryz.xio63:Tryz.prog.ioF 63=false:=by kernel_rfl
theorem Tryz.xen63:Tryz.prog.enters 63=true:=by kernel_rfl
@[go_sem] theorem Tryz.xio66:Tryz.prog.ioF 66=false:=by kernel_rfl
theorem Tryz.xen66:Tryz.prog.enters 66=true:=by kernel_rfl
@[go_sem] theorem Tryz.xio67:Tryz.prog.ioF 67=false:=by kernel_rfl
theorem Tryz.xen67:Tryz.prog.enters 67=true:=by kernel_rfl
@[go_sem] theorem Tryz.xio70:Tryz.prog.ioF 70=false:=by kernel_rfl
theorem Tryz.xen70:Tryz.prog.enters 70=true:=by kernel_rfl
@[go_sem] theorem Tryz.xio71:Tryz.prog.ioF 71=true:=by kernel_rfl
theorem Tryz.xen71:Tryz.prog.enters 71=true:=by kernel_rfl
@[go_sem] theorem Tryz.xio74:Tryz.prog.ioF 74=false:=by kernel_rfl
theorem Tryz.xen74:Tryz.prog.enters 74=true:=by kernel_rfl
@[go_sem] theorem Tryz.xio75:Tryz.prog.ioF 75=true:=by kernel_rfl
theorem Tryz.xen75:Tryz.prog.enters 75=true:=by kernel_rfl
@[go_sem] theorem Tryz.xio77:Tryz.prog.ioF 77=false:=by kernel_rfl
theorem Tryz.xen77:Tryz.prog.enters 77=true:=by kernel_rfl
@[go_sem] theorem Tryz.xio78:Tryz.prog.ioF 78=false:=by kernel_rfl
theorem Tryz.xen78:Tryz.prog.enters 78=true:=by kernel_rfl
@[go_sem] theorem Tryz.xio79:Tryz.prog.ioF 79=false:=by kernel_rfl
theorem Tryz.xen79:Tryz.prog.enters 79=true:=by kernel_rfl
@[go_sem] theorem Tryz.xio80:Tryz.prog.ioF 80=false:=by kernel_rfl
theorem Tryz.xen80:Tryz.prog.enters 80=true:=by kernel_rfl
@[go_sem] theorem Tryz.xio81:Tryz.prog.ioF 81=false:=by kernel_rfl
theorem Tryz.xen81:Tryz.prog.enters 81=true:=by kernel_rfl
@[go_sem] theorem Tryz.xio82:Tryz.prog.ioF 82=false:=by kernel_rfl
theorem Tryz.xen82:Tryz.prog.enters 82=true:=by kernel_rfl
theorem Tryz.xen108:Tryz.prog.enters 108=true:=by kernel_rfl
@[go_sem] theorem Tryz.xio109:Tryz.prog.ioF 109=false:=by kernel_rfl
theorem Tryz.xen109:Tryz.prog.enters 109=true:=by kernel_rfl
@[go_sem] theorem Tryz.xio110:Tryz.prog.ioF 110=false:=by kernel_rfl
theorem Tryz.xen110:Tryz.prog.enters 110=true:=by kernel_rfl
theorem Tryz.xen111:Tryz.prog.enters 111=true:=by kernel_rfl
@[go_sem] theorem Tryz.xio112:Tryz.prog.ioF 112=false:=by kernel_rfl
theorem Tryz.xen112:Tryz.prog.enters 112=true:=by kernel_rfl
@[go_sem] theorem Tryz.xio113:Tryz.prog.ioF 113=false:=by kernel_rfl
theorem Tryz.xen113:Tryz.prog.enters 113=true:=by kernel_rfl
@[go_sem] theorem Tryz.xio114:Tryz.prog.ioF 114=true:=by kernel_rfl
theorem Tryz.xen114:Tryz.prog.enters 114=true:=by kernel_rfl
@[go_sem] theorem Tryz.xio115:Tryz.prog.ioF 115=false:=by kernel_rfl
theorem Tryz.xen115:Tryz.prog.enters 115=true:=by kernel_rfl
@[go_sem] theorem Tryz.xio116:Tryz.prog.ioF 116=false:=by kernel_rfl
theorem Tryz.xen116:Tryz.prog.enters 116=true:=by kernel_rfl
@[go_sem] theorem Tryz.xio117:Tryz.prog.ioF 117=false:=by kernel_rfl
theorem Tryz.xen117:Tryz.prog.enters 117=true:=by kernel_rfl
@[go_sem] theorem Tryz.xio118:Tryz.prog.ioF 118=false:=by kernel_rfl
theorem Tryz.xen118:Tryz.prog.enters 118=true:=by kernel_rfl
@[go_sem] theorem Tryz.xio119:Tryz.prog.ioF 119=false:=by kernel_rfl
theorem Tryz.xen119:Tryz.prog.enters 119=true:=by kernel_rfl
@[go_sem] theorem Tryz.xio120:Tryz.prog.ioF 120=false:=by kernel_rfl
theorem Tryz.xen120:Tryz.prog.enters 120=true:=by kernel_rfl
@[go_sem] theorem Tryz.xio121:Tryz.prog.ioF 121=false:=by kernel_rfl
theorem Tryz.xen121:Tryz.prog.enters 121=true:=by kernel_rfl
@[go_sem] theorem Tryz.xio122:Tryz.prog.ioF 122=false:=by kernel_rfl
theorem Tryz.xen122:Tryz.prog.enters 122=true:=by kernel_rfl
@[go_sem] theorem Tryz.xio123:Tryz.prog.ioF 123=false:=by kernel_rfl
theorem Tryz.xen123:Tryz.prog.enters 123=true:=by kernel_rfl
@[go_sem] theorem Tryz.xio124:Tryz.prog.ioF 124=false:=by kernel_rfl
theorem Tryz.xen124:Tryz.prog.enters 124=true:=by kernel_rfl
theorem Tryz.xen125:Tryz.prog.enters 125=true:=by kernel_rfl
theorem Tryz.xen126:Tryz.prog.enters 126=true:=by kernel_rfl
@[go_sem] theorem Tryz.xio127:Tryz.prog.ioF 127=false:=by kernel_rfl
theorem Tryz.xen127:Tryz.prog.enters 127=true:=by kernel_rfl
@[go_sem] theorem Tryz.xio128:Tryz.prog.ioF 128=true:=by kernel_rfl
theorem Tryz.xen128:Tryz.prog.enters 128=true:=by kernel_rfl
@[go_sem] theorem Tryz.xio129:Tryz.prog.ioF 129=false:=by kernel_rfl
theorem Tryz.xen129:Tryz.prog.enters 129=true:=by kernel_rfl
@[go_sem] theorem Tryz.xio130:Tryz.prog.ioF 130=false:=by kernel_rfl
theorem Tryz.xen130:Tryz.prog.enters 130=true:=by kernel_rfl
@[go_sem] theorem Tryz.xio131:Tryz.prog.ioF 131=false:=by kernel_rfl
theorem Tryz.xen131:Tryz.prog.enters 131=true:=by kernel_rfl
@[go_sem] theorem Tryz.xio132:Tryz.prog.ioF 132=false:=by kernel_rfl
theorem Tryz.xen132:Tryz.prog.enters 132=true:=by kernel_rfl
@[go_sem] theorem Tryz.xio133:Tryz.prog.ioF 133=false:=by kernel_rfl
theorem Tryz.xen133:Tryz.prog.enters 133=true:=by kernel_rfl
@[go_sem] theorem Tryz.xio134:Tryz.prog.ioF 134=false:=by kernel_rfl
theorem Tryz.xen134:Tryz.prog.enters 134=true:=by kernel_rfl
@[go_sem] theorem Tryz.xio135:Tryz.prog.ioF 135=false:=by kernel_rfl
theorem Tryz.xen135:Tryz.prog.enters 135=true:=by kernel_rfl
@[go_sem] theorem Tryz.xio136:Tryz.prog.ioF 136=false:=by kernel_rfl
theorem Tryz.xen136:Tryz.prog.enters 136=true:=by kernel_rfl
theorem Tryz.xen137:Tryz.prog.enters 137=true:=by kernel_rfl
@[go_sem] theorem Tryz.xio138:Tryz.prog.ioF 138=false:=by kernel_rfl
theorem Tryz.xen138:Tryz.prog.enters 138=true:=by kernel_rfl
@[go_sem] theorem Tryz.xio139:Tryz.prog.ioF 139=false:=by kernel_rfl
theorem Tryz.xen139:Tryz.prog.enters 139=true:=by kernel_rfl
@[go_sem] theorem Tryz.xio140:Tryz.prog.ioF 140=false:=by kernel_rfl
theorem Tryz.xen140:Tryz.prog.enters 140=true:=by kernel_rfl
@[go_sem] theorem Tryz.xio141:Tryz.prog.ioF 141=false:=by kernel_rfl
theorem Tryz.xen141:Tryz.prog.enters 141=true:=by kernel_rfl
@[go_sem] theorem Tryz.xio143:Tryz.prog.ioF 143=false:=by kernel_rfl
theorem Tryz.xen143:Tryz.prog.enters 143=true:=by kernel_rfl
@[go_sem] theorem Tryz.xio144:Tryz.prog.ioF 144=false:=by kernel_rfl
theorem Tryz.xen144:Tryz.prog.enters 144=true:=by kernel_rfl
@[go_sem] theorem Tryz.xio148:Tryz.prog.ioF 148=false:=by kernel_rfl
theorem Tryz.xen148:Tryz.prog.enters 148=true:=by kernel_rfl
@[go_sem] theorem Tryz.xio150:Tryz.prog.ioF 150=false:=by kernel_rfl
theorem Tryz.xen150:Tryz.prog.enters 150=true:=by kernel_rfl
@[go_sem] theorem Tryz.xio151:Tryz.prog.ioF 151=false:=by kernel_rfl
theorem Tryz.xen151:Tryz.prog.enters 151=true:=by kernel_rfl
theorem Tryz.xen152:Tryz.prog.enters 152=true:=by kernel_rfl
@[go_sem] theorem Tryz.xio153:Tryz.prog.ioF 153=false:=by kernel_rfl
theorem Tryz.xen153:Tryz.prog.enters 153=true:=by kernel_rfl
@[go_sem] theorem Tryz.xio154:Tryz.prog.ioF 154=false:=by kernel_rfl
theorem Tryz.xen154:Tryz.prog.enters 154=true:=by kernel_rfl
@[go_sem] theorem Tryz.xio155:Tryz.prog.ioF 155=false:=by kernel_rfl
theorem Tryz.xen155:Tryz.prog.enters 155=true:=by kernel_rfl
@[go_sem] theorem Tryz.xio175:Tryz.prog.ioF 175=true:=by kernel_rfl
theorem Tryz.xen175:Tryz.prog.enters 175=true:=by kernel_rfl
@[go_sem] theorem Tryz.xio176:Tryz.prog.ioF 176=false:=by kernel_rfl
theorem Tryz.xen176:Tryz.prog.enters 176=true:=by kernel_rfl
theorem Tryz.xen177:Tryz.prog.enters 177=true:=by kernel_rfl
@[go_sem] theorem Tryz.xio178:Tryz.prog.ioF 178=false:=by kernel_rfl
theorem Tryz.xen178:Tryz.prog.enters 178=true:=by kernel_rfl
@[go_sem] theorem Tryz.xio179:Tryz.prog.ioF 179=false:=by kernel_rfl
theorem Tryz.xen179:Tryz.prog.enters 179=true:=by kernel_rfl
@[go_sem] theorem Tryz.xio180:Tryz.prog.ioF 180=true:=by kernel_rfl
theorem Tryz.xen180:Tryz.prog.enters 180=true:=by kernel_rfl
@[go_sem] theorem Tryz.xio181:Tryz.prog.ioF 181=true:=by kernel_rfl
theorem Tryz.xen181:Tryz.prog.enters 181=true:=by kernel_rfl
@[go_sem] theorem Tryz.xio182:Tryz.prog.ioF 182=false:=by kernel_rfl
theorem Tryz.xen182:Tryz.prog.enters 182=true:=by kernel_rfl
@[go_sem] theorem Tryz.xio183:Tryz.prog.ioF 183=false:=by kernel_rfl
theorem Tryz.xen183:Tryz.prog.enters 183=true:=by kernel_rfl
theorem Tryz.xen184:Tryz.prog.enters 184=true:=by kernel_rfl
@[go_sem] theorem Tryz.xio185:Tryz.prog.ioF 185=false:=by kernel_rfl
theorem Tryz.xen185:Tryz.prog.enters 185=true:=by kernel_rfl
@[go_sem] theorem Tryz.xio186:Tryz.prog.ioF 186=false:=by kernel_rfl
theorem Tryz.xen186:Tryz.prog.enters 186=true:=by kernel_rfl
@[go_sem] theorem Tryz.xio187:Tryz.prog.ioF 187=false:=by kernel_rfl
theorem Tryz.xen187:Tryz.prog.enters 187=true:=by kernel_rfl
@[go_sem] theorem Tryz.xio188:Tryz.prog.ioF 188=false:=by kernel_rfl
theorem Tryz.xen188:Tryz.prog.enters 188=true:=by kernel_rfl
@[go_sem] theorem Tryz.xio189:Tryz.prog.ioF 189=false:=by kernel_rfl
theorem Tryz.xen189:Tryz.prog.enters 189=true:=by kernel_rfl
@[go_sem] theorem Tryz.xio190:Tryz.prog.ioF 190=false:=by kernel_rfl
theorem Tryz.xen190:Tryz.prog.enters 190=true:=by kernel_rfl
@[go_sem] theorem Tryz.xio191:Tryz.prog.ioF 191=false:=by kernel_rfl
theorem Tryz.xen191:Tryz.prog.enters 191=true:=by kernel_rfl
@[go_sem] theorem Tryz.xio192:Tryz.prog.ioF 192=false:=by kernel_rfl
theorem Tryz.xen192:Tryz.prog.enters 192=true:=by kernel_rfl
@[go_sem] theorem Tryz.xio193:Tryz.prog.ioF 193=false:=by kernel_rfl
theorem Tryz.xen193:Tryz.prog.enters 193=true:=by kernel_rfl
@[go_sem] theorem Tryz.xio194:Tryz.prog.ioF 194=false:=by kernel_rfl
theorem Tryz.xen194:Tryz.prog.enters 194=true:=by kernel_rfl
@[go_sem] theorem Tryz.xio195:Tryz.prog.ioF 195=false:=by kernel_rfl
theorem Tryz.xen195:Tryz.prog.enters 195=true:=by kernel_rfl
@[go_sem] theorem Tryz.xio199:Tryz.prog.ioF 199=false:=by kernel_rfl
theorem Tryz.xen199:Tryz.prog.enters 199=true:=by kernel_rfl
@[go_sem] theorem Tryz.xio200:Tryz.prog.ioF 200=false:=by kernel_rfl
theorem Tryz.xen200:Tryz.prog.enters 200=true:=by kernel_rfl
@[go_sem] theorem Tryz.xio201:Tryz.prog.ioF 201=false:=by kernel_rfl
theorem Tryz.xen201:Tryz.prog.enters 201=true:=by kernel_rfl
@[go_sem] theorem Tryz.xio202:Tryz.prog.ioF 202=false:=by kernel_rfl
theorem Tryz.xen202:Tryz.prog.enters 202=true:=by kernel_rfl
@[go_sem] theorem Tryz.xio203:Tryz.prog.ioF 203=true:=by kernel_rfl
theorem Tryz.xen203:Tryz.prog.enters 203=true:=by kernel_rfl
@[go_sem] theorem Tryz.xio204:Tryz.prog.ioF 204=false:=by kernel_rfl
theorem Tryz.xen204:Tryz.prog.enters 204=true:=by kernel_rfl
@[go_sem] theorem Tryz.xio207:Tryz.prog.ioF 207=false:=by kernel_rfl
theorem Tryz.xen207:Tryz.prog.enters 207=true:=by kernel_rfl
@[go_sem] theorem Tryz.xio208:Tryz.prog.ioF 208=false:=by kernel_rfl
theorem Tryz.xen208:Tryz.prog.enters 208=true:=by kernel_rfl
@[go_sem] theorem Tryz.xio214:Tryz.prog.ioF 214=false:=by kernel_rfl
theorem Tryz.xen214:Tryz.prog.enters 214=true:=by kernel_rfl
@[go_sem] theorem Tryz.xio215:Tryz.prog.ioF 215=false:=by kernel_rfl
theorem Tryz.xen215:Tryz.prog.enters 215=true:=by kernel_rfl
@[go_sem] theorem Tryz.xio216:Tryz.prog.ioF 216=false:=by kernel_rfl
theorem Tryz.xen216:Tryz.prog.enters 216=true:=by kernel_rfl
@[go_sem] theorem Tryz.xio217:Tryz.prog.ioF 217=false:=by kernel_rfl
theorem Tryz.xen217:Tryz.prog.enters 217=true:=by kernel_rfl
@[go_sem] theorem Tryz.xio218:Tryz.prog.ioF 218=false:=by kernel_rfl
theorem Tryz.xen218:Tryz.prog.enters 218=true:=by kernel_rfl
@[go_sem] theorem Tryz.xio219:Tryz.prog.ioF 219=true:=by kernel_rfl
theorem Tryz.xen219:Tryz.prog.enters 219=true:=by kernel_rfl
@[go_sem] theorem Tryz.xio220:Tryz.prog.ioF 220=false:=by kernel_rfl
theorem Tryz.xen220:Tryz.prog.enters 220=true:=by kernel_rfl
@[go_sem] theorem Tryz.xio221:Tryz.prog.ioF 221=false:=by kernel_rfl
theorem Tryz.xen221:Tryz.prog.enters 221=true:=by kernel_rfl
@[go_sem] theorem Tryz.xio222:Tryz.prog.ioF 222=false:=by kernel_rfl
theorem Tryz.xen222:Tryz.prog.enters 222=true:=by kernel_rfl
@[go_sem] theorem Tryz.xio223:Tryz.prog.ioF 223=false:=by kernel_rfl
theorem Tryz.xen223:Tryz.prog.enters 223=true:=by kernel_rfl
@[go_sem] theorem Tryz.xio224:Tryz.prog.ioF 224=false:=by kernel_rfl
theorem Tryz.xen224:Tryz.prog.enters 224=true:=by kernel_rfl
@[go_sem] theorem Tryz.xio225:Tryz.prog.ioF 225=false:=by kernel_rfl
theorem Tryz.xen225:Tryz.prog.enters 225=true:=by kernel_rfl
@[go_sem] theorem Tryz.xio226:Tryz.prog.ioF 226=false:=by kernel_rfl
theorem Tryz.xen226:Tryz.prog.enters 226=true:=by kernel_rfl
@[go_sem] theorem Tryz.xio227:Tryz.prog.ioF 227=false:=by kernel_rfl
theorem Tryz.xen227:Tryz.prog.enters 227=true:=by kernel_rfl
@[go_sem] theorem Tryz.xio228:Tryz.prog.ioF 228=false:=by kernel_rfl
theorem Tryz.xen228:Tryz.prog.enters 228=true:=by kernel_rfl
@[go_sem] theorem Tryz.xio229:Tryz.prog.ioF 229=false:=by kernel_rfl
theorem Tryz.xen229:Tryz.prog.enters 229=true:=by kernel_rfl
@[go_sem] theorem Tryz.xio230:Tryz.prog.ioF 230=false:=by kernel_rfl
theorem Tryz.xen230:Tryz.prog.enters 230=true:=by kernel_rfl
@[go_sem] theorem Tryz.xio242:Tryz.prog.ioF 242=false:=by kernel_rfl
theorem Tryz.xen242:Tryz.prog.enters 242=true:=by kernel_rfl
@[go_sem] theorem Tryz.xio243:Tryz.prog.ioF 243=false:=by kernel_rfl
theorem Tryz.xen243:Tryz.prog.enters 243=true:=by kernel_rfl
@[go_sem] theorem Tryz.xio244:Tryz.prog.ioF 244=false:=by kernel_rfl
theorem Tryz.xen244:Tryz.prog.enters 244=true:=by kernel_rfl
@[go_sem] theorem Tryz.xio245:Tryz.prog.ioF 245=false:=by kernel_rfl
theorem Tryz.xen245:Tryz.prog.enters 245=true:=by kernel_rfl
@[go_sem] theorem Tryz.xio247:Tryz.prog.ioF 247=false:=by kernel_rfl
theorem Tryz.xen247:Tryz.prog.enters 247=true:=by kernel_rfl
@[go_sem] theorem Tryz.xio248:Tryz.prog.ioF 248=false:=by kernel_rfl
theorem Tryz.xen248:Tryz.prog.enters 248=true:=by kernel_rfl
@[go_sem] theorem Tryz.xio249:Tryz.prog.ioF 249=false:=by kernel_rfl
theorem Tryz.xen249:Tryz.prog.enters 249=true:=by kernel_rfl
@[go_sem] theorem Tryz.xio250:Tryz.prog.ioF 250=false:=by kernel_rfl
theorem Tryz.xen250:Tryz.prog.enters 250=true:=by kernel_rfl
@[go_sem] theorem Tryz.xio251:Tryz.prog.ioF 251=false:=by kernel_rfl
theorem Tryz.xen251:Tryz.prog.enters 251=true:=by kernel_rfl
@[go_sem] theorem Tryz.xio252:Tryz.prog.ioF 252=false:=by kernel_rfl
theorem Tryz.xen252:Tryz.prog.enters 252=true:=by kernel_rfl
@[go_sem] theorem Tryz.xio253:Tryz.prog.ioF 253=true:=by kernel_rfl
@[go_sem] theorem Tryz.xio254:Tryz.prog.ioF 254=true:=by kernel_rfl
@[go_sem] theorem Tryz.xio255:Tryz.prog.ioF 255=false:=by kernel_rfl
theorem Tryz.xen255:Tryz.prog.enters 255=true:=by kernel_rfl
@[go_sem] theorem Tryz.xio256:Tryz.prog.ioF 256=false:=by kernel_rfl
theorem Tryz.xen256:Tryz.prog.enters 256=true:=by kernel_rfl
@[go_sem] theorem Tryz.xio263:Tryz.prog.ioF 263=false:=by kernel_rfl
theorem Tryz.xen263:Tryz.prog.enters 263=true:=by kernel_rfl
@[go_sem] theorem Tryz.xio265:Tryz.prog.ioF 265=false:=by kernel_rfl
theorem Tryz.xen265:Tryz.prog.enters 265=true:=by kernel_rfl
end Go.Proofs.YtocpnejmgnpddaaGreat
