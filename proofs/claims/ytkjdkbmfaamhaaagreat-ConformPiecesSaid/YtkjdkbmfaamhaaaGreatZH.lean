/- Proved here: Sources, clips, tracks and expressions as plain data, and how they lie in cells, for use in the proofs of the given statements; conditions stand in each theorem. -/
import Derived.Test.YtkjdkbmfaamhaaaGreatZG
import Derived.Test.YtkjdkbmfaamhaaaGreatZC
import Derived.Test.YtkjdkbmfaamhaaaGreatProg
set_option linter.unusedSimpArgs false
set_option linter.unusedVariables false
set_option linter.unusedSectionVars false
set_option linter.unnecessarySimpa false
namespace Go.Proofs.YtkjdkbmfaamhaaaGreat
open Go.RowKit
set_option maxRecDepth 4000
theorem bxx:(∀ (p:Prop) [Decidable p],(decide p=true)=p)∧(∀ (p:Prop) [Decidable p],(decide p=false) ↔ ¬p)∧(∀ (α : Type) [BEq α] [LawfulBEq α] (a b : α),((a==b)=true) ↔ a=b)∧(∀ (α : Type) [BEq α] [LawfulBEq α] (a b : α),((a != b)=true) ↔ a≠b)∧(∀ (α : Sort 1) (a b : α),(a≠b) = ¬(a=b))∧(∀ (α : Type) [BEq α] [LawfulBEq α] (a b : α),((a==b)=false) ↔ a≠b)∧(∀ b:Bool,((!b)=true)=(b=false))∧(∀ b:Bool,(¬(b=true))=(b=false))∧(∀ b:Bool,((!b)=false)=(b=true))∧(∀ a b:Bool,((a||b)=true)=(a=true∨b=true))∧(∀ a b:Bool,((a&&b)=true)=(a=true∧b=true))∧(∀ a b:Bool,((a||b)=false)=(a=false∧b=false))∧(∀ a b:Bool,((a&&b)=false)=(a=false∨b=false))∧((false=true)=False)∧(∀ a b:Bool,((!a)=b)=(a = !b))∧((!true)=false)∧((!false)=true) :=
 ⟨fun _ _=>decide_eq_true_eq,fun _ _=>decide_eq_false_iff_not,fun _ _ _ _ _=>beq_iff_eq,fun _ _ _ _ _=>bne_iff_ne,fun _ _ _=>rfl,fun _ _ _ _ _=>beq_eq_false_iff_ne,by decide,by decide,by decide,by decide,by decide,by decide,by decide,by decide,by decide,rfl,rfl⟩
abbrev ti (n:Int):T := .lit (.int .i64 n)
abbrev tu (n:Int):T := .lit (.int .u64 n)
abbrev tstr (s:ByteArray):T := .lit (.string s)
abbrev tbl (b:Bool):T := .lit (.bool b)
abbrev vu64 (n:Int):V := .t (.lit (.int .u64 n))
def intC (n:Int):List T:=[ti n]
def strC (s:ByteArray):List T:=[tstr s]
@[go_sem] abbrev tints (l:List Int):T := .list 1 (intC 0) (l.map intC)
@[go_sem] abbrev tstrs (l:List ByteArray):T := .list 1 (strC ⟨#[]⟩) (l.map strC)
@[go_sem] theorem intC_t (n:Int):(intC n).map V.t = [vint n]:=rfl
@[go_sem] theorem strC_t (n:ByteArray):(strC n).map V.t = [vstr n]:=rfl
@[go_sem] theorem intC_l (n:Int):(intC n).length=1:=rfl
@[go_sem] theorem strC_l (n:ByteArray):(strC n).length=1:=rfl
structure RatR where
 num:Int
 den:Int
 deriving Inhabited
structure SourceR where
 kind:Int
 name:ByteArray
 pos:RatR
 speed:RatR
 smooth:Bool
 deriving Inhabited
structure ClipR where
 len:Int
 kind:Int
 a:SourceR
 b:SourceR
 off:Int
 total:Int
 param:Int
 text:ByteArray
 gain:Int
 chan:List Int
 deriving Inhabited
def RatR.c (r:RatR):List T:=[ti r.num,ti r.den]
def SourceR.c (s:SourceR):List T:=[ti s.kind,tstr s.name,ti s.pos.num,ti s.pos.den,ti s.speed.num,ti s.speed.den,tbl s.smooth]
def ClipR.c (c:ClipR):List T:=[ti c.len,ti c.kind,ti c.a.kind,tstr c.a.name,ti c.a.pos.num,ti c.a.pos.den,ti c.a.speed.num,ti c.a.speed.den,tbl c.a.smooth,
 ti c.b.kind,tstr c.b.name,ti c.b.pos.num,ti c.b.pos.den,ti c.b.speed.num,ti c.b.speed.den,tbl c.b.smooth,ti c.off,ti c.total,ti c.param,tstr c.text,ti c.gain,tints c.chan]
abbrev vrat (r:RatR):V := .agg [vint r.num,vint r.den]
abbrev vsource (s:SourceR):V := .agg [vint s.kind,vstr s.name,vint s.pos.num,vint s.pos.den,vint s.speed.num,vint s.speed.den,vbool s.smooth]
abbrev vclip (c:ClipR):V := .agg [vint c.len,vint c.kind,vint c.a.kind,vstr c.a.name,vint c.a.pos.num,vint c.a.pos.den,vint c.a.speed.num,vint c.a.speed.den,vbool c.a.smooth,
 vint c.b.kind,vstr c.b.name,vint c.b.pos.num,vint c.b.pos.den,vint c.b.speed.num,vint c.b.speed.den,vbool c.b.smooth,vint c.off,vint c.total,vint c.param,vstr c.text,vint c.gain, .t (tints c.chan)]
@[go_sem] theorem RatR.ct (r:RatR):(RatR.c r).map V.t = [vint r.num,vint r.den]:=rfl
@[go_sem] theorem SourceR.ct (s:SourceR):(SourceR.c s).map V.t = [vint s.kind,vstr s.name,vint s.pos.num,vint s.pos.den,vint s.speed.num,vint s.speed.den,vbool s.smooth]:=rfl
@[go_sem] theorem ClipR.ct (c:ClipR):(ClipR.c c).map V.t = [vint c.len,vint c.kind,vint c.a.kind,vstr c.a.name,vint c.a.pos.num,vint c.a.pos.den,vint c.a.speed.num,vint c.a.speed.den,vbool c.a.smooth,
 vint c.b.kind,vstr c.b.name,vint c.b.pos.num,vint c.b.pos.den,vint c.b.speed.num,vint c.b.speed.den,vbool c.b.smooth,vint c.off,vint c.total,vint c.param,vstr c.text,vint c.gain, .t (tints c.chan)]:=rfl
@[go_sem] theorem RatR.cl (r:RatR):(RatR.c r).length=2:=rfl
@[go_sem] theorem SourceR.cl (r:SourceR):(SourceR.c r).length=7:=rfl
@[go_sem] theorem ClipR.cl (r:ClipR):(ClipR.c r).length=22:=rfl
@[go_sem] abbrev tclips (l:List ClipR):T := .list 22 (ClipR.c default) (l.map ClipR.c)
theorem getD_of_lt {α : Type} [Inhabited α] {xs:List α} {k:Nat} (h:k<xs.length):xs.getD k default=xs[k]:=by simp [List.getD_eq_getElem?_getD,h]
theorem brW {B b:Bool} {A C:Prop} (h:B=b) (k:(b=true→A)∧(b=false→C)):(B=true→A)∧(B=false→C):=by rw [h];exact k
theorem nt {b:Bool} (h:(!b)=true):b=false:=by cases b<;>simp_all
theorem nf {b:Bool} (h:(!b)=false):b=true:=by cases b<;>simp_all
@[go_sem] theorem bne_f {b:Bool}:(b != false)=b:=by cases b<;>rfl
def I64 (n:Int):Prop := -9223372036854775808≤n∧n≤9223372036854775807
theorem wrap64 {x:Int} (h1 : -9223372036854775808≤x) (h2:x≤9223372036854775807):IntKind.i64.wrap x=x:=by
 have e1:(2:Int) ^ IntKind.i64.bits=18446744073709551616:=by decide
 have e2:(2:Int) ^ (IntKind.i64.bits - 1)=9223372036854775808:=by decide
 unfold IntKind.wrap
 simp only [IntKind.signed,if_true,e1,e2,Bool.true_and,decide_eq_true_eq]
 split<;>omega
theorem wrapN {n:Nat} (h:n≤9223372036854775807):IntKind.i64.wrap (n:Int)=n:=wrap64 (by omega) (by omega)
theorem wrap1 {k:Nat} (h:k<9223372036854775807):IntKind.i64.wrap ((k:Int)+1)=(k:Int)+1:=wrap64 (by omega) (by omega)
theorem wrapU64 {x:Int} (h1 : 0≤x) (h2:x≤18446744073709551615):IntKind.u64.wrap x=x:=by
 have e1:(2:Int) ^ IntKind.u64.bits=18446744073709551616:=by decide
 unfold IntKind.wrap
 simp only [IntKind.signed,e1,Bool.false_and,Bool.false_eq_true,if_false]
 omega
theorem wrapU64_neg {x:Int} (h1 : -18446744073709551616≤x) (h2:x<0):IntKind.u64.wrap x=x+18446744073709551616:=by
 have e1:(2:Int) ^ IntKind.u64.bits=18446744073709551616:=by decide
 unfold IntKind.wrap
 simp only [IntKind.signed,e1,Bool.false_and,Bool.false_eq_true,if_false]
 omega
structure RatR.fit (r:RatR):Prop where
 num:I64 r.num
 den:I64 r.den
structure SourceR.fit (s:SourceR):Prop where
 kind:I64 s.kind
 pos:s.pos.fit
 speed:s.speed.fit
structure ClipR.fit (c:ClipR):Prop where
 len:I64 c.len
 kind:I64 c.kind
 a:c.a.fit
 b:c.b.fit
 off:I64 c.off
 total:I64 c.total
 param:I64 c.param
 gain:I64 c.gain
def nmI (n:Int):Bool:=(decide (97≤n)&&decide (n≤122))||(decide (48≤n)&&decide (n≤57))||n==45||n==95||n==46
def lnI (n:Int):Bool:=decide (32≤n)&&decide (n≤126)
def bytesAll (p:Int→Bool) (s:ByteArray):Bool:=s.data.toList.all fun c=>p c.toNat
def byteAt (s:ByteArray) (k:Nat):Int:=(s.data.toList.getD k 0).toNat
theorem bytes_len (s:ByteArray):s.data.toList.length=s.size:=Array.length_toList
theorem bytes_hit {p:Int→Bool} {s:ByteArray} {k:Nat} (h:k<s.size) (hp:p (byteAt s k)=false):bytesAll p s=false:=by
 have hl:k<s.data.toList.length:=by rw [bytes_len];exact h
 unfold byteAt at hp
 rw [List.getD_eq_getElem?_getD,List.getElem?_eq_getElem hl] at hp
 unfold bytesAll
 rw [Bool.eq_false_iff,ne_eq,List.all_eq_true]
 intro h'
 have:=h' _ (List.getElem_mem hl)
 simp only [Option.getD_some] at hp
 rw [hp] at this;cases this
theorem bytes_done {p:Int→Bool} {s:ByteArray} (h:∀ k,k<s.size→p (byteAt s k)=true):bytesAll p s=true:=by
 unfold bytesAll
 rw [List.all_eq_true]
 intro c hc
 obtain ⟨k,hk,rfl⟩:=List.mem_iff_getElem.1 hc
 have:=h k (by rw [← bytes_len];exact hk)
 unfold byteAt at this
 rw [List.getD_eq_getElem?_getD,List.getElem?_eq_getElem hk] at this
 exact this
def vName (s:ByteArray):Bool:=decide (1≤s.size)&&decide (s.size≤32)&&bytesAll nmI s
def vLine (s:ByteArray):Bool:=decide (1≤s.size)&&decide (s.size≤64)&&bytesAll lnI s
open Go.RowKit
@[go_sem] theorem Tryz.xsz2:Tryz.prog.szT 2=some 1:=by kernel_rfl
@[go_sem] theorem Tryz.xag2:Tryz.prog.aggT 2=some false:=by kernel_rfl
@[go_sem] theorem Tryz.xby2:Tryz.prog.bytesT 2=some 8:=by kernel_rfl
@[go_sem] theorem Tryz.xze2:Tryz.prog.zeroT 2=some [Value.int IntKind.i64 0]:=by kernel_rfl
@[go_sem] theorem Tryz.xzk2:zeroOk [Value.int IntKind.i64 0]=true:=by kernel_rfl
@[go_sem] theorem Tryz.xsz3:Tryz.prog.szT 3=some 1:=by kernel_rfl
@[go_sem] theorem Tryz.xag3:Tryz.prog.aggT 3=some false:=by kernel_rfl
@[go_sem] theorem Tryz.xby3:Tryz.prog.bytesT 3=some 8:=by kernel_rfl
@[go_sem] theorem Tryz.xze3:Tryz.prog.zeroT 3=some [Value.int IntKind.i64 0]:=by kernel_rfl
@[go_sem] theorem Tryz.xsz4:Tryz.prog.szT 4=some 1:=by kernel_rfl
@[go_sem] theorem Tryz.xag4:Tryz.prog.aggT 4=some false:=by kernel_rfl
@[go_sem] theorem Tryz.xze4:Tryz.prog.zeroT 4=some [Value.bool false]:=by kernel_rfl
@[go_sem] theorem Tryz.xzk4:zeroOk [Value.bool false]=true:=by kernel_rfl
@[go_sem] theorem Tryz.xag5:Tryz.prog.aggT 5=some false:=by kernel_rfl
@[go_sem] theorem Tryz.xsz9:Tryz.prog.szT 9=some 1:=by kernel_rfl
@[go_sem] theorem Tryz.xag9:Tryz.prog.aggT 9=some false:=by kernel_rfl
@[go_sem] theorem Tryz.xby9:Tryz.prog.bytesT 9=some 16:=by kernel_rfl
@[go_sem] theorem Tryz.xze9:Tryz.prog.zeroT 9=some [Value.string ⟨#[]⟩]:=by kernel_rfl
@[go_sem] theorem Tryz.xzk9:zeroOk [Value.string ⟨#[]⟩]=true:=by kernel_rfl
@[go_sem] theorem Tryz.xsz22:Tryz.prog.szT 22=some 1:=by kernel_rfl
@[go_sem] theorem Tryz.xag22:Tryz.prog.aggT 22=some false:=by kernel_rfl
@[go_sem] theorem Tryz.xel22:Tryz.prog.elemT 22=some 3:=by kernel_rfl
@[go_sem] theorem Tryz.xzk22:zeroOk [Value.slice none 0 0]=true:=by kernel_rfl
@[go_sem] theorem Tryz.xsz23:Tryz.prog.szT 23=some 1:=by kernel_rfl
@[go_sem] theorem Tryz.xag23:Tryz.prog.aggT 23=some false:=by kernel_rfl
@[go_sem] theorem Tryz.xel23:Tryz.prog.elemT 23=some 58:=by kernel_rfl
@[go_sem] theorem Tryz.xsz24:Tryz.prog.szT 24=some 1:=by kernel_rfl
@[go_sem] theorem Tryz.xag24:Tryz.prog.aggT 24=some false:=by kernel_rfl
@[go_sem] theorem Tryz.xel24:Tryz.prog.elemT 24=some 61:=by kernel_rfl
@[go_sem] theorem Tryz.xzk25:zeroOk [Value.slice none 0 0,Value.slice none 0 0]=true:=by kernel_rfl
@[go_sem] theorem Tryz.xsz26:Tryz.prog.szT 26=some 2:=by kernel_rfl
@[go_sem] theorem Tryz.xag26:Tryz.prog.aggT 26=some true:=by kernel_rfl
@[go_sem] theorem Tryz.xze26:Tryz.prog.zeroT 26=some [Value.slice none 0 0,Value.slice none 0 0]:=by kernel_rfl
@[go_sem] theorem Tryz.xfl26_0:Tryz.prog.fldT 26 0=some (0,23):=by kernel_rfl
@[go_sem] theorem Tryz.xfl26_1:Tryz.prog.fldT 26 1=some (1,24):=by kernel_rfl
@[go_sem] theorem Tryz.xzk30:zeroOk [Value.slice none 0 0,Value.int IntKind.i64 0]=true:=by kernel_rfl
@[go_sem] theorem Tryz.xpl31:Tryz.prog.plT 31=some [(0,1),(1,1)]:=by kernel_rfl
@[go_sem] theorem Tryz.xze31:Tryz.prog.zeroT 31=some [Value.slice none 0 0,Value.int IntKind.i64 0]:=by kernel_rfl
@[go_sem] theorem Tryz.xfl31_0:Tryz.prog.fldT 31 0=some (0,22):=by kernel_rfl
@[go_sem] theorem Tryz.xfl31_1:Tryz.prog.fldT 31 1=some (1,3):=by kernel_rfl
@[go_sem] theorem Tryz.xel32:Tryz.prog.elemT 32=some 35:=by kernel_rfl
@[go_sem] theorem Tryz.xsz33:Tryz.prog.szT 33=some 1:=by kernel_rfl
@[go_sem] theorem Tryz.xag33:Tryz.prog.aggT 33=some false:=by kernel_rfl
@[go_sem] theorem Tryz.xel33:Tryz.prog.elemT 33=some 48:=by kernel_rfl
@[go_sem] theorem Tryz.xze33:Tryz.prog.zeroT 33=some [Value.slice none 0 0]:=by kernel_rfl
@[go_sem] theorem Tryz.xzk34:zeroOk [Value.string ⟨#[]⟩,Value.slice none 0 0]=true:=by kernel_rfl
@[go_sem] theorem Tryz.xsz35:Tryz.prog.szT 35=some 2:=by kernel_rfl
@[go_sem] theorem Tryz.xag35:Tryz.prog.aggT 35=some true:=by kernel_rfl
@[go_sem] theorem Tryz.xby35:Tryz.prog.bytesT 35=some 40:=by kernel_rfl
@[go_sem] theorem Tryz.xpl35:Tryz.prog.plT 35=some [(0,1),(1,1)]:=by kernel_rfl
@[go_sem] theorem Tryz.xze35:Tryz.prog.zeroT 35=some [Value.string ⟨#[]⟩,Value.slice none 0 0]:=by kernel_rfl
@[go_sem] theorem Tryz.xfl35_0:Tryz.prog.fldT 35 0=some (0,9):=by kernel_rfl
@[go_sem] theorem Tryz.xfl35_1:Tryz.prog.fldT 35 1=some (1,33):=by kernel_rfl
@[go_sem] theorem Tryz.xsz38:Tryz.prog.szT 38=some 1:=by kernel_rfl
@[go_sem] theorem Tryz.xag38:Tryz.prog.aggT 38=some false:=by kernel_rfl
@[go_sem] theorem Tryz.xel38:Tryz.prog.elemT 38=some 9:=by kernel_rfl
@[go_sem] theorem Tryz.xsz39:Tryz.prog.szT 39=some 1:=by kernel_rfl
@[go_sem] theorem Tryz.xag39:Tryz.prog.aggT 39=some false:=by kernel_rfl
@[go_sem] theorem Tryz.xel39:Tryz.prog.elemT 39=some 2:=by kernel_rfl
@[go_sem] theorem Tryz.xsz40:Tryz.prog.szT 40=some 1:=by kernel_rfl
@[go_sem] theorem Tryz.xag40:Tryz.prog.aggT 40=some false:=by kernel_rfl
@[go_sem] theorem Tryz.xze40:Tryz.prog.zeroT 40=some [Value.int IntKind.i64 0]:=by kernel_rfl
@[go_sem] theorem Tryz.xsz48:Tryz.prog.szT 48=some 1:=by kernel_rfl
@[go_sem] theorem Tryz.xag48:Tryz.prog.aggT 48=some false:=by kernel_rfl
@[go_sem] theorem Tryz.xel48:Tryz.prog.elemT 48=some 76:=by kernel_rfl
@[go_sem] theorem Tryz.xby48:Tryz.prog.bytesT 48=some 24:=by kernel_rfl
@[go_sem] theorem Tryz.xze48:Tryz.prog.zeroT 48=some [Value.slice none 0 0]:=by kernel_rfl
@[go_sem] theorem Tryz.xsz50:Tryz.prog.szT 50=some 1:=by kernel_rfl
@[go_sem] theorem Tryz.xag50:Tryz.prog.aggT 50=some false:=by kernel_rfl
@[go_sem] theorem Tryz.xzk51:zeroOk [Value.int IntKind.i64 0,Value.int IntKind.i64 0]=true:=by kernel_rfl
@[go_sem] theorem Tryz.xsz52:Tryz.prog.szT 52=some 2:=by kernel_rfl
@[go_sem] theorem Tryz.xag52:Tryz.prog.aggT 52=some true:=by kernel_rfl
@[go_sem] theorem Tryz.xpl52:Tryz.prog.plT 52=some [(0,1),(1,1)]:=by kernel_rfl
@[go_sem] theorem Tryz.xze52:Tryz.prog.zeroT 52=some [Value.int IntKind.i64 0,Value.int IntKind.i64 0]:=by kernel_rfl
@[go_sem] theorem Tryz.xfl52_0:Tryz.prog.fldT 52 0=some (0,2):=by kernel_rfl
@[go_sem] theorem Tryz.xfl52_1:Tryz.prog.fldT 52 1=some (1,2):=by kernel_rfl
def Tryz.z54:List Value:=[Value.int IntKind.i64 0,Value.int IntKind.i64 0,Value.int IntKind.i64 0,Value.int IntKind.i64 0,Value.bool false,Value.int IntKind.i64 0,Value.int IntKind.i64 0]++List.replicate 128 (Value.int IntKind.u8 0)
@[go_sem] theorem Tryz.zok54:zeroOk Tryz.z54=true:=by kernel_rfl
@[go_sem] theorem Tryz.zlen54:Tryz.z54.length=135:=by kernel_rfl
@[go_sem] theorem Tryz.xsz55:Tryz.prog.szT 55=some 135:=by kernel_rfl
@[go_sem] theorem Tryz.xpl55:Tryz.prog.plT 55=some [(0,1),(1,1),(2,2),(4,1),(5,1),(6,1),(7,64),(71,64)]:=by kernel_rfl
def Tryz.z55:List Value:=[Value.int IntKind.i64 0,Value.int IntKind.i64 0,Value.int IntKind.i64 0,Value.int IntKind.i64 0,Value.bool false,Value.int IntKind.i64 0,Value.int IntKind.i64 0]++List.replicate 128 (Value.int IntKind.u8 0)
@[go_sem] theorem Tryz.xze55:Tryz.prog.zeroT 55=some Tryz.z55:=by kernel_rfl
@[go_sem] theorem Tryz.zok55:zeroOk Tryz.z55=true:=by kernel_rfl
@[go_sem] theorem Tryz.zlen55:Tryz.z55.length=135:=by kernel_rfl
@[go_sem] theorem Tryz.xfl55_2:Tryz.prog.fldT 55 2=some (2,52):=by kernel_rfl
@[go_sem] theorem Tryz.xsz56:Tryz.prog.szT 56=some 1:=by kernel_rfl
@[go_sem] theorem Tryz.xag56:Tryz.prog.aggT 56=some false:=by kernel_rfl
@[go_sem] theorem Tryz.xel56:Tryz.prog.elemT 56=some 71:=by kernel_rfl
def Tryz.z57:List Value:=[Value.string ⟨#[]⟩,Value.int IntKind.u64 0,Value.int IntKind.i64 0,Value.int IntKind.i64 0,Value.int IntKind.i64 0,Value.int IntKind.i64 0,Value.bool false,Value.int IntKind.i64 0,Value.int IntKind.i64 0]++List.replicate 128 (Value.int IntKind.u8 0) ++ [Value.int IntKind.i64 0,Value.int IntKind.i64 0,Value.int IntKind.i64 0,Value.slice none 0 0]
@[go_sem] theorem Tryz.zok57:zeroOk Tryz.z57=true:=by kernel_rfl
@[go_sem] theorem Tryz.zlen57:Tryz.z57.length=141:=by kernel_rfl
@[go_sem] theorem Tryz.xsz58:Tryz.prog.szT 58=some 141:=by kernel_rfl
@[go_sem] theorem Tryz.xag58:Tryz.prog.aggT 58=some true:=by kernel_rfl
@[go_sem] theorem Tryz.xby58:Tryz.prog.bytesT 58=some 256:=by kernel_rfl
@[go_sem] theorem Tryz.xpl58:Tryz.prog.plT 58=some [(0,1),(1,1),(2,135),(137,1),(138,1),(139,1),(140,1)]:=by kernel_rfl
def Tryz.z58:List Value:=[Value.string ⟨#[]⟩,Value.int IntKind.u64 0,Value.int IntKind.i64 0,Value.int IntKind.i64 0,Value.int IntKind.i64 0,Value.int IntKind.i64 0,Value.bool false,Value.int IntKind.i64 0,Value.int IntKind.i64 0]++List.replicate 128 (Value.int IntKind.u8 0) ++ [Value.int IntKind.i64 0,Value.int IntKind.i64 0,Value.int IntKind.i64 0,Value.slice none 0 0]
@[go_sem] theorem Tryz.xze58:Tryz.prog.zeroT 58=some Tryz.z58:=by kernel_rfl
@[go_sem] theorem Tryz.zok58:zeroOk Tryz.z58=true:=by kernel_rfl
@[go_sem] theorem Tryz.zlen58:Tryz.z58.length=141:=by kernel_rfl
@[go_sem] theorem Tryz.xfl58_0:Tryz.prog.fldT 58 0=some (0,9):=by kernel_rfl
@[go_sem] theorem Tryz.xfl58_2:Tryz.prog.fldT 58 2=some (2,55):=by kernel_rfl
@[go_sem] theorem Tryz.xfl58_3:Tryz.prog.fldT 58 3=some (137,2):=by kernel_rfl
@[go_sem] theorem Tryz.xfl58_4:Tryz.prog.fldT 58 4=some (138,3):=by kernel_rfl
@[go_sem] theorem Tryz.xfl58_5:Tryz.prog.fldT 58 5=some (139,2):=by kernel_rfl
@[go_sem] theorem Tryz.xfl58_6:Tryz.prog.fldT 58 6=some (140,56):=by kernel_rfl
@[go_sem] theorem Tryz.xsz59:Tryz.prog.szT 59=some 1:=by kernel_rfl
@[go_sem] theorem Tryz.xag59:Tryz.prog.aggT 59=some false:=by kernel_rfl
@[go_sem] theorem Tryz.xel59:Tryz.prog.elemT 59=some 68:=by kernel_rfl
@[go_sem] theorem Tryz.xze59:Tryz.prog.zeroT 59=some [Value.slice none 0 0]:=by kernel_rfl
@[go_sem] theorem Tryz.xzk60:zeroOk [Value.string ⟨#[]⟩,Value.int IntKind.i64 0,Value.int IntKind.i64 0,Value.int IntKind.i64 0,Value.int IntKind.i64 0,Value.slice none 0 0,Value.slice none 0 0,Value.slice none 0 0,Value.int IntKind.i64 0]=true:=by kernel_rfl
@[go_sem] theorem Tryz.xsz61:Tryz.prog.szT 61=some 9:=by kernel_rfl
@[go_sem] theorem Tryz.xag61:Tryz.prog.aggT 61=some true:=by kernel_rfl
@[go_sem] theorem Tryz.xby61:Tryz.prog.bytesT 61=some 128:=by kernel_rfl
@[go_sem] theorem Tryz.xpl61:Tryz.prog.plT 61=some [(0,1),(1,2),(3,1),(4,1),(5,1),(6,1),(7,1),(8,1)]:=by kernel_rfl
@[go_sem] theorem Tryz.xze61:Tryz.prog.zeroT 61=some [Value.string ⟨#[]⟩,Value.int IntKind.i64 0,Value.int IntKind.i64 0,Value.int IntKind.i64 0,Value.int IntKind.i64 0,Value.slice none 0 0,Value.slice none 0 0,Value.slice none 0 0,Value.int IntKind.i64 0]:=by kernel_rfl
@[go_sem] theorem Tryz.xfl61_0:Tryz.prog.fldT 61 0=some (0,9):=by kernel_rfl
@[go_sem] theorem Tryz.xfl61_1:Tryz.prog.fldT 61 1=some (1,52):=by kernel_rfl
@[go_sem] theorem Tryz.xfl61_2:Tryz.prog.fldT 61 2=some (3,3):=by kernel_rfl
@[go_sem] theorem Tryz.xfl61_3:Tryz.prog.fldT 61 3=some (4,3):=by kernel_rfl
@[go_sem] theorem Tryz.xfl61_4:Tryz.prog.fldT 61 4=some (5,59):=by kernel_rfl
@[go_sem] theorem Tryz.xfl61_5:Tryz.prog.fldT 61 5=some (6,59):=by kernel_rfl
@[go_sem] theorem Tryz.xfl61_6:Tryz.prog.fldT 61 6=some (7,56):=by kernel_rfl
@[go_sem] theorem Tryz.xfl61_7:Tryz.prog.fldT 61 7=some (8,3):=by kernel_rfl
@[go_sem] theorem Tryz.xzk63:zeroOk [Value.int IntKind.i64 0,Value.string ⟨#[]⟩,Value.int IntKind.i64 0,Value.int IntKind.i64 0,Value.int IntKind.i64 0,Value.int IntKind.i64 0,Value.bool false]=true:=by kernel_rfl
@[go_sem] theorem Tryz.xsz64:Tryz.prog.szT 64=some 7:=by kernel_rfl
@[go_sem] theorem Tryz.xag64:Tryz.prog.aggT 64=some true:=by kernel_rfl
@[go_sem] theorem Tryz.xpl64:Tryz.prog.plT 64=some [(0,1),(1,1),(2,2),(4,2),(6,1)]:=by kernel_rfl
@[go_sem] theorem Tryz.xze64:Tryz.prog.zeroT 64=some [Value.int IntKind.i64 0,Value.string ⟨#[]⟩,Value.int IntKind.i64 0,Value.int IntKind.i64 0,Value.int IntKind.i64 0,Value.int IntKind.i64 0,Value.bool false]:=by kernel_rfl
@[go_sem] theorem Tryz.xfl64_0:Tryz.prog.fldT 64 0=some (0,3):=by kernel_rfl
@[go_sem] theorem Tryz.xfl64_1:Tryz.prog.fldT 64 1=some (1,9):=by kernel_rfl
@[go_sem] theorem Tryz.xfl64_2:Tryz.prog.fldT 64 2=some (2,52):=by kernel_rfl
@[go_sem] theorem Tryz.xfl64_3:Tryz.prog.fldT 64 3=some (4,52):=by kernel_rfl
@[go_sem] theorem Tryz.xfl64_4:Tryz.prog.fldT 64 4=some (6,4):=by kernel_rfl
@[go_sem] theorem Tryz.xzk65:zeroOk [Value.int IntKind.i64 0,Value.int IntKind.i64 0,Value.int IntKind.i64 0,Value.string ⟨#[]⟩,Value.int IntKind.i64 0,Value.int IntKind.i64 0,Value.int IntKind.i64 0,Value.int IntKind.i64 0,Value.bool false,Value.int IntKind.i64 0,Value.string ⟨#[]⟩,Value.int IntKind.i64 0,Value.int IntKind.i64 0,Value.int IntKind.i64 0,Value.int IntKind.i64 0,Value.bool false,Value.int IntKind.i64 0,Value.int IntKind.i64 0,Value.int IntKind.i64 0,Value.string ⟨#[]⟩,Value.int IntKind.i64 0,Value.slice none 0 0]=true:=by kernel_rfl
@[go_sem] theorem Tryz.xsz66:Tryz.prog.szT 66=some 22:=by kernel_rfl
@[go_sem] theorem Tryz.xag66:Tryz.prog.aggT 66=some true:=by kernel_rfl
@[go_sem] theorem Tryz.xby66:Tryz.prog.bytesT 66=some 216:=by kernel_rfl
@[go_sem] theorem Tryz.xpl66:Tryz.prog.plT 66=some [(0,1),(1,1),(2,7),(9,7),(16,1),(17,1),(18,1),(19,1),(20,1),(21,1)]:=by kernel_rfl
@[go_sem] theorem Tryz.xze66:Tryz.prog.zeroT 66=some [Value.int IntKind.i64 0,Value.int IntKind.i64 0,Value.int IntKind.i64 0,Value.string ⟨#[]⟩,Value.int IntKind.i64 0,Value.int IntKind.i64 0,Value.int IntKind.i64 0,Value.int IntKind.i64 0,Value.bool false,Value.int IntKind.i64 0,Value.string ⟨#[]⟩,Value.int IntKind.i64 0,Value.int IntKind.i64 0,Value.int IntKind.i64 0,Value.int IntKind.i64 0,Value.bool false,Value.int IntKind.i64 0,Value.int IntKind.i64 0,Value.int IntKind.i64 0,Value.string ⟨#[]⟩,Value.int IntKind.i64 0,Value.slice none 0 0]:=by kernel_rfl
@[go_sem] theorem Tryz.xfl66_0:Tryz.prog.fldT 66 0=some (0,2):=by kernel_rfl
@[go_sem] theorem Tryz.xfl66_1:Tryz.prog.fldT 66 1=some (1,3):=by kernel_rfl
@[go_sem] theorem Tryz.xfl66_2:Tryz.prog.fldT 66 2=some (2,64):=by kernel_rfl
@[go_sem] theorem Tryz.xfl66_3:Tryz.prog.fldT 66 3=some (9,64):=by kernel_rfl
@[go_sem] theorem Tryz.xfl66_4:Tryz.prog.fldT 66 4=some (16,2):=by kernel_rfl
@[go_sem] theorem Tryz.xfl66_5:Tryz.prog.fldT 66 5=some (17,2):=by kernel_rfl
@[go_sem] theorem Tryz.xfl66_6:Tryz.prog.fldT 66 6=some (18,3):=by kernel_rfl
@[go_sem] theorem Tryz.xfl66_7:Tryz.prog.fldT 66 7=some (19,9):=by kernel_rfl
@[go_sem] theorem Tryz.xfl66_8:Tryz.prog.fldT 66 8=some (20,3):=by kernel_rfl
@[go_sem] theorem Tryz.xfl66_9:Tryz.prog.fldT 66 9=some (21,22):=by kernel_rfl
@[go_sem] theorem Tryz.xsz68:Tryz.prog.szT 68=some 1:=by kernel_rfl
@[go_sem] theorem Tryz.xag68:Tryz.prog.aggT 68=some false:=by kernel_rfl
@[go_sem] theorem Tryz.xel68:Tryz.prog.elemT 68=some 66:=by kernel_rfl
@[go_sem] theorem Tryz.xby68:Tryz.prog.bytesT 68=some 24:=by kernel_rfl
@[go_sem] theorem Tryz.xze68:Tryz.prog.zeroT 68=some [Value.slice none 0 0]:=by kernel_rfl
@[go_sem] theorem Tryz.xzk70:zeroOk [Value.int IntKind.i64 0,Value.int IntKind.i64 0,Value.slice none 0 0]=true:=by kernel_rfl
@[go_sem] theorem Tryz.xsz71:Tryz.prog.szT 71=some 3:=by kernel_rfl
@[go_sem] theorem Tryz.xag71:Tryz.prog.aggT 71=some true:=by kernel_rfl
@[go_sem] theorem Tryz.xby71:Tryz.prog.bytesT 71=some 40:=by kernel_rfl
@[go_sem] theorem Tryz.xpl71:Tryz.prog.plT 71=some [(0,1),(1,1),(2,1)]:=by kernel_rfl
@[go_sem] theorem Tryz.xze71:Tryz.prog.zeroT 71=some [Value.int IntKind.i64 0,Value.int IntKind.i64 0,Value.slice none 0 0]:=by kernel_rfl
@[go_sem] theorem Tryz.xfl71_0:Tryz.prog.fldT 71 0=some (0,2):=by kernel_rfl
@[go_sem] theorem Tryz.xfl71_1:Tryz.prog.fldT 71 1=some (1,2):=by kernel_rfl
@[go_sem] theorem Tryz.xfl71_2:Tryz.prog.fldT 71 2=some (2,38):=by kernel_rfl
@[go_sem] theorem Tryz.xel72:Tryz.prog.elemT 72=some 52:=by kernel_rfl
@[go_sem] theorem Tryz.xsz76:Tryz.prog.szT 76=some 1:=by kernel_rfl
@[go_sem] theorem Tryz.xag76:Tryz.prog.aggT 76=some false:=by kernel_rfl
@[go_sem] theorem Tryz.xby76:Tryz.prog.bytesT 76=some 2:=by kernel_rfl
@[go_sem] theorem Tryz.xze76:Tryz.prog.zeroT 76=some [Value.int IntKind.i16 0]:=by kernel_rfl
@[go_sem] theorem Tryz.xzk76:zeroOk [Value.int IntKind.i16 0]=true:=by kernel_rfl
@[go_sem] theorem Tryz.xsz85:Tryz.prog.szT 85=some 1:=by kernel_rfl
@[go_sem] theorem Tryz.xag85:Tryz.prog.aggT 85=some false:=by kernel_rfl
@[go_sem] theorem Tryz.xzk85:zeroOk [Value.map none]=true:=by kernel_rfl
@[go_sem] theorem Tryz.xmt85:Tryz.prog.mapT 85=some (9,52):=by kernel_rfl
@[go_sem] theorem Tryz.xz152:Tryz.prog.zero1 52=some (Value.agg #[Value.int IntKind.i64 0,Value.int IntKind.i64 0]):=by kernel_rfl
@[go_sem] theorem Tryz.xsz86:Tryz.prog.szT 86=some 1:=by kernel_rfl
@[go_sem] theorem Tryz.xag86:Tryz.prog.aggT 86=some false:=by kernel_rfl
@[go_sem] theorem Tryz.xmt86:Tryz.prog.mapT 86=some (9,35):=by kernel_rfl
@[go_sem] theorem Tryz.xz135:Tryz.prog.zero1 35=some (Value.agg #[Value.string ⟨#[]⟩,Value.slice none 0 0]):=by kernel_rfl
@[go_sem] theorem Tryz.xsz87:Tryz.prog.szT 87=some 1:=by kernel_rfl
@[go_sem] theorem Tryz.xag87:Tryz.prog.aggT 87=some false:=by kernel_rfl
@[go_sem] theorem Tryz.xmt87:Tryz.prog.mapT 87=some (9,83):=by kernel_rfl
@[go_sem] theorem Tryz.xz183:Tryz.prog.zero1 83=some (Value.pointer none):=by kernel_rfl
@[go_sem] theorem Tryz.xzk88:zeroOk [Value.map none,Value.map none,Value.map none]=true:=by kernel_rfl
@[go_sem] theorem Tryz.xpl89:Tryz.prog.plT 89=some [(0,1),(1,1),(2,1)]:=by kernel_rfl
@[go_sem] theorem Tryz.xze89:Tryz.prog.zeroT 89=some [Value.map none,Value.map none,Value.map none]:=by kernel_rfl
@[go_sem] theorem Tryz.xfl89_0:Tryz.prog.fldT 89 0=some (0,85):=by kernel_rfl
@[go_sem] theorem Tryz.xfl89_1:Tryz.prog.fldT 89 1=some (1,86):=by kernel_rfl
@[go_sem] theorem Tryz.xfl89_2:Tryz.prog.fldT 89 2=some (2,87):=by kernel_rfl
@[go_sem] theorem Tryz.xsz93:Tryz.prog.szT 93=some 1:=by kernel_rfl
@[go_sem] theorem Tryz.xag93:Tryz.prog.aggT 93=some false:=by kernel_rfl
@[go_sem] theorem Tryz.xel93:Tryz.prog.elemT 93=some 124:=by kernel_rfl
@[go_sem] theorem Tryz.xzk95:zeroOk [Value.int IntKind.i64 0,Value.int IntKind.i64 0,Value.int IntKind.i64 0,Value.slice none 0 0,Value.map none]=true:=by kernel_rfl
@[go_sem] theorem Tryz.xpl96:Tryz.prog.plT 96=some [(0,2),(2,1),(3,1),(4,1)]:=by kernel_rfl
@[go_sem] theorem Tryz.xze96:Tryz.prog.zeroT 96=some [Value.int IntKind.i64 0,Value.int IntKind.i64 0,Value.int IntKind.i64 0,Value.slice none 0 0,Value.map none]:=by kernel_rfl
@[go_sem] theorem Tryz.xfl96_0:Tryz.prog.fldT 96 0=some (0,52):=by kernel_rfl
@[go_sem] theorem Tryz.xfl96_1:Tryz.prog.fldT 96 1=some (2,3):=by kernel_rfl
@[go_sem] theorem Tryz.xfl96_2:Tryz.prog.fldT 96 2=some (3,93):=by kernel_rfl
@[go_sem] theorem Tryz.xzk97:zeroOk [Value.int IntKind.i64 0,Value.int IntKind.i64 0,Value.int IntKind.i64 0,Value.int IntKind.i64 0]=true:=by kernel_rfl
@[go_sem] theorem Tryz.xsz98:Tryz.prog.szT 98=some 4:=by kernel_rfl
@[go_sem] theorem Tryz.xag98:Tryz.prog.aggT 98=some true:=by kernel_rfl
@[go_sem] theorem Tryz.xze98:Tryz.prog.zeroT 98=some [Value.int IntKind.i64 0,Value.int IntKind.i64 0,Value.int IntKind.i64 0,Value.int IntKind.i64 0]:=by kernel_rfl
@[go_sem] theorem Tryz.xsz115:Tryz.prog.szT 115=some 1:=by kernel_rfl
@[go_sem] theorem Tryz.xag115:Tryz.prog.aggT 115=some false:=by kernel_rfl
@[go_sem] theorem Tryz.xmt115:Tryz.prog.mapT 115=some (9,58):=by kernel_rfl
@[go_sem] theorem Tryz.xz158:Tryz.prog.zero1 58=some (Value.agg #[Value.string ⟨#[]⟩,Value.int IntKind.u64 0,Value.int IntKind.i64 0,Value.int IntKind.i64 0,Value.int IntKind.i64 0,Value.int IntKind.i64 0,Value.bool false,Value.int IntKind.i64 0,Value.int IntKind.i64 0,Value.int IntKind.u8 0,Value.int IntKind.u8 0,Value.int IntKind.u8 0,Value.int IntKind.u8 0,Value.int IntKind.u8 0,Value.int IntKind.u8 0,Value.int IntKind.u8 0,Value.int IntKind.u8 0,Value.int IntKind.u8 0,Value.int IntKind.u8 0,Value.int IntKind.u8 0,Value.int IntKind.u8 0,Value.int IntKind.u8 0,Value.int IntKind.u8 0,Value.int IntKind.u8 0,Value.int IntKind.u8 0,Value.int IntKind.u8 0,Value.int IntKind.u8 0,Value.int IntKind.u8 0,Value.int IntKind.u8 0,Value.int IntKind.u8 0,Value.int IntKind.u8 0,Value.int IntKind.u8 0,Value.int IntKind.u8 0,Value.int IntKind.u8 0,Value.int IntKind.u8 0,Value.int IntKind.u8 0,Value.int IntKind.u8 0,Value.int IntKind.u8 0,Value.int IntKind.u8 0,Value.int IntKind.u8 0,Value.int IntKind.u8 0,Value.int IntKind.u8 0,Value.int IntKind.u8 0,Value.int IntKind.u8 0,Value.int IntKind.u8 0,Value.int IntKind.u8 0,Value.int IntKind.u8 0,Value.int IntKind.u8 0,Value.int IntKind.u8 0,Value.int IntKind.u8 0,Value.int IntKind.u8 0,Value.int IntKind.u8 0,Value.int IntKind.u8 0,Value.int IntKind.u8 0,Value.int IntKind.u8 0,Value.int IntKind.u8 0,Value.int IntKind.u8 0,Value.int IntKind.u8 0,Value.int IntKind.u8 0,Value.int IntKind.u8 0,Value.int IntKind.u8 0,Value.int IntKind.u8 0,Value.int IntKind.u8 0,Value.int IntKind.u8 0,Value.int IntKind.u8 0,Value.int IntKind.u8 0,Value.int IntKind.u8 0,Value.int IntKind.u8 0,Value.int IntKind.u8 0,Value.int IntKind.u8 0,Value.int IntKind.u8 0,Value.int IntKind.u8 0,Value.int IntKind.u8 0,Value.int IntKind.u8 0,Value.int IntKind.u8 0,Value.int IntKind.u8 0,Value.int IntKind.u8 0,Value.int IntKind.u8 0,Value.int IntKind.u8 0,Value.int IntKind.u8 0,Value.int IntKind.u8 0,Value.int IntKind.u8 0,Value.int IntKind.u8 0,Value.int IntKind.u8 0,Value.int IntKind.u8 0,Value.int IntKind.u8 0,Value.int IntKind.u8 0,Value.int IntKind.u8 0,Value.int IntKind.u8 0,Value.int IntKind.u8 0,Value.int IntKind.u8 0,Value.int IntKind.u8 0,Value.int IntKind.u8 0,Value.int IntKind.u8 0,Value.int IntKind.u8 0,Value.int IntKind.u8 0,Value.int IntKind.u8 0,Value.int IntKind.u8 0,Value.int IntKind.u8 0,Value.int IntKind.u8 0,Value.int IntKind.u8 0,Value.int IntKind.u8 0,Value.int IntKind.u8 0,Value.int IntKind.u8 0,Value.int IntKind.u8 0,Value.int IntKind.u8 0,Value.int IntKind.u8 0,Value.int IntKind.u8 0,Value.int IntKind.u8 0,Value.int IntKind.u8 0,Value.int IntKind.u8 0,Value.int IntKind.u8 0,Value.int IntKind.u8 0,Value.int IntKind.u8 0,Value.int IntKind.u8 0,Value.int IntKind.u8 0,Value.int IntKind.u8 0,Value.int IntKind.u8 0,Value.int IntKind.u8 0,Value.int IntKind.u8 0,Value.int IntKind.u8 0,Value.int IntKind.u8 0,Value.int IntKind.u8 0,Value.int IntKind.u8 0,Value.int IntKind.u8 0,Value.int IntKind.u8 0,Value.int IntKind.u8 0,Value.int IntKind.u8 0,Value.int IntKind.u8 0,Value.int IntKind.u8 0,Value.int IntKind.u8 0,Value.int IntKind.u8 0,Value.int IntKind.u8 0,Value.int IntKind.u8 0,Value.int IntKind.u8 0,Value.int IntKind.u8 0,Value.int IntKind.u8 0,Value.int IntKind.i64 0,Value.int IntKind.i64 0,Value.int IntKind.i64 0,Value.slice none 0 0]):=by kernel_rfl
@[go_sem] theorem Tryz.xsz116:Tryz.prog.szT 116=some 1:=by kernel_rfl
@[go_sem] theorem Tryz.xag116:Tryz.prog.aggT 116=some false:=by kernel_rfl
@[go_sem] theorem Tryz.xmt116:Tryz.prog.mapT 116=some (9,61):=by kernel_rfl
@[go_sem] theorem Tryz.xz161:Tryz.prog.zero1 61=some (Value.agg #[Value.string ⟨#[]⟩,Value.int IntKind.i64 0,Value.int IntKind.i64 0,Value.int IntKind.i64 0,Value.int IntKind.i64 0,Value.slice none 0 0,Value.slice none 0 0,Value.slice none 0 0,Value.int IntKind.i64 0]):=by kernel_rfl
@[go_sem] theorem Tryz.xzk117:zeroOk [Value.map none,Value.map none]=true:=by kernel_rfl
@[go_sem] theorem Tryz.xsz118:Tryz.prog.szT 118=some 2:=by kernel_rfl
@[go_sem] theorem Tryz.xag118:Tryz.prog.aggT 118=some true:=by kernel_rfl
@[go_sem] theorem Tryz.xpl118:Tryz.prog.plT 118=some [(0,1),(1,1)]:=by kernel_rfl
@[go_sem] theorem Tryz.xze118:Tryz.prog.zeroT 118=some [Value.map none,Value.map none]:=by kernel_rfl
@[go_sem] theorem Tryz.xfl118_0:Tryz.prog.fldT 118 0=some (0,115):=by kernel_rfl
@[go_sem] theorem Tryz.xfl118_1:Tryz.prog.fldT 118 1=some (1,116):=by kernel_rfl
@[go_sem] theorem Tryz.xmt120:Tryz.prog.mapT 120=some (9,3):=by kernel_rfl
@[go_sem] theorem Tryz.xz13:Tryz.prog.zero1 3=some (Value.int IntKind.i64 0):=by kernel_rfl
@[go_sem] theorem Tryz.xzk123:zeroOk [Value.slice none 0 0,Value.slice none 0 0,Value.int IntKind.i64 0]=true:=by kernel_rfl
@[go_sem] theorem Tryz.xsz124:Tryz.prog.szT 124=some 3:=by kernel_rfl
@[go_sem] theorem Tryz.xag124:Tryz.prog.aggT 124=some true:=by kernel_rfl
@[go_sem] theorem Tryz.xby124:Tryz.prog.bytesT 124=some 56:=by kernel_rfl
@[go_sem] theorem Tryz.xpl124:Tryz.prog.plT 124=some [(0,1),(1,1),(2,1)]:=by kernel_rfl
@[go_sem] theorem Tryz.xze124:Tryz.prog.zeroT 124=some [Value.slice none 0 0,Value.slice none 0 0,Value.int IntKind.i64 0]:=by kernel_rfl
@[go_sem] theorem Tryz.xfl124_0:Tryz.prog.fldT 124 0=some (0,68):=by kernel_rfl
@[go_sem] theorem Tryz.xfl124_1:Tryz.prog.fldT 124 1=some (1,39):=by kernel_rfl
@[go_sem] theorem Tryz.xfl124_2:Tryz.prog.fldT 124 2=some (2,2):=by kernel_rfl
@[go_sem] theorem Tryz.xpl159:Tryz.prog.plT 159=some [(0,7),(7,7)]:=by kernel_rfl
@[go_sem] theorem Tryz.xze159:Tryz.prog.zeroT 159=some [Value.int IntKind.i64 0,Value.string ⟨#[]⟩,Value.int IntKind.i64 0,Value.int IntKind.i64 0,Value.int IntKind.i64 0,Value.int IntKind.i64 0,Value.bool false,Value.int IntKind.i64 0,Value.string ⟨#[]⟩,Value.int IntKind.i64 0,Value.int IntKind.i64 0,Value.int IntKind.i64 0,Value.int IntKind.i64 0,Value.bool false]:=by kernel_rfl
@[go_sem] theorem Tryz.xzk159:zeroOk [Value.int IntKind.i64 0,Value.string ⟨#[]⟩,Value.int IntKind.i64 0,Value.int IntKind.i64 0,Value.int IntKind.i64 0,Value.int IntKind.i64 0,Value.bool false,Value.int IntKind.i64 0,Value.string ⟨#[]⟩,Value.int IntKind.i64 0,Value.int IntKind.i64 0,Value.int IntKind.i64 0,Value.int IntKind.i64 0,Value.bool false]=true:=by kernel_rfl
@[go_sem] theorem Tryz.xzk168:zeroOk [Value.int IntKind.i64 0,Value.int IntKind.i64 0,Value.int IntKind.i64 0,Value.int IntKind.i64 0,Value.int IntKind.i64 0]=true:=by kernel_rfl
@[go_sem] theorem Tryz.xsz169:Tryz.prog.szT 169=some 5:=by kernel_rfl
@[go_sem] theorem Tryz.xag169:Tryz.prog.aggT 169=some true:=by kernel_rfl
@[go_sem] theorem Tryz.xpl169:Tryz.prog.plT 169=some [(0,1),(1,4)]:=by kernel_rfl
@[go_sem] theorem Tryz.xze169:Tryz.prog.zeroT 169=some [Value.int IntKind.i64 0,Value.int IntKind.i64 0,Value.int IntKind.i64 0,Value.int IntKind.i64 0,Value.int IntKind.i64 0]:=by kernel_rfl
@[go_sem] theorem Tryz.xfl169_0:Tryz.prog.fldT 169 0=some (0,3):=by kernel_rfl
@[go_sem] theorem Tryz.xfl169_1:Tryz.prog.fldT 169 1=some (1,98):=by kernel_rfl
@[go_sem] theorem Tryz.xel174:Tryz.prog.elemT 174=some 59:=by kernel_rfl
@[go_sem] theorem Tryz.xsz187:Tryz.prog.szT 187=some 1:=by kernel_rfl
@[go_sem] theorem Tryz.xag187:Tryz.prog.aggT 187=some false:=by kernel_rfl
@[go_sem] theorem Tryz.xze187:Tryz.prog.zeroT 187=some [Value.map none]:=by kernel_rfl
@[go_sem] theorem Tryz.xmt187:Tryz.prog.mapT 187=some (9,4):=by kernel_rfl
@[go_sem] theorem Tryz.xzk193:zeroOk [Value.bool false,Value.int IntKind.u64 0,Value.int IntKind.u64 0]=true:=by kernel_rfl
@[go_sem] theorem Tryz.xsz194:Tryz.prog.szT 194=some 3:=by kernel_rfl
@[go_sem] theorem Tryz.xag194:Tryz.prog.aggT 194=some true:=by kernel_rfl
@[go_sem] theorem Tryz.xpl194:Tryz.prog.plT 194=some [(0,1),(1,1),(2,1)]:=by kernel_rfl
@[go_sem] theorem Tryz.xze194:Tryz.prog.zeroT 194=some [Value.bool false,Value.int IntKind.u64 0,Value.int IntKind.u64 0]:=by kernel_rfl
@[go_sem] theorem Tryz.xfl194_0:Tryz.prog.fldT 194 0=some (0,4):=by kernel_rfl
@[go_sem] theorem Tryz.xfl194_1:Tryz.prog.fldT 194 1=some (1,50):=by kernel_rfl
@[go_sem] theorem Tryz.xfl194_2:Tryz.prog.fldT 194 2=some (2,50):=by kernel_rfl
attribute [go_sem] Tryz.underlying0 Tryz.underlying1 Tryz.underlying2 Tryz.underlying3 Tryz.underlying4 Tryz.underlying5 Tryz.underlying6 Tryz.underlying7 Tryz.underlying8 Tryz.underlying9 Tryz.underlying10 Tryz.underlying11 Tryz.underlying12 Tryz.underlying13 Tryz.underlying14 Tryz.underlying15 Tryz.underlying16 Tryz.underlying17 Tryz.underlying18 Tryz.underlying19 Tryz.underlying20 Tryz.underlying21 Tryz.underlying22 Tryz.underlying23 Tryz.underlying24 Tryz.underlying25 Tryz.underlying26 Tryz.underlying27 Tryz.underlying28 Tryz.underlying29 Tryz.underlying30 Tryz.underlying31 Tryz.underlying32 Tryz.underlying33 Tryz.underlying34 Tryz.underlying35 Tryz.underlying36 Tryz.underlying37 Tryz.underlying38 Tryz.underlying39 Tryz.underlying40 Tryz.underlying41 Tryz.underlying42 Tryz.underlying43 Tryz.underlying44 Tryz.underlying45 Tryz.underlying46 Tryz.underlying47 Tryz.underlying48 Tryz.underlying49 Tryz.underlying50 Tryz.underlying51 Tryz.underlying52 Tryz.underlying53 Tryz.underlying54 Tryz.underlying55 Tryz.underlying56 Tryz.underlying57 Tryz.underlying58 Tryz.underlying59 Tryz.underlying60 Tryz.underlying61 Tryz.underlying62 Tryz.underlying63 Tryz.underlying64 Tryz.underlying65 Tryz.underlying66 Tryz.underlying67 Tryz.underlying68 Tryz.underlying69 Tryz.underlying70 Tryz.underlying71 Tryz.underlying72 Tryz.underlying73 Tryz.underlying74 Tryz.underlying75 Tryz.underlying76 Tryz.underlying77 Tryz.underlying78 Tryz.underlying79 Tryz.underlying80 Tryz.underlying81 Tryz.underlying82 Tryz.underlying83 Tryz.underlying84 Tryz.underlying85 Tryz.underlying86 Tryz.underlying87 Tryz.underlying88 Tryz.underlying89 Tryz.underlying90 Tryz.underlying91 Tryz.underlying92 Tryz.underlying93 Tryz.underlying94 Tryz.underlying95 Tryz.underlying96 Tryz.underlying97 Tryz.underlying98 Tryz.underlying99 Tryz.underlying100 Tryz.underlying101 Tryz.underlying102 Tryz.underlying103 Tryz.underlying104 Tryz.underlying105 Tryz.underlying106 Tryz.underlying107 Tryz.underlying108 Tryz.underlying109 Tryz.underlying110 Tryz.underlying111 Tryz.underlying112 Tryz.underlying113 Tryz.underlying114 Tryz.underlying115 Tryz.underlying116 Tryz.underlying117 Tryz.underlying118 Tryz.underlying119 Tryz.underlying120 Tryz.underlying121 Tryz.underlying122 Tryz.underlying123 Tryz.underlying124 Tryz.underlying125 Tryz.underlying126 Tryz.underlying127 Tryz.underlying128 Tryz.underlying129 Tryz.underlying130 Tryz.underlying131 Tryz.underlying132 Tryz.underlying133 Tryz.underlying134 Tryz.underlying135 Tryz.underlying136 Tryz.underlying137 Tryz.underlying138 Tryz.underlying139 Tryz.underlying140 Tryz.underlying141 Tryz.underlying142 Tryz.underlying143 Tryz.underlying144 Tryz.underlying145 Tryz.underlying146 Tryz.underlying147 Tryz.underlying148 Tryz.underlying149 Tryz.underlying150 Tryz.underlying151 Tryz.underlying152 Tryz.underlying153 Tryz.underlying154 Tryz.underlying155 Tryz.underlying156 Tryz.underlying157 Tryz.underlying158 Tryz.underlying159 Tryz.underlying160 Tryz.underlying161 Tryz.underlying162 Tryz.underlying163 Tryz.underlying164 Tryz.underlying165 Tryz.underlying166 Tryz.underlying167 Tryz.underlying168 Tryz.underlying169 Tryz.underlying170 Tryz.underlying171 Tryz.underlying172 Tryz.underlying173 Tryz.underlying174 Tryz.underlying175 Tryz.underlying176 Tryz.underlying177 Tryz.underlying178 Tryz.underlying179 Tryz.underlying180 Tryz.underlying181 Tryz.underlying182 Tryz.underlying183 Tryz.underlying184 Tryz.underlying185 Tryz.underlying186 Tryz.underlying187 Tryz.underlying188 Tryz.underlying189 Tryz.underlying190 Tryz.underlying191 Tryz.underlying192 Tryz.underlying193 Tryz.underlying194 Tryz.underlying195 Tryz.underlying196 Tryz.underlying197 Tryz.underlying198 Tryz.underlying199 Tryz.underlying200 Tryz.underlying201 Tryz.underlying202 Tryz.underlying203 Tryz.underlying204 Tryz.underlying205 Tryz.underlying206 Tryz.underlying207 Tryz.underlying208 Tryz.underlying209 Tryz.underlying210 Tryz.underlying211 Tryz.underlying212 Tryz.underlying213 Tryz.underlying214 Tryz.underlying215 Tryz.underlying216 Tryz.underlying217 Tryz.underlying218 Tryz.underlying219 Tryz.underlying220 Tryz.underlying221 Tryz.underlying222 Tryz.underlying223 Tryz.underlying224 Tryz.underlying225 Tryz.underlying226 Tryz.underlying227 Tryz.underlying228 Tryz.underlying229 Tryz.underlying230 Tryz.underlying231 Tryz.underlying232 Tryz.underlying233 Tryz.underlying234 Tryz.underlying235 Tryz.underlying236 Tryz.underlying237 Tryz.underlying238 Tryz.underlying239 Tryz.underlying240 Tryz.underlying241 Tryz.underlying242 Tryz.underlying243 Tryz.underlying244 Tryz.underlying245 Tryz.underlying246 Tryz.underlying247 Tryz.underlying248 Tryz.underlying249 Tryz.underlying250 Tryz.underlying251 Tryz.underlying252 Tryz.underlying253 Tryz.underlying254 Tryz.underlying255 Tryz.underlying256 Tryz.underlying257 Tryz.underlying258 Tryz.underlying259 Tryz.underlying260 Tryz.underlying261 Tryz.underlying262 Tryz.underlying263 Tryz.underlying264 Tryz.underlying265 Tryz.underlying266 Tryz.underlying267 Tryz.underlying268
@[go_sem] theorem Tryz.xio2:Tryz.prog.ioF 2=false:=by kernel_rfl
@[go_sem] theorem Tryz.xio3:Tryz.prog.ioF 3=false:=by kernel_rfl
@[go_sem] theorem Tryz.xio4:Tryz.prog.ioF 4=false:=by kernel_rfl
@[go_sem] theorem Tryz.xio5:Tryz.prog.ioF 5=false:=by kernel_rfl
theorem Tryz.xen5:Tryz.prog.enters 5=true:=by kernel_rfl
@[go_sem] theorem Tryz.xio6:Tryz.prog.ioF 6=false:=by kernel_rfl
@[go_sem] theorem Tryz.xio7:Tryz.prog.ioF 7=false:=by kernel_rfl
theorem Tryz.xen7:Tryz.prog.enters 7=true:=by kernel_rfl
@[go_sem] theorem Tryz.xio8:Tryz.prog.ioF 8=false:=by kernel_rfl
theorem Tryz.xen8:Tryz.prog.enters 8=true:=by kernel_rfl
@[go_sem] theorem Tryz.xio9:Tryz.prog.ioF 9=true:=by kernel_rfl
theorem Tryz.xen9:Tryz.prog.enters 9=true:=by kernel_rfl
@[go_sem] theorem Tryz.xio10:Tryz.prog.ioF 10=false:=by kernel_rfl
theorem Tryz.xen10:Tryz.prog.enters 10=true:=by kernel_rfl
@[go_sem] theorem Tryz.xio11:Tryz.prog.ioF 11=false:=by kernel_rfl
@[go_sem] theorem Tryz.xio12:Tryz.prog.ioF 12=false:=by kernel_rfl
theorem Tryz.xen12:Tryz.prog.enters 12=true:=by kernel_rfl
@[go_sem] theorem Tryz.xio13:Tryz.prog.ioF 13=false:=by kernel_rfl
theorem Tryz.xen13:Tryz.prog.enters 13=true:=by kernel_rfl
@[go_sem] theorem Tryz.xio14:Tryz.prog.ioF 14=false:=by kernel_rfl
theorem Tryz.xen14:Tryz.prog.enters 14=true:=by kernel_rfl
@[go_sem] theorem Tryz.xio15:Tryz.prog.ioF 15=true:=by kernel_rfl
theorem Tryz.xen15:Tryz.prog.enters 15=true:=by kernel_rfl
@[go_sem] theorem Tryz.xio16:Tryz.prog.ioF 16=true:=by kernel_rfl
theorem Tryz.xen16:Tryz.prog.enters 16=true:=by kernel_rfl
@[go_sem] theorem Tryz.xio17:Tryz.prog.ioF 17=true:=by kernel_rfl
theorem Tryz.xen17:Tryz.prog.enters 17=true:=by kernel_rfl
@[go_sem] theorem Tryz.xio18:Tryz.prog.ioF 18=true:=by kernel_rfl
theorem Tryz.xen18:Tryz.prog.enters 18=true:=by kernel_rfl
@[go_sem] theorem Tryz.xio19:Tryz.prog.ioF 19=false:=by kernel_rfl
theorem Tryz.xen19:Tryz.prog.enters 19=true:=by kernel_rfl
@[go_sem] theorem Tryz.xio20:Tryz.prog.ioF 20=false:=by kernel_rfl
theorem Tryz.xen20:Tryz.prog.enters 20=true:=by kernel_rfl
@[go_sem] theorem Tryz.xio21:Tryz.prog.ioF 21=true:=by kernel_rfl
theorem Tryz.xen21:Tryz.prog.enters 21=true:=by kernel_rfl
@[go_sem] theorem Tryz.xio22:Tryz.prog.ioF 22=false:=by kernel_rfl
theorem Tryz.xen22:Tryz.prog.enters 22=true:=by kernel_rfl
@[go_sem] theorem Tryz.xio23:Tryz.prog.ioF 23=false:=by kernel_rfl
theorem Tryz.xen23:Tryz.prog.enters 23=true:=by kernel_rfl
@[go_sem] theorem Tryz.xio24:Tryz.prog.ioF 24=false:=by kernel_rfl
theorem Tryz.xen24:Tryz.prog.enters 24=true:=by kernel_rfl
@[go_sem] theorem Tryz.xio25:Tryz.prog.ioF 25=false:=by kernel_rfl
theorem Tryz.xen25:Tryz.prog.enters 25=true:=by kernel_rfl
@[go_sem] theorem Tryz.xio26:Tryz.prog.ioF 26=false:=by kernel_rfl
@[go_sem] theorem Tryz.xio27:Tryz.prog.ioF 27=false:=by kernel_rfl
@[go_sem] theorem Tryz.xio28:Tryz.prog.ioF 28=false:=by kernel_rfl
@[go_sem] theorem Tryz.xio29:Tryz.prog.ioF 29=false:=by kernel_rfl
@[go_sem] theorem Tryz.xio30:Tryz.prog.ioF 30=false:=by kernel_rfl
@[go_sem] theorem Tryz.xio31:Tryz.prog.ioF 31=false:=by kernel_rfl
theorem Tryz.xen31:Tryz.prog.enters 31=true:=by kernel_rfl
@[go_sem] theorem Tryz.xio32:Tryz.prog.ioF 32=false:=by kernel_rfl
theorem Tryz.xen32:Tryz.prog.enters 32=true:=by kernel_rfl
@[go_sem] theorem Tryz.xio33:Tryz.prog.ioF 33=false:=by kernel_rfl
theorem Tryz.xen33:Tryz.prog.enters 33=true:=by kernel_rfl
@[go_sem] theorem Tryz.xio34:Tryz.prog.ioF 34=true:=by kernel_rfl
theorem Tryz.xen34:Tryz.prog.enters 34=true:=by kernel_rfl
@[go_sem] theorem Tryz.xio35:Tryz.prog.ioF 35=false:=by kernel_rfl
theorem Tryz.xen35:Tryz.prog.enters 35=true:=by kernel_rfl
@[go_sem] theorem Tryz.xio36:Tryz.prog.ioF 36=false:=by kernel_rfl
theorem Tryz.xen36:Tryz.prog.enters 36=true:=by kernel_rfl
@[go_sem] theorem Tryz.xio37:Tryz.prog.ioF 37=false:=by kernel_rfl
theorem Tryz.xen37:Tryz.prog.enters 37=true:=by kernel_rfl
@[go_sem] theorem Tryz.xio38:Tryz.prog.ioF 38=false:=by kernel_rfl
theorem Tryz.xen38:Tryz.prog.enters 38=true:=by kernel_rfl
@[go_sem] theorem Tryz.xio39:Tryz.prog.ioF 39=false:=by kernel_rfl
theorem Tryz.xen39:Tryz.prog.enters 39=true:=by kernel_rfl
@[go_sem] theorem Tryz.xio40:Tryz.prog.ioF 40=false:=by kernel_rfl
theorem Tryz.xen40:Tryz.prog.enters 40=true:=by kernel_rfl
@[go_sem] theorem Tryz.xio41:Tryz.prog.ioF 41=true:=by kernel_rfl
theorem Tryz.xen41:Tryz.prog.enters 41=true:=by kernel_rfl
@[go_sem] theorem Tryz.xio42:Tryz.prog.ioF 42=false:=by kernel_rfl
theorem Tryz.xen42:Tryz.prog.enters 42=true:=by kernel_rfl
@[go_sem] theorem Tryz.xio43:Tryz.prog.ioF 43=false:=by kernel_rfl
theorem Tryz.xen43:Tryz.prog.enters 43=true:=by kernel_rfl
@[go_sem] theorem Tryz.xio44:Tryz.prog.ioF 44=false:=by kernel_rfl
theorem Tryz.xen44:Tryz.prog.enters 44=true:=by kernel_rfl
@[go_sem] theorem Tryz.xio45:Tryz.prog.ioF 45=false:=by kernel_rfl
theorem Tryz.xen45:Tryz.prog.enters 45=true:=by kernel_rfl
@[go_sem] theorem Tryz.xio46:Tryz.prog.ioF 46=false:=by kernel_rfl
theorem Tryz.xen46:Tryz.prog.enters 46=true:=by kernel_rfl
@[go_sem] theorem Tryz.xio47:Tryz.prog.ioF 47=false:=by kernel_rfl
theorem Tryz.xen47:Tryz.prog.enters 47=true:=by kernel_rfl
@[go_sem] theorem Tryz.xio48:Tryz.prog.ioF 48=false:=by kernel_rfl
theorem Tryz.xen48:Tryz.prog.enters 48=true:=by kernel_rfl
@[go_sem] theorem Tryz.xio49:Tryz.prog.ioF 49=false:=by kernel_rfl
theorem Tryz.xen49:Tryz.prog.enters 49=true:=by kernel_rfl
@[go_sem] theorem Tryz.xio50:Tryz.prog.ioF 50=false:=by kernel_rfl
theorem Tryz.xen50:Tryz.prog.enters 50=true:=by kernel_rfl
@[go_sem] theorem Tryz.xio51:Tryz.prog.ioF 51=false:=by kernel_rfl
theorem Tryz.xen51:Tryz.prog.enters 51=true:=by kernel_rfl
@[go_sem] theorem Tryz.xio52:Tryz.prog.ioF 52=true:=by kernel_rfl
theorem Tryz.xen52:Tryz.prog.enters 52=true:=by kernel_rfl
@[go_sem] theorem Tryz.xio53:Tryz.prog.ioF 53=false:=by kernel_rfl
@[go_sem] theorem Tryz.xio54:Tryz.prog.ioF 54=false:=by kernel_rfl
@[go_sem] theorem Tryz.xio55:Tryz.prog.ioF 55=false:=by kernel_rfl
@[go_sem] theorem Tryz.xio56:Tryz.prog.ioF 56=false:=by kernel_rfl
@[go_sem] theorem Tryz.xio57:Tryz.prog.ioF 57=false:=by kernel_rfl
@[go_sem] theorem Tryz.xio58:Tryz.prog.ioF 58=false:=by kernel_rfl
@[go_sem] theorem Tryz.xio59:Tryz.prog.ioF 59=false:=by kernel_rfl
@[go_sem] theorem Tryz.xio60:Tryz.prog.ioF 60=false:=by kernel_rfl
@[go_sem] theorem Tryz.xio61:Tryz.prog.ioF 61=false:=by kernel_rfl
@[go_sem] theorem Tryz.xio62:Tryz.prog.ioF 62=false:=by kernel_rfl
@[go_sem] theorem Tryz.xio63:Tryz.prog.ioF 63=false:=by kernel_rfl
@[go_sem] theorem Tryz.xio64:Tryz.prog.ioF 64=false:=by kernel_rfl
@[go_sem] theorem Tryz.xio65:Tryz.prog.ioF 65=false:=by kernel_rfl
@[go_sem] theorem Tryz.xio66:Tryz.prog.ioF 66=true:=by kernel_rfl
theorem Tryz.xen66:Tryz.prog.enters 66=true:=by kernel_rfl
@[go_sem] theorem Tryz.xio67:Tryz.prog.ioF 67=true:=by kernel_rfl
theorem Tryz.xen67:Tryz.prog.enters 67=true:=by kernel_rfl
@[go_sem] theorem Tryz.xio68:Tryz.prog.ioF 68=false:=by kernel_rfl
theorem Tryz.xen68:Tryz.prog.enters 68=true:=by kernel_rfl
@[go_sem] theorem Tryz.xio69:Tryz.prog.ioF 69=false:=by kernel_rfl
theorem Tryz.xen69:Tryz.prog.enters 69=true:=by kernel_rfl
@[go_sem] theorem Tryz.xio70:Tryz.prog.ioF 70=false:=by kernel_rfl
theorem Tryz.xen70:Tryz.prog.enters 70=true:=by kernel_rfl
@[go_sem] theorem Tryz.xio71:Tryz.prog.ioF 71=false:=by kernel_rfl
theorem Tryz.xen71:Tryz.prog.enters 71=true:=by kernel_rfl
@[go_sem] theorem Tryz.xio72:Tryz.prog.ioF 72=false:=by kernel_rfl
theorem Tryz.xen72:Tryz.prog.enters 72=true:=by kernel_rfl
@[go_sem] theorem Tryz.xio73:Tryz.prog.ioF 73=false:=by kernel_rfl
theorem Tryz.xen73:Tryz.prog.enters 73=true:=by kernel_rfl
@[go_sem] theorem Tryz.xio74:Tryz.prog.ioF 74=false:=by kernel_rfl
theorem Tryz.xen74:Tryz.prog.enters 74=true:=by kernel_rfl
@[go_sem] theorem Tryz.xio75:Tryz.prog.ioF 75=false:=by kernel_rfl
theorem Tryz.xen75:Tryz.prog.enters 75=true:=by kernel_rfl
@[go_sem] theorem Tryz.xio76:Tryz.prog.ioF 76=false:=by kernel_rfl
theorem Tryz.xen76:Tryz.prog.enters 76=true:=by kernel_rfl
@[go_sem] theorem Tryz.xio77:Tryz.prog.ioF 77=false:=by kernel_rfl
theorem Tryz.xen77:Tryz.prog.enters 77=true:=by kernel_rfl
@[go_sem] theorem Tryz.xio78:Tryz.prog.ioF 78=false:=by kernel_rfl
theorem Tryz.xen78:Tryz.prog.enters 78=true:=by kernel_rfl
@[go_sem] theorem Tryz.xio79:Tryz.prog.ioF 79=false:=by kernel_rfl
theorem Tryz.xen79:Tryz.prog.enters 79=true:=by kernel_rfl
@[go_sem] theorem Tryz.xio80:Tryz.prog.ioF 80=false:=by kernel_rfl
theorem Tryz.xen80:Tryz.prog.enters 80=true:=by kernel_rfl
@[go_sem] theorem Tryz.xio81:Tryz.prog.ioF 81=true:=by kernel_rfl
theorem Tryz.xen81:Tryz.prog.enters 81=true:=by kernel_rfl
@[go_sem] theorem Tryz.xio82:Tryz.prog.ioF 82=false:=by kernel_rfl
theorem Tryz.xen82:Tryz.prog.enters 82=true:=by kernel_rfl
@[go_sem] theorem Tryz.xio83:Tryz.prog.ioF 83=false:=by kernel_rfl
theorem Tryz.xen83:Tryz.prog.enters 83=true:=by kernel_rfl
@[go_sem] theorem Tryz.xio84:Tryz.prog.ioF 84=false:=by kernel_rfl
theorem Tryz.xen84:Tryz.prog.enters 84=true:=by kernel_rfl
@[go_sem] theorem Tryz.xio85:Tryz.prog.ioF 85=false:=by kernel_rfl
theorem Tryz.xen85:Tryz.prog.enters 85=true:=by kernel_rfl
@[go_sem] theorem Tryz.xio86:Tryz.prog.ioF 86=false:=by kernel_rfl
theorem Tryz.xen86:Tryz.prog.enters 86=true:=by kernel_rfl
@[go_sem] theorem Tryz.xio87:Tryz.prog.ioF 87=false:=by kernel_rfl
theorem Tryz.xen87:Tryz.prog.enters 87=true:=by kernel_rfl
@[go_sem] theorem Tryz.xio88:Tryz.prog.ioF 88=false:=by kernel_rfl
theorem Tryz.xen88:Tryz.prog.enters 88=true:=by kernel_rfl
@[go_sem] theorem Tryz.xio89:Tryz.prog.ioF 89=false:=by kernel_rfl
theorem Tryz.xen89:Tryz.prog.enters 89=true:=by kernel_rfl
@[go_sem] theorem Tryz.xio90:Tryz.prog.ioF 90=false:=by kernel_rfl
theorem Tryz.xen90:Tryz.prog.enters 90=true:=by kernel_rfl
@[go_sem] theorem Tryz.xio91:Tryz.prog.ioF 91=false:=by kernel_rfl
theorem Tryz.xen91:Tryz.prog.enters 91=true:=by kernel_rfl
@[go_sem] theorem Tryz.xio92:Tryz.prog.ioF 92=false:=by kernel_rfl
theorem Tryz.xen92:Tryz.prog.enters 92=true:=by kernel_rfl
@[go_sem] theorem Tryz.xio93:Tryz.prog.ioF 93=false:=by kernel_rfl
theorem Tryz.xen93:Tryz.prog.enters 93=true:=by kernel_rfl
@[go_sem] theorem Tryz.xio94:Tryz.prog.ioF 94=false:=by kernel_rfl
@[go_sem] theorem Tryz.xio95:Tryz.prog.ioF 95=false:=by kernel_rfl
@[go_sem] theorem Tryz.xio96:Tryz.prog.ioF 96=false:=by kernel_rfl
@[go_sem] theorem Tryz.xio97:Tryz.prog.ioF 97=false:=by kernel_rfl
@[go_sem] theorem Tryz.xio98:Tryz.prog.ioF 98=false:=by kernel_rfl
@[go_sem] theorem Tryz.xio99:Tryz.prog.ioF 99=false:=by kernel_rfl
@[go_sem] theorem Tryz.xio100:Tryz.prog.ioF 100=false:=by kernel_rfl
@[go_sem] theorem Tryz.xio101:Tryz.prog.ioF 101=false:=by kernel_rfl
@[go_sem] theorem Tryz.xio102:Tryz.prog.ioF 102=false:=by kernel_rfl
@[go_sem] theorem Tryz.xio103:Tryz.prog.ioF 103=false:=by kernel_rfl
@[go_sem] theorem Tryz.xio104:Tryz.prog.ioF 104=false:=by kernel_rfl
@[go_sem] theorem Tryz.xio105:Tryz.prog.ioF 105=false:=by kernel_rfl
@[go_sem] theorem Tryz.xio106:Tryz.prog.ioF 106=false:=by kernel_rfl
@[go_sem] theorem Tryz.xio107:Tryz.prog.ioF 107=false:=by kernel_rfl
@[go_sem] theorem Tryz.xio108:Tryz.prog.ioF 108=false:=by kernel_rfl
@[go_sem] theorem Tryz.xio109:Tryz.prog.ioF 109=false:=by kernel_rfl
@[go_sem] theorem Tryz.xio110:Tryz.prog.ioF 110=false:=by kernel_rfl
@[go_sem] theorem Tryz.xio111:Tryz.prog.ioF 111=false:=by kernel_rfl
@[go_sem] theorem Tryz.xio112:Tryz.prog.ioF 112=false:=by kernel_rfl
@[go_sem] theorem Tryz.xio113:Tryz.prog.ioF 113=false:=by kernel_rfl
theorem Tryz.xen113:Tryz.prog.enters 113=true:=by kernel_rfl
@[go_sem] theorem Tryz.xio114:Tryz.prog.ioF 114=false:=by kernel_rfl
theorem Tryz.xen114:Tryz.prog.enters 114=true:=by kernel_rfl
@[go_sem] theorem Tryz.xio115:Tryz.prog.ioF 115=false:=by kernel_rfl
theorem Tryz.xen115:Tryz.prog.enters 115=true:=by kernel_rfl
@[go_sem] theorem Tryz.xio116:Tryz.prog.ioF 116=false:=by kernel_rfl
theorem Tryz.xen116:Tryz.prog.enters 116=true:=by kernel_rfl
@[go_sem] theorem Tryz.xio117:Tryz.prog.ioF 117=false:=by kernel_rfl
theorem Tryz.xen117:Tryz.prog.enters 117=true:=by kernel_rfl
@[go_sem] theorem Tryz.xio118:Tryz.prog.ioF 118=true:=by kernel_rfl
theorem Tryz.xen118:Tryz.prog.enters 118=true:=by kernel_rfl
@[go_sem] theorem Tryz.xio119:Tryz.prog.ioF 119=false:=by kernel_rfl
theorem Tryz.xen119:Tryz.prog.enters 119=true:=by kernel_rfl
@[go_sem] theorem Tryz.xio120:Tryz.prog.ioF 120=false:=by kernel_rfl
theorem Tryz.xen120:Tryz.prog.enters 120=true:=by kernel_rfl
@[go_sem] theorem Tryz.xio121:Tryz.prog.ioF 121=false:=by kernel_rfl
theorem Tryz.xen121:Tryz.prog.enters 121=true:=by kernel_rfl
@[go_sem] theorem Tryz.xio122:Tryz.prog.ioF 122=false:=by kernel_rfl
theorem Tryz.xen122:Tryz.prog.enters 122=true:=by kernel_rfl
@[go_sem] theorem Tryz.xio123:Tryz.prog.ioF 123=false:=by kernel_rfl
theorem Tryz.xen123:Tryz.prog.enters 123=true:=by kernel_rfl
@[go_sem] theorem Tryz.xio124:Tryz.prog.ioF 124=false:=by kernel_rfl
theorem Tryz.xen124:Tryz.prog.enters 124=true:=by kernel_rfl
@[go_sem] theorem Tryz.xio125:Tryz.prog.ioF 125=false:=by kernel_rfl
theorem Tryz.xen125:Tryz.prog.enters 125=true:=by kernel_rfl
@[go_sem] theorem Tryz.xio126:Tryz.prog.ioF 126=false:=by kernel_rfl
theorem Tryz.xen126:Tryz.prog.enters 126=true:=by kernel_rfl
@[go_sem] theorem Tryz.xio127:Tryz.prog.ioF 127=false:=by kernel_rfl
theorem Tryz.xen127:Tryz.prog.enters 127=true:=by kernel_rfl
@[go_sem] theorem Tryz.xio128:Tryz.prog.ioF 128=false:=by kernel_rfl
theorem Tryz.xen128:Tryz.prog.enters 128=true:=by kernel_rfl
@[go_sem] theorem Tryz.xio129:Tryz.prog.ioF 129=false:=by kernel_rfl
@[go_sem] theorem Tryz.xio130:Tryz.prog.ioF 130=false:=by kernel_rfl
@[go_sem] theorem Tryz.xio131:Tryz.prog.ioF 131=false:=by kernel_rfl
@[go_sem] theorem Tryz.xio132:Tryz.prog.ioF 132=false:=by kernel_rfl
theorem Tryz.xen132:Tryz.prog.enters 132=true:=by kernel_rfl
@[go_sem] theorem Tryz.xio133:Tryz.prog.ioF 133=false:=by kernel_rfl
@[go_sem] theorem Tryz.xio134:Tryz.prog.ioF 134=false:=by kernel_rfl
@[go_sem] theorem Tryz.xio135:Tryz.prog.ioF 135=false:=by kernel_rfl
@[go_sem] theorem Tryz.xio136:Tryz.prog.ioF 136=false:=by kernel_rfl
@[go_sem] theorem Tryz.xio137:Tryz.prog.ioF 137=false:=by kernel_rfl
@[go_sem] theorem Tryz.xio138:Tryz.prog.ioF 138=false:=by kernel_rfl
@[go_sem] theorem Tryz.xio139:Tryz.prog.ioF 139=false:=by kernel_rfl
@[go_sem] theorem Tryz.xio140:Tryz.prog.ioF 140=false:=by kernel_rfl
@[go_sem] theorem Tryz.xio141:Tryz.prog.ioF 141=false:=by kernel_rfl
theorem Tryz.xen141:Tryz.prog.enters 141=true:=by kernel_rfl
@[go_sem] theorem Tryz.xio142:Tryz.prog.ioF 142=false:=by kernel_rfl
theorem Tryz.xen142:Tryz.prog.enters 142=true:=by kernel_rfl
@[go_sem] theorem Tryz.xio143:Tryz.prog.ioF 143=false:=by kernel_rfl
theorem Tryz.xen143:Tryz.prog.enters 143=true:=by kernel_rfl
@[go_sem] theorem Tryz.xio144:Tryz.prog.ioF 144=true:=by kernel_rfl
theorem Tryz.xen144:Tryz.prog.enters 144=true:=by kernel_rfl
@[go_sem] theorem Tryz.xio145:Tryz.prog.ioF 145=false:=by kernel_rfl
@[go_sem] theorem Tryz.xio146:Tryz.prog.ioF 146=false:=by kernel_rfl
@[go_sem] theorem Tryz.xio147:Tryz.prog.ioF 147=false:=by kernel_rfl
@[go_sem] theorem Tryz.xio148:Tryz.prog.ioF 148=false:=by kernel_rfl
theorem Tryz.xen148:Tryz.prog.enters 148=true:=by kernel_rfl
@[go_sem] theorem Tryz.xio149:Tryz.prog.ioF 149=true:=by kernel_rfl
@[go_sem] theorem Tryz.xio150:Tryz.prog.ioF 150=true:=by kernel_rfl
@[go_sem] theorem Tryz.xio151:Tryz.prog.ioF 151=false:=by kernel_rfl
theorem Tryz.xen151:Tryz.prog.enters 151=true:=by kernel_rfl
@[go_sem] theorem Tryz.xio152:Tryz.prog.ioF 152=true:=by kernel_rfl
@[go_sem] theorem Tryz.xio153:Tryz.prog.ioF 153=false:=by kernel_rfl
@[go_sem] theorem Tryz.xio154:Tryz.prog.ioF 154=false:=by kernel_rfl
@[go_sem] theorem Tryz.xio155:Tryz.prog.ioF 155=false:=by kernel_rfl
@[go_sem] theorem Tryz.xio156:Tryz.prog.ioF 156=false:=by kernel_rfl
@[go_sem] theorem Tryz.xio157:Tryz.prog.ioF 157=false:=by kernel_rfl
@[go_sem] theorem Tryz.xio158:Tryz.prog.ioF 158=false:=by kernel_rfl
theorem Tryz.xen158:Tryz.prog.enters 158=true:=by kernel_rfl
@[go_sem] theorem Tryz.xio159:Tryz.prog.ioF 159=false:=by kernel_rfl
theorem Tryz.xen159:Tryz.prog.enters 159=true:=by kernel_rfl
@[go_sem] theorem Tryz.xio160:Tryz.prog.ioF 160=false:=by kernel_rfl
@[go_sem] theorem Tryz.xio161:Tryz.prog.ioF 161=false:=by kernel_rfl
@[go_sem] theorem Tryz.xio162:Tryz.prog.ioF 162=false:=by kernel_rfl
@[go_sem] theorem Tryz.xio163:Tryz.prog.ioF 163=false:=by kernel_rfl
@[go_sem] theorem Tryz.xio164:Tryz.prog.ioF 164=false:=by kernel_rfl
@[go_sem] theorem Tryz.xio165:Tryz.prog.ioF 165=false:=by kernel_rfl
@[go_sem] theorem Tryz.xio166:Tryz.prog.ioF 166=false:=by kernel_rfl
@[go_sem] theorem Tryz.xio167:Tryz.prog.ioF 167=false:=by kernel_rfl
@[go_sem] theorem Tryz.xio168:Tryz.prog.ioF 168=false:=by kernel_rfl
@[go_sem] theorem Tryz.xio169:Tryz.prog.ioF 169=false:=by kernel_rfl
@[go_sem] theorem Tryz.xio170:Tryz.prog.ioF 170=false:=by kernel_rfl
@[go_sem] theorem Tryz.xio171:Tryz.prog.ioF 171=false:=by kernel_rfl
@[go_sem] theorem Tryz.xio172:Tryz.prog.ioF 172=false:=by kernel_rfl
@[go_sem] theorem Tryz.xio173:Tryz.prog.ioF 173=false:=by kernel_rfl
@[go_sem] theorem Tryz.xio174:Tryz.prog.ioF 174=false:=by kernel_rfl
@[go_sem] theorem Tryz.xio175:Tryz.prog.ioF 175=false:=by kernel_rfl
@[go_sem] theorem Tryz.xio176:Tryz.prog.ioF 176=false:=by kernel_rfl
@[go_sem] theorem Tryz.xio177:Tryz.prog.ioF 177=false:=by kernel_rfl
@[go_sem] theorem Tryz.xio178:Tryz.prog.ioF 178=false:=by kernel_rfl
@[go_sem] theorem Tryz.xio179:Tryz.prog.ioF 179=true:=by kernel_rfl
@[go_sem] theorem Tryz.xio180:Tryz.prog.ioF 180=true:=by kernel_rfl
@[go_sem] theorem Tryz.xio181:Tryz.prog.ioF 181=true:=by kernel_rfl
@[go_sem] theorem Tryz.xio182:Tryz.prog.ioF 182=false:=by kernel_rfl
@[go_sem] theorem Tryz.xio183:Tryz.prog.ioF 183=true:=by kernel_rfl
@[go_sem] theorem Tryz.xio192:Tryz.prog.ioF 192=true:=by kernel_rfl
@[go_sem] theorem Tryz.xio193:Tryz.prog.ioF 193=true:=by kernel_rfl
@[go_sem] theorem Tryz.xio194:Tryz.prog.ioF 194=true:=by kernel_rfl
@[go_sem] theorem Tryz.xio195:Tryz.prog.ioF 195=true:=by kernel_rfl
@[go_sem] theorem Tryz.xio196:Tryz.prog.ioF 196=true:=by kernel_rfl
@[go_sem] theorem Tryz.xio201:Tryz.prog.ioF 201=true:=by kernel_rfl
end Go.Proofs.YtkjdkbmfaamhaaaGreat
