/- Proved here: Sources, clips, tracks and expressions as plain data, and how they lie in cells, for use in the proofs of the given statements; conditions stand in each theorem. -/
import Derived.Test.YtmbmmijdmdoalaaGreatZG
import Derived.Test.YtmbmmijdmdoalaaGreatZC
import Derived.Test.YtmbmmijdmdoalaaGreatProg
set_option linter.unusedSimpArgs false
set_option linter.unusedVariables false
set_option linter.unusedSectionVars false
set_option linter.unnecessarySimpa false
namespace Go.Proofs.YtmbmmijdmdoalaaGreat
open Go.RowKit
set_option maxRecDepth 4000
theorem bxx:(∀ (p:Prop) [Decidable p],(decide p=true)=p)∧(∀ (p:Prop) [Decidable p],(decide p=false) ↔ ¬p)∧(∀ (α : Type) [BEq α] [LawfulBEq α] (a b : α),((a==b)=true) ↔ a=b)∧(∀ (α : Type) [BEq α] [LawfulBEq α] (a b : α),((a != b)=true) ↔ a≠b)∧(∀ (α : Sort 1) (a b : α),(a≠b) = ¬(a=b))∧(∀ (α : Type) [BEq α] [LawfulBEq α] (a b : α),((a==b)=false) ↔ a≠b)∧(∀ b:Bool,((!b)=true)=(b=false))∧(∀ b:Bool,(¬(b=true))=(b=false))∧(∀ b:Bool,((!b)=false)=(b=true))∧(∀ a b:Bool,((a||b)=true)=(a=true∨b=true))∧(∀ a b:Bool,((a&&b)=true)=(a=true∧b=true))∧(∀ a b:Bool,((a||b)=false)=(a=false∧b=false))∧(∀ a b:Bool,((a&&b)=false)=(a=false∨b=false))∧((false=true)=False)∧(∀ a b:Bool,((!a)=b)=(a = !b))∧((!true)=false)∧((!false)=true) :=
 ⟨fun _ _=>decide_eq_true_eq,fun _ _=>decide_eq_false_iff_not,fun _ _ _ _ _=>beq_iff_eq,fun _ _ _ _ _=>bne_iff_ne,fun _ _ _=>rfl,fun _ _ _ _ _=>beq_eq_false_iff_ne,by decide,by decide,by decide,by decide,by decide,by decide,by decide,by decide,by decide,rfl,rfl⟩
abbrev ti (n:Int):T := .lit (.int .i64 n)
abbrev tu (n:Int):T := .lit (.int .u64 n)
abbrev tstr (s:ByteArray):T := .lit (.string s)
abbrev tbl (b:Bool):T := .lit (.bool b)
abbrev vu64 (n:Int):V := .t (.lit (.int .u64 n))
def intC (n:Int):List T:=[ti n]
def strC (s:ByteArray):List T:=[tstr s]
@[go_sem] abbrev tints (l:List Int):T := .list 1 (intC 0) (l.map intC)
@[go_sem] abbrev tstrs (l:List ByteArray):T := .list 1 (strC ⟨#[]⟩) (l.map strC)
@[go_sem] theorem intC_t (n:Int):(intC n).map V.t = [vint n]:=rfl
@[go_sem] theorem strC_t (n:ByteArray):(strC n).map V.t = [vstr n]:=rfl
@[go_sem] theorem intC_l (n:Int):(intC n).length=1:=rfl
@[go_sem] theorem strC_l (n:ByteArray):(strC n).length=1:=rfl
structure RatR where
 num:Int
 den:Int
 deriving Inhabited
structure SourceR where
 kind:Int
 name:ByteArray
 pos:RatR
 speed:RatR
 smooth:Bool
 deriving Inhabited
structure ClipR where
 len:Int
 kind:Int
 a:SourceR
 b:SourceR
 off:Int
 total:Int
 param:Int
 text:ByteArray
 gain:Int
 chan:List Int
 deriving Inhabited
def RatR.c (r:RatR):List T:=[ti r.num,ti r.den]
def SourceR.c (s:SourceR):List T:=[ti s.kind,tstr s.name,ti s.pos.num,ti s.pos.den,ti s.speed.num,ti s.speed.den,tbl s.smooth]
def ClipR.c (c:ClipR):List T:=[ti c.len,ti c.kind,ti c.a.kind,tstr c.a.name,ti c.a.pos.num,ti c.a.pos.den,ti c.a.speed.num,ti c.a.speed.den,tbl c.a.smooth,
 ti c.b.kind,tstr c.b.name,ti c.b.pos.num,ti c.b.pos.den,ti c.b.speed.num,ti c.b.speed.den,tbl c.b.smooth,ti c.off,ti c.total,ti c.param,tstr c.text,ti c.gain,tints c.chan]
abbrev vrat (r:RatR):V := .agg [vint r.num,vint r.den]
abbrev vsource (s:SourceR):V := .agg [vint s.kind,vstr s.name,vint s.pos.num,vint s.pos.den,vint s.speed.num,vint s.speed.den,vbool s.smooth]
abbrev vclip (c:ClipR):V := .agg [vint c.len,vint c.kind,vint c.a.kind,vstr c.a.name,vint c.a.pos.num,vint c.a.pos.den,vint c.a.speed.num,vint c.a.speed.den,vbool c.a.smooth,
 vint c.b.kind,vstr c.b.name,vint c.b.pos.num,vint c.b.pos.den,vint c.b.speed.num,vint c.b.speed.den,vbool c.b.smooth,vint c.off,vint c.total,vint c.param,vstr c.text,vint c.gain, .t (tints c.chan)]
@[go_sem] theorem RatR.ct (r:RatR):(RatR.c r).map V.t = [vint r.num,vint r.den]:=rfl
@[go_sem] theorem SourceR.ct (s:SourceR):(SourceR.c s).map V.t = [vint s.kind,vstr s.name,vint s.pos.num,vint s.pos.den,vint s.speed.num,vint s.speed.den,vbool s.smooth]:=rfl
@[go_sem] theorem ClipR.ct (c:ClipR):(ClipR.c c).map V.t = [vint c.len,vint c.kind,vint c.a.kind,vstr c.a.name,vint c.a.pos.num,vint c.a.pos.den,vint c.a.speed.num,vint c.a.speed.den,vbool c.a.smooth,
 vint c.b.kind,vstr c.b.name,vint c.b.pos.num,vint c.b.pos.den,vint c.b.speed.num,vint c.b.speed.den,vbool c.b.smooth,vint c.off,vint c.total,vint c.param,vstr c.text,vint c.gain, .t (tints c.chan)]:=rfl
@[go_sem] theorem RatR.cl (r:RatR):(RatR.c r).length=2:=rfl
@[go_sem] theorem SourceR.cl (r:SourceR):(SourceR.c r).length=7:=rfl
@[go_sem] theorem ClipR.cl (r:ClipR):(ClipR.c r).length=22:=rfl
@[go_sem] abbrev tclips (l:List ClipR):T := .list 22 (ClipR.c default) (l.map ClipR.c)
theorem getD_of_lt {α : Type} [Inhabited α] {xs:List α} {k:Nat} (h:k<xs.length):xs.getD k default=xs[k]:=by simp [List.getD_eq_getElem?_getD,h]
theorem brW {B b:Bool} {A C:Prop} (h:B=b) (k:(b=true→A)∧(b=false→C)):(B=true→A)∧(B=false→C):=by rw [h];exact k
theorem nt {b:Bool} (h:(!b)=true):b=false:=by cases b<;>simp_all
theorem nf {b:Bool} (h:(!b)=false):b=true:=by cases b<;>simp_all
@[go_sem] theorem bne_f {b:Bool}:(b != false)=b:=by cases b<;>rfl
def I64 (n:Int):Prop := -9223372036854775808≤n∧n≤9223372036854775807
theorem wrap64 {x:Int} (h1 : -9223372036854775808≤x) (h2:x≤9223372036854775807):IntKind.i64.wrap x=x:=by
 have e1:(2:Int) ^ IntKind.i64.bits=18446744073709551616:=by decide
 have e2:(2:Int) ^ (IntKind.i64.bits - 1)=9223372036854775808:=by decide
 unfold IntKind.wrap
 simp only [IntKind.signed,if_true,e1,e2,Bool.true_and,decide_eq_true_eq]
 split<;>omega
theorem wrapN {n:Nat} (h:n≤9223372036854775807):IntKind.i64.wrap (n:Int)=n:=wrap64 (by omega) (by omega)
theorem wrap1 {k:Nat} (h:k<9223372036854775807):IntKind.i64.wrap ((k:Int)+1)=(k:Int)+1:=wrap64 (by omega) (by omega)
theorem wrapU64 {x:Int} (h1 : 0≤x) (h2:x≤18446744073709551615):IntKind.u64.wrap x=x:=by
 have e1:(2:Int) ^ IntKind.u64.bits=18446744073709551616:=by decide
 unfold IntKind.wrap
 simp only [IntKind.signed,e1,Bool.false_and,Bool.false_eq_true,if_false]
 omega
theorem wrapU64_neg {x:Int} (h1 : -18446744073709551616≤x) (h2:x<0):IntKind.u64.wrap x=x+18446744073709551616:=by
 have e1:(2:Int) ^ IntKind.u64.bits=18446744073709551616:=by decide
 unfold IntKind.wrap
 simp only [IntKind.signed,e1,Bool.false_and,Bool.false_eq_true,if_false]
 omega
structure RatR.fit (r:RatR):Prop where
 num:I64 r.num
 den:I64 r.den
structure SourceR.fit (s:SourceR):Prop where
 kind:I64 s.kind
 pos:s.pos.fit
 speed:s.speed.fit
structure ClipR.fit (c:ClipR):Prop where
 len:I64 c.len
 kind:I64 c.kind
 a:c.a.fit
 b:c.b.fit
 off:I64 c.off
 total:I64 c.total
 param:I64 c.param
 gain:I64 c.gain
def nmI (n:Int):Bool:=(decide (97≤n)&&decide (n≤122))||(decide (48≤n)&&decide (n≤57))||n==45||n==95||n==46
def lnI (n:Int):Bool:=decide (32≤n)&&decide (n≤126)
def bytesAll (p:Int→Bool) (s:ByteArray):Bool:=s.data.toList.all fun c=>p c.toNat
def byteAt (s:ByteArray) (k:Nat):Int:=(s.data.toList.getD k 0).toNat
theorem bytes_len (s:ByteArray):s.data.toList.length=s.size:=Array.length_toList
theorem bytes_hit {p:Int→Bool} {s:ByteArray} {k:Nat} (h:k<s.size) (hp:p (byteAt s k)=false):bytesAll p s=false:=by
 have hl:k<s.data.toList.length:=by rw [bytes_len];exact h
 unfold byteAt at hp
 rw [List.getD_eq_getElem?_getD,List.getElem?_eq_getElem hl] at hp
 unfold bytesAll
 rw [Bool.eq_false_iff,ne_eq,List.all_eq_true]
 intro h'
 have:=h' _ (List.getElem_mem hl)
 simp only [Option.getD_some] at hp
 rw [hp] at this;cases this
theorem bytes_done {p:Int→Bool} {s:ByteArray} (h:∀ k,k<s.size→p (byteAt s k)=true):bytesAll p s=true:=by
 unfold bytesAll
 rw [List.all_eq_true]
 intro c hc
 obtain ⟨k,hk,rfl⟩:=List.mem_iff_getElem.1 hc
 have:=h k (by rw [← bytes_len];exact hk)
 unfold byteAt at this
 rw [List.getD_eq_getElem?_getD,List.getElem?_eq_getElem hk] at this
 exact this
def vName (s:ByteArray):Bool:=decide (1≤s.size)&&decide (s.size≤32)&&bytesAll nmI s
def vLine (s:ByteArray):Bool:=decide (1≤s.size)&&decide (s.size≤64)&&bytesAll lnI s
open Go.RowKit
@[go_sem] theorem Tryz.xsz2:Tryz.prog.szT 2=some 1:=by kernel_rfl
@[go_sem] theorem Tryz.xag2:Tryz.prog.aggT 2=some false:=by kernel_rfl
@[go_sem] theorem Tryz.xze2:Tryz.prog.zeroT 2=some [Value.int IntKind.i64 0]:=by kernel_rfl
@[go_sem] theorem Tryz.xzk2:zeroOk [Value.int IntKind.i64 0]=true:=by kernel_rfl
@[go_sem] theorem Tryz.xsz3:Tryz.prog.szT 3=some 1:=by kernel_rfl
@[go_sem] theorem Tryz.xag3:Tryz.prog.aggT 3=some false:=by kernel_rfl
@[go_sem] theorem Tryz.xby3:Tryz.prog.bytesT 3=some 8:=by kernel_rfl
@[go_sem] theorem Tryz.xze3:Tryz.prog.zeroT 3=some [Value.int IntKind.i64 0]:=by kernel_rfl
@[go_sem] theorem Tryz.xsz4:Tryz.prog.szT 4=some 1:=by kernel_rfl
@[go_sem] theorem Tryz.xag4:Tryz.prog.aggT 4=some false:=by kernel_rfl
@[go_sem] theorem Tryz.xze4:Tryz.prog.zeroT 4=some [Value.bool false]:=by kernel_rfl
@[go_sem] theorem Tryz.xzk4:zeroOk [Value.bool false]=true:=by kernel_rfl
@[go_sem] theorem Tryz.xag5:Tryz.prog.aggT 5=some false:=by kernel_rfl
@[go_sem] theorem Tryz.xsz9:Tryz.prog.szT 9=some 1:=by kernel_rfl
@[go_sem] theorem Tryz.xag9:Tryz.prog.aggT 9=some false:=by kernel_rfl
@[go_sem] theorem Tryz.xby9:Tryz.prog.bytesT 9=some 16:=by kernel_rfl
@[go_sem] theorem Tryz.xze9:Tryz.prog.zeroT 9=some [Value.string ⟨#[]⟩]:=by kernel_rfl
@[go_sem] theorem Tryz.xzk9:zeroOk [Value.string ⟨#[]⟩]=true:=by kernel_rfl
@[go_sem] theorem Tryz.xsz22:Tryz.prog.szT 22=some 1:=by kernel_rfl
@[go_sem] theorem Tryz.xag22:Tryz.prog.aggT 22=some false:=by kernel_rfl
@[go_sem] theorem Tryz.xel22:Tryz.prog.elemT 22=some 76:=by kernel_rfl
@[go_sem] theorem Tryz.xzk22:zeroOk [Value.slice none 0 0]=true:=by kernel_rfl
@[go_sem] theorem Tryz.xsz23:Tryz.prog.szT 23=some 1:=by kernel_rfl
@[go_sem] theorem Tryz.xag23:Tryz.prog.aggT 23=some false:=by kernel_rfl
@[go_sem] theorem Tryz.xel23:Tryz.prog.elemT 23=some 95:=by kernel_rfl
@[go_sem] theorem Tryz.xzk24:zeroOk [Value.slice none 0 0,Value.slice none 0 0]=true:=by kernel_rfl
@[go_sem] theorem Tryz.xsz25:Tryz.prog.szT 25=some 2:=by kernel_rfl
@[go_sem] theorem Tryz.xag25:Tryz.prog.aggT 25=some true:=by kernel_rfl
@[go_sem] theorem Tryz.xpl25:Tryz.prog.plT 25=some [(0,1),(1,1)]:=by kernel_rfl
@[go_sem] theorem Tryz.xze25:Tryz.prog.zeroT 25=some [Value.slice none 0 0,Value.slice none 0 0]:=by kernel_rfl
@[go_sem] theorem Tryz.xfl25_0:Tryz.prog.fldT 25 0=some (0,22):=by kernel_rfl
@[go_sem] theorem Tryz.xfl25_1:Tryz.prog.fldT 25 1=some (1,23):=by kernel_rfl
@[go_sem] theorem Tryz.xsz26:Tryz.prog.szT 26=some 1:=by kernel_rfl
@[go_sem] theorem Tryz.xag26:Tryz.prog.aggT 26=some false:=by kernel_rfl
@[go_sem] theorem Tryz.xel26:Tryz.prog.elemT 26=some 3:=by kernel_rfl
@[go_sem] theorem Tryz.xsz29:Tryz.prog.szT 29=some 1:=by kernel_rfl
@[go_sem] theorem Tryz.xag29:Tryz.prog.aggT 29=some false:=by kernel_rfl
@[go_sem] theorem Tryz.xel29:Tryz.prog.elemT 29=some 9:=by kernel_rfl
@[go_sem] theorem Tryz.xze29:Tryz.prog.zeroT 29=some [Value.slice none 0 0]:=by kernel_rfl
@[go_sem] theorem Tryz.xsz30:Tryz.prog.szT 30=some 1:=by kernel_rfl
@[go_sem] theorem Tryz.xag30:Tryz.prog.aggT 30=some false:=by kernel_rfl
@[go_sem] theorem Tryz.xze30:Tryz.prog.zeroT 30=some [Value.int IntKind.i64 0]:=by kernel_rfl
@[go_sem] theorem Tryz.xel36:Tryz.prog.elemT 36=some 2:=by kernel_rfl
@[go_sem] theorem Tryz.xsz57:Tryz.prog.szT 57=some 1:=by kernel_rfl
@[go_sem] theorem Tryz.xag57:Tryz.prog.aggT 57=some false:=by kernel_rfl
@[go_sem] theorem Tryz.xzk66:zeroOk [Value.slice none 0 0,Value.int IntKind.i64 0]=true:=by kernel_rfl
@[go_sem] theorem Tryz.xpl67:Tryz.prog.plT 67=some [(0,1),(1,1)]:=by kernel_rfl
@[go_sem] theorem Tryz.xze67:Tryz.prog.zeroT 67=some [Value.slice none 0 0,Value.int IntKind.i64 0]:=by kernel_rfl
@[go_sem] theorem Tryz.xfl67_0:Tryz.prog.fldT 67 0=some (0,26):=by kernel_rfl
@[go_sem] theorem Tryz.xfl67_1:Tryz.prog.fldT 67 1=some (1,3):=by kernel_rfl
@[go_sem] theorem Tryz.xzk69:zeroOk [Value.int IntKind.i64 0,Value.int IntKind.i64 0]=true:=by kernel_rfl
@[go_sem] theorem Tryz.xsz70:Tryz.prog.szT 70=some 2:=by kernel_rfl
@[go_sem] theorem Tryz.xag70:Tryz.prog.aggT 70=some true:=by kernel_rfl
@[go_sem] theorem Tryz.xpl70:Tryz.prog.plT 70=some [(0,1),(1,1)]:=by kernel_rfl
@[go_sem] theorem Tryz.xze70:Tryz.prog.zeroT 70=some [Value.int IntKind.i64 0,Value.int IntKind.i64 0]:=by kernel_rfl
@[go_sem] theorem Tryz.xfl70_0:Tryz.prog.fldT 70 0=some (0,2):=by kernel_rfl
@[go_sem] theorem Tryz.xfl70_1:Tryz.prog.fldT 70 1=some (1,2):=by kernel_rfl
def Tryz.z72:List Value:=[Value.int IntKind.i64 0,Value.int IntKind.i64 0,Value.int IntKind.i64 0,Value.int IntKind.i64 0,Value.bool false,Value.int IntKind.i64 0,Value.int IntKind.i64 0]++List.replicate 128 (Value.int IntKind.u8 0)
@[go_sem] theorem Tryz.zok72:zeroOk Tryz.z72=true:=by kernel_rfl
@[go_sem] theorem Tryz.zlen72:Tryz.z72.length=135:=by kernel_rfl
@[go_sem] theorem Tryz.xsz73:Tryz.prog.szT 73=some 135:=by kernel_rfl
@[go_sem] theorem Tryz.xpl73:Tryz.prog.plT 73=some [(0,1),(1,1),(2,2),(4,1),(5,1),(6,1),(7,64),(71,64)]:=by kernel_rfl
def Tryz.z73:List Value:=[Value.int IntKind.i64 0,Value.int IntKind.i64 0,Value.int IntKind.i64 0,Value.int IntKind.i64 0,Value.bool false,Value.int IntKind.i64 0,Value.int IntKind.i64 0]++List.replicate 128 (Value.int IntKind.u8 0)
@[go_sem] theorem Tryz.xze73:Tryz.prog.zeroT 73=some Tryz.z73:=by kernel_rfl
@[go_sem] theorem Tryz.zok73:zeroOk Tryz.z73=true:=by kernel_rfl
@[go_sem] theorem Tryz.zlen73:Tryz.z73.length=135:=by kernel_rfl
@[go_sem] theorem Tryz.xfl73_2:Tryz.prog.fldT 73 2=some (2,70):=by kernel_rfl
@[go_sem] theorem Tryz.xsz74:Tryz.prog.szT 74=some 1:=by kernel_rfl
@[go_sem] theorem Tryz.xag74:Tryz.prog.aggT 74=some false:=by kernel_rfl
@[go_sem] theorem Tryz.xel74:Tryz.prog.elemT 74=some 113:=by kernel_rfl
def Tryz.z75:List Value:=[Value.string ⟨#[]⟩,Value.int IntKind.u64 0,Value.int IntKind.i64 0,Value.int IntKind.i64 0,Value.int IntKind.i64 0,Value.int IntKind.i64 0,Value.bool false,Value.int IntKind.i64 0,Value.int IntKind.i64 0]++List.replicate 128 (Value.int IntKind.u8 0) ++ [Value.int IntKind.i64 0,Value.int IntKind.i64 0,Value.int IntKind.i64 0,Value.slice none 0 0]
@[go_sem] theorem Tryz.zok75:zeroOk Tryz.z75=true:=by kernel_rfl
@[go_sem] theorem Tryz.zlen75:Tryz.z75.length=141:=by kernel_rfl
@[go_sem] theorem Tryz.xsz76:Tryz.prog.szT 76=some 141:=by kernel_rfl
@[go_sem] theorem Tryz.xag76:Tryz.prog.aggT 76=some true:=by kernel_rfl
@[go_sem] theorem Tryz.xby76:Tryz.prog.bytesT 76=some 256:=by kernel_rfl
@[go_sem] theorem Tryz.xpl76:Tryz.prog.plT 76=some [(0,1),(1,1),(2,135),(137,1),(138,1),(139,1),(140,1)]:=by kernel_rfl
def Tryz.z76:List Value:=[Value.string ⟨#[]⟩,Value.int IntKind.u64 0,Value.int IntKind.i64 0,Value.int IntKind.i64 0,Value.int IntKind.i64 0,Value.int IntKind.i64 0,Value.bool false,Value.int IntKind.i64 0,Value.int IntKind.i64 0]++List.replicate 128 (Value.int IntKind.u8 0) ++ [Value.int IntKind.i64 0,Value.int IntKind.i64 0,Value.int IntKind.i64 0,Value.slice none 0 0]
@[go_sem] theorem Tryz.xze76:Tryz.prog.zeroT 76=some Tryz.z76:=by kernel_rfl
@[go_sem] theorem Tryz.zok76:zeroOk Tryz.z76=true:=by kernel_rfl
@[go_sem] theorem Tryz.zlen76:Tryz.z76.length=141:=by kernel_rfl
@[go_sem] theorem Tryz.xfl76_0:Tryz.prog.fldT 76 0=some (0,9):=by kernel_rfl
@[go_sem] theorem Tryz.xfl76_2:Tryz.prog.fldT 76 2=some (2,73):=by kernel_rfl
@[go_sem] theorem Tryz.xfl76_3:Tryz.prog.fldT 76 3=some (137,2):=by kernel_rfl
@[go_sem] theorem Tryz.xfl76_4:Tryz.prog.fldT 76 4=some (138,3):=by kernel_rfl
@[go_sem] theorem Tryz.xfl76_5:Tryz.prog.fldT 76 5=some (139,2):=by kernel_rfl
@[go_sem] theorem Tryz.xfl76_6:Tryz.prog.fldT 76 6=some (140,74):=by kernel_rfl
@[go_sem] theorem Tryz.xel84:Tryz.prog.elemT 84=some 92:=by kernel_rfl
@[go_sem] theorem Tryz.xsz85:Tryz.prog.szT 85=some 1:=by kernel_rfl
@[go_sem] theorem Tryz.xag85:Tryz.prog.aggT 85=some false:=by kernel_rfl
@[go_sem] theorem Tryz.xel85:Tryz.prog.elemT 85=some 92:=by kernel_rfl
@[go_sem] theorem Tryz.xby85:Tryz.prog.bytesT 85=some 24:=by kernel_rfl
@[go_sem] theorem Tryz.xze85:Tryz.prog.zeroT 85=some [Value.slice none 0 0]:=by kernel_rfl
@[go_sem] theorem Tryz.xzk89:zeroOk [Value.int IntKind.i64 0,Value.string ⟨#[]⟩,Value.int IntKind.i64 0,Value.int IntKind.i64 0,Value.int IntKind.i64 0,Value.int IntKind.i64 0,Value.bool false]=true:=by kernel_rfl
@[go_sem] theorem Tryz.xsz90:Tryz.prog.szT 90=some 7:=by kernel_rfl
@[go_sem] theorem Tryz.xag90:Tryz.prog.aggT 90=some true:=by kernel_rfl
@[go_sem] theorem Tryz.xby90:Tryz.prog.bytesT 90=some 64:=by kernel_rfl
@[go_sem] theorem Tryz.xpl90:Tryz.prog.plT 90=some [(0,1),(1,1),(2,2),(4,2),(6,1)]:=by kernel_rfl
@[go_sem] theorem Tryz.xze90:Tryz.prog.zeroT 90=some [Value.int IntKind.i64 0,Value.string ⟨#[]⟩,Value.int IntKind.i64 0,Value.int IntKind.i64 0,Value.int IntKind.i64 0,Value.int IntKind.i64 0,Value.bool false]:=by kernel_rfl
@[go_sem] theorem Tryz.xfl90_0:Tryz.prog.fldT 90 0=some (0,3):=by kernel_rfl
@[go_sem] theorem Tryz.xfl90_1:Tryz.prog.fldT 90 1=some (1,9):=by kernel_rfl
@[go_sem] theorem Tryz.xfl90_2:Tryz.prog.fldT 90 2=some (2,70):=by kernel_rfl
@[go_sem] theorem Tryz.xfl90_3:Tryz.prog.fldT 90 3=some (4,70):=by kernel_rfl
@[go_sem] theorem Tryz.xfl90_4:Tryz.prog.fldT 90 4=some (6,4):=by kernel_rfl
@[go_sem] theorem Tryz.xzk91:zeroOk [Value.int IntKind.i64 0,Value.int IntKind.i64 0,Value.int IntKind.i64 0,Value.string ⟨#[]⟩,Value.int IntKind.i64 0,Value.int IntKind.i64 0,Value.int IntKind.i64 0,Value.int IntKind.i64 0,Value.bool false,Value.int IntKind.i64 0,Value.string ⟨#[]⟩,Value.int IntKind.i64 0,Value.int IntKind.i64 0,Value.int IntKind.i64 0,Value.int IntKind.i64 0,Value.bool false,Value.int IntKind.i64 0,Value.int IntKind.i64 0,Value.int IntKind.i64 0,Value.string ⟨#[]⟩,Value.int IntKind.i64 0,Value.slice none 0 0]=true:=by kernel_rfl
@[go_sem] theorem Tryz.xsz92:Tryz.prog.szT 92=some 22:=by kernel_rfl
@[go_sem] theorem Tryz.xag92:Tryz.prog.aggT 92=some true:=by kernel_rfl
@[go_sem] theorem Tryz.xby92:Tryz.prog.bytesT 92=some 216:=by kernel_rfl
@[go_sem] theorem Tryz.xpl92:Tryz.prog.plT 92=some [(0,1),(1,1),(2,7),(9,7),(16,1),(17,1),(18,1),(19,1),(20,1),(21,1)]:=by kernel_rfl
@[go_sem] theorem Tryz.xze92:Tryz.prog.zeroT 92=some [Value.int IntKind.i64 0,Value.int IntKind.i64 0,Value.int IntKind.i64 0,Value.string ⟨#[]⟩,Value.int IntKind.i64 0,Value.int IntKind.i64 0,Value.int IntKind.i64 0,Value.int IntKind.i64 0,Value.bool false,Value.int IntKind.i64 0,Value.string ⟨#[]⟩,Value.int IntKind.i64 0,Value.int IntKind.i64 0,Value.int IntKind.i64 0,Value.int IntKind.i64 0,Value.bool false,Value.int IntKind.i64 0,Value.int IntKind.i64 0,Value.int IntKind.i64 0,Value.string ⟨#[]⟩,Value.int IntKind.i64 0,Value.slice none 0 0]:=by kernel_rfl
@[go_sem] theorem Tryz.xfl92_0:Tryz.prog.fldT 92 0=some (0,2):=by kernel_rfl
@[go_sem] theorem Tryz.xfl92_1:Tryz.prog.fldT 92 1=some (1,3):=by kernel_rfl
@[go_sem] theorem Tryz.xfl92_2:Tryz.prog.fldT 92 2=some (2,90):=by kernel_rfl
@[go_sem] theorem Tryz.xfl92_3:Tryz.prog.fldT 92 3=some (9,90):=by kernel_rfl
@[go_sem] theorem Tryz.xfl92_4:Tryz.prog.fldT 92 4=some (16,2):=by kernel_rfl
@[go_sem] theorem Tryz.xfl92_5:Tryz.prog.fldT 92 5=some (17,2):=by kernel_rfl
@[go_sem] theorem Tryz.xfl92_6:Tryz.prog.fldT 92 6=some (18,3):=by kernel_rfl
@[go_sem] theorem Tryz.xfl92_7:Tryz.prog.fldT 92 7=some (19,9):=by kernel_rfl
@[go_sem] theorem Tryz.xfl92_8:Tryz.prog.fldT 92 8=some (20,3):=by kernel_rfl
@[go_sem] theorem Tryz.xfl92_9:Tryz.prog.fldT 92 9=some (21,26):=by kernel_rfl
@[go_sem] theorem Tryz.xsz93:Tryz.prog.szT 93=some 1:=by kernel_rfl
@[go_sem] theorem Tryz.xag93:Tryz.prog.aggT 93=some false:=by kernel_rfl
@[go_sem] theorem Tryz.xel93:Tryz.prog.elemT 93=some 85:=by kernel_rfl
@[go_sem] theorem Tryz.xze93:Tryz.prog.zeroT 93=some [Value.slice none 0 0]:=by kernel_rfl
@[go_sem] theorem Tryz.xzk94:zeroOk [Value.string ⟨#[]⟩,Value.int IntKind.i64 0,Value.int IntKind.i64 0,Value.int IntKind.i64 0,Value.int IntKind.i64 0,Value.slice none 0 0,Value.slice none 0 0,Value.slice none 0 0,Value.int IntKind.i64 0]=true:=by kernel_rfl
@[go_sem] theorem Tryz.xsz95:Tryz.prog.szT 95=some 9:=by kernel_rfl
@[go_sem] theorem Tryz.xag95:Tryz.prog.aggT 95=some true:=by kernel_rfl
@[go_sem] theorem Tryz.xby95:Tryz.prog.bytesT 95=some 128:=by kernel_rfl
@[go_sem] theorem Tryz.xpl95:Tryz.prog.plT 95=some [(0,1),(1,2),(3,1),(4,1),(5,1),(6,1),(7,1),(8,1)]:=by kernel_rfl
@[go_sem] theorem Tryz.xze95:Tryz.prog.zeroT 95=some [Value.string ⟨#[]⟩,Value.int IntKind.i64 0,Value.int IntKind.i64 0,Value.int IntKind.i64 0,Value.int IntKind.i64 0,Value.slice none 0 0,Value.slice none 0 0,Value.slice none 0 0,Value.int IntKind.i64 0]:=by kernel_rfl
@[go_sem] theorem Tryz.xfl95_0:Tryz.prog.fldT 95 0=some (0,9):=by kernel_rfl
@[go_sem] theorem Tryz.xfl95_1:Tryz.prog.fldT 95 1=some (1,70):=by kernel_rfl
@[go_sem] theorem Tryz.xfl95_2:Tryz.prog.fldT 95 2=some (3,3):=by kernel_rfl
@[go_sem] theorem Tryz.xfl95_3:Tryz.prog.fldT 95 3=some (4,3):=by kernel_rfl
@[go_sem] theorem Tryz.xfl95_4:Tryz.prog.fldT 95 4=some (5,93):=by kernel_rfl
@[go_sem] theorem Tryz.xfl95_5:Tryz.prog.fldT 95 5=some (6,93):=by kernel_rfl
@[go_sem] theorem Tryz.xfl95_6:Tryz.prog.fldT 95 6=some (7,74):=by kernel_rfl
@[go_sem] theorem Tryz.xfl95_7:Tryz.prog.fldT 95 7=some (8,3):=by kernel_rfl
@[go_sem] theorem Tryz.xzk112:zeroOk [Value.int IntKind.i64 0,Value.int IntKind.i64 0,Value.slice none 0 0]=true:=by kernel_rfl
@[go_sem] theorem Tryz.xsz113:Tryz.prog.szT 113=some 3:=by kernel_rfl
@[go_sem] theorem Tryz.xag113:Tryz.prog.aggT 113=some true:=by kernel_rfl
@[go_sem] theorem Tryz.xby113:Tryz.prog.bytesT 113=some 40:=by kernel_rfl
@[go_sem] theorem Tryz.xpl113:Tryz.prog.plT 113=some [(0,1),(1,1),(2,1)]:=by kernel_rfl
@[go_sem] theorem Tryz.xze113:Tryz.prog.zeroT 113=some [Value.int IntKind.i64 0,Value.int IntKind.i64 0,Value.slice none 0 0]:=by kernel_rfl
@[go_sem] theorem Tryz.xfl113_0:Tryz.prog.fldT 113 0=some (0,2):=by kernel_rfl
@[go_sem] theorem Tryz.xfl113_1:Tryz.prog.fldT 113 1=some (1,2):=by kernel_rfl
@[go_sem] theorem Tryz.xfl113_2:Tryz.prog.fldT 113 2=some (2,29):=by kernel_rfl
@[go_sem] theorem Tryz.xel114:Tryz.prog.elemT 114=some 70:=by kernel_rfl
@[go_sem] theorem Tryz.xsz118:Tryz.prog.szT 118=some 1:=by kernel_rfl
@[go_sem] theorem Tryz.xag118:Tryz.prog.aggT 118=some false:=by kernel_rfl
@[go_sem] theorem Tryz.xzk118:zeroOk [Value.map none]=true:=by kernel_rfl
@[go_sem] theorem Tryz.xmt118:Tryz.prog.mapT 118=some (9,76):=by kernel_rfl
@[go_sem] theorem Tryz.xz176:Tryz.prog.zero1 76=some (Value.agg #[Value.string ⟨#[]⟩,Value.int IntKind.u64 0,Value.int IntKind.i64 0,Value.int IntKind.i64 0,Value.int IntKind.i64 0,Value.int IntKind.i64 0,Value.bool false,Value.int IntKind.i64 0,Value.int IntKind.i64 0,Value.int IntKind.u8 0,Value.int IntKind.u8 0,Value.int IntKind.u8 0,Value.int IntKind.u8 0,Value.int IntKind.u8 0,Value.int IntKind.u8 0,Value.int IntKind.u8 0,Value.int IntKind.u8 0,Value.int IntKind.u8 0,Value.int IntKind.u8 0,Value.int IntKind.u8 0,Value.int IntKind.u8 0,Value.int IntKind.u8 0,Value.int IntKind.u8 0,Value.int IntKind.u8 0,Value.int IntKind.u8 0,Value.int IntKind.u8 0,Value.int IntKind.u8 0,Value.int IntKind.u8 0,Value.int IntKind.u8 0,Value.int IntKind.u8 0,Value.int IntKind.u8 0,Value.int IntKind.u8 0,Value.int IntKind.u8 0,Value.int IntKind.u8 0,Value.int IntKind.u8 0,Value.int IntKind.u8 0,Value.int IntKind.u8 0,Value.int IntKind.u8 0,Value.int IntKind.u8 0,Value.int IntKind.u8 0,Value.int IntKind.u8 0,Value.int IntKind.u8 0,Value.int IntKind.u8 0,Value.int IntKind.u8 0,Value.int IntKind.u8 0,Value.int IntKind.u8 0,Value.int IntKind.u8 0,Value.int IntKind.u8 0,Value.int IntKind.u8 0,Value.int IntKind.u8 0,Value.int IntKind.u8 0,Value.int IntKind.u8 0,Value.int IntKind.u8 0,Value.int IntKind.u8 0,Value.int IntKind.u8 0,Value.int IntKind.u8 0,Value.int IntKind.u8 0,Value.int IntKind.u8 0,Value.int IntKind.u8 0,Value.int IntKind.u8 0,Value.int IntKind.u8 0,Value.int IntKind.u8 0,Value.int IntKind.u8 0,Value.int IntKind.u8 0,Value.int IntKind.u8 0,Value.int IntKind.u8 0,Value.int IntKind.u8 0,Value.int IntKind.u8 0,Value.int IntKind.u8 0,Value.int IntKind.u8 0,Value.int IntKind.u8 0,Value.int IntKind.u8 0,Value.int IntKind.u8 0,Value.int IntKind.u8 0,Value.int IntKind.u8 0,Value.int IntKind.u8 0,Value.int IntKind.u8 0,Value.int IntKind.u8 0,Value.int IntKind.u8 0,Value.int IntKind.u8 0,Value.int IntKind.u8 0,Value.int IntKind.u8 0,Value.int IntKind.u8 0,Value.int IntKind.u8 0,Value.int IntKind.u8 0,Value.int IntKind.u8 0,Value.int IntKind.u8 0,Value.int IntKind.u8 0,Value.int IntKind.u8 0,Value.int IntKind.u8 0,Value.int IntKind.u8 0,Value.int IntKind.u8 0,Value.int IntKind.u8 0,Value.int IntKind.u8 0,Value.int IntKind.u8 0,Value.int IntKind.u8 0,Value.int IntKind.u8 0,Value.int IntKind.u8 0,Value.int IntKind.u8 0,Value.int IntKind.u8 0,Value.int IntKind.u8 0,Value.int IntKind.u8 0,Value.int IntKind.u8 0,Value.int IntKind.u8 0,Value.int IntKind.u8 0,Value.int IntKind.u8 0,Value.int IntKind.u8 0,Value.int IntKind.u8 0,Value.int IntKind.u8 0,Value.int IntKind.u8 0,Value.int IntKind.u8 0,Value.int IntKind.u8 0,Value.int IntKind.u8 0,Value.int IntKind.u8 0,Value.int IntKind.u8 0,Value.int IntKind.u8 0,Value.int IntKind.u8 0,Value.int IntKind.u8 0,Value.int IntKind.u8 0,Value.int IntKind.u8 0,Value.int IntKind.u8 0,Value.int IntKind.u8 0,Value.int IntKind.u8 0,Value.int IntKind.u8 0,Value.int IntKind.u8 0,Value.int IntKind.u8 0,Value.int IntKind.u8 0,Value.int IntKind.u8 0,Value.int IntKind.u8 0,Value.int IntKind.u8 0,Value.int IntKind.u8 0,Value.int IntKind.u8 0,Value.int IntKind.u8 0,Value.int IntKind.u8 0,Value.int IntKind.u8 0,Value.int IntKind.u8 0,Value.int IntKind.u8 0,Value.int IntKind.i64 0,Value.int IntKind.i64 0,Value.int IntKind.i64 0,Value.slice none 0 0]):=by kernel_rfl
@[go_sem] theorem Tryz.xsz119:Tryz.prog.szT 119=some 1:=by kernel_rfl
@[go_sem] theorem Tryz.xag119:Tryz.prog.aggT 119=some false:=by kernel_rfl
@[go_sem] theorem Tryz.xmt119:Tryz.prog.mapT 119=some (9,95):=by kernel_rfl
@[go_sem] theorem Tryz.xz195:Tryz.prog.zero1 95=some (Value.agg #[Value.string ⟨#[]⟩,Value.int IntKind.i64 0,Value.int IntKind.i64 0,Value.int IntKind.i64 0,Value.int IntKind.i64 0,Value.slice none 0 0,Value.slice none 0 0,Value.slice none 0 0,Value.int IntKind.i64 0]):=by kernel_rfl
@[go_sem] theorem Tryz.xzk120:zeroOk [Value.map none,Value.map none]=true:=by kernel_rfl
@[go_sem] theorem Tryz.xsz121:Tryz.prog.szT 121=some 2:=by kernel_rfl
@[go_sem] theorem Tryz.xag121:Tryz.prog.aggT 121=some true:=by kernel_rfl
@[go_sem] theorem Tryz.xpl121:Tryz.prog.plT 121=some [(0,1),(1,1)]:=by kernel_rfl
@[go_sem] theorem Tryz.xze121:Tryz.prog.zeroT 121=some [Value.map none,Value.map none]:=by kernel_rfl
@[go_sem] theorem Tryz.xfl121_0:Tryz.prog.fldT 121 0=some (0,118):=by kernel_rfl
@[go_sem] theorem Tryz.xfl121_1:Tryz.prog.fldT 121 1=some (1,119):=by kernel_rfl
@[go_sem] theorem Tryz.xsz124:Tryz.prog.szT 124=some 1:=by kernel_rfl
@[go_sem] theorem Tryz.xag124:Tryz.prog.aggT 124=some false:=by kernel_rfl
@[go_sem] theorem Tryz.xze124:Tryz.prog.zeroT 124=some [Value.map none]:=by kernel_rfl
@[go_sem] theorem Tryz.xmt124:Tryz.prog.mapT 124=some (9,4):=by kernel_rfl
@[go_sem] theorem Tryz.xz14:Tryz.prog.zero1 4=some (Value.bool false):=by kernel_rfl
@[go_sem] theorem Tryz.xel181:Tryz.prog.elemT 181=some 93:=by kernel_rfl
@[go_sem] theorem Tryz.xmt195:Tryz.prog.mapT 195=some (9,3):=by kernel_rfl
@[go_sem] theorem Tryz.xz13:Tryz.prog.zero1 3=some (Value.int IntKind.i64 0):=by kernel_rfl
@[go_sem] theorem Tryz.xel200:Tryz.prog.elemT 200=some 90:=by kernel_rfl
@[go_sem] theorem Tryz.xmt203:Tryz.prog.mapT 203=some (3,4):=by kernel_rfl
@[go_sem] theorem Tryz.xpl246:Tryz.prog.plT 246=some [(0,7),(7,7)]:=by kernel_rfl
@[go_sem] theorem Tryz.xze246:Tryz.prog.zeroT 246=some [Value.int IntKind.i64 0,Value.string ⟨#[]⟩,Value.int IntKind.i64 0,Value.int IntKind.i64 0,Value.int IntKind.i64 0,Value.int IntKind.i64 0,Value.bool false,Value.int IntKind.i64 0,Value.string ⟨#[]⟩,Value.int IntKind.i64 0,Value.int IntKind.i64 0,Value.int IntKind.i64 0,Value.int IntKind.i64 0,Value.bool false]:=by kernel_rfl
@[go_sem] theorem Tryz.xzk246:zeroOk [Value.int IntKind.i64 0,Value.string ⟨#[]⟩,Value.int IntKind.i64 0,Value.int IntKind.i64 0,Value.int IntKind.i64 0,Value.int IntKind.i64 0,Value.bool false,Value.int IntKind.i64 0,Value.string ⟨#[]⟩,Value.int IntKind.i64 0,Value.int IntKind.i64 0,Value.int IntKind.i64 0,Value.int IntKind.i64 0,Value.bool false]=true:=by kernel_rfl
@[go_sem] theorem Tryz.xzk285:zeroOk [Value.bool false,Value.int IntKind.u64 0,Value.int IntKind.u64 0]=true:=by kernel_rfl
@[go_sem] theorem Tryz.xsz286:Tryz.prog.szT 286=some 3:=by kernel_rfl
@[go_sem] theorem Tryz.xag286:Tryz.prog.aggT 286=some true:=by kernel_rfl
@[go_sem] theorem Tryz.xpl286:Tryz.prog.plT 286=some [(0,1),(1,1),(2,1)]:=by kernel_rfl
@[go_sem] theorem Tryz.xze286:Tryz.prog.zeroT 286=some [Value.bool false,Value.int IntKind.u64 0,Value.int IntKind.u64 0]:=by kernel_rfl
@[go_sem] theorem Tryz.xfl286_0:Tryz.prog.fldT 286 0=some (0,4):=by kernel_rfl
@[go_sem] theorem Tryz.xfl286_1:Tryz.prog.fldT 286 1=some (1,57):=by kernel_rfl
@[go_sem] theorem Tryz.xfl286_2:Tryz.prog.fldT 286 2=some (2,57):=by kernel_rfl
attribute [go_sem] Tryz.underlying0 Tryz.underlying1 Tryz.underlying2 Tryz.underlying3 Tryz.underlying4 Tryz.underlying5 Tryz.underlying6 Tryz.underlying7 Tryz.underlying8 Tryz.underlying9 Tryz.underlying10 Tryz.underlying11 Tryz.underlying12 Tryz.underlying13 Tryz.underlying14 Tryz.underlying15 Tryz.underlying16 Tryz.underlying17 Tryz.underlying18 Tryz.underlying19 Tryz.underlying20 Tryz.underlying21 Tryz.underlying22 Tryz.underlying23 Tryz.underlying24 Tryz.underlying25 Tryz.underlying26 Tryz.underlying27 Tryz.underlying28 Tryz.underlying29 Tryz.underlying30 Tryz.underlying31 Tryz.underlying32 Tryz.underlying33 Tryz.underlying34 Tryz.underlying35 Tryz.underlying36 Tryz.underlying37 Tryz.underlying38 Tryz.underlying39 Tryz.underlying40 Tryz.underlying41 Tryz.underlying42 Tryz.underlying43 Tryz.underlying44 Tryz.underlying45 Tryz.underlying46 Tryz.underlying47 Tryz.underlying48 Tryz.underlying49 Tryz.underlying50 Tryz.underlying51 Tryz.underlying52 Tryz.underlying53 Tryz.underlying54 Tryz.underlying55 Tryz.underlying56 Tryz.underlying57 Tryz.underlying58 Tryz.underlying59 Tryz.underlying60 Tryz.underlying61 Tryz.underlying62 Tryz.underlying63 Tryz.underlying64 Tryz.underlying65 Tryz.underlying66 Tryz.underlying67 Tryz.underlying68 Tryz.underlying69 Tryz.underlying70 Tryz.underlying71 Tryz.underlying72 Tryz.underlying73 Tryz.underlying74 Tryz.underlying75 Tryz.underlying76 Tryz.underlying77 Tryz.underlying78 Tryz.underlying79 Tryz.underlying80 Tryz.underlying81 Tryz.underlying82 Tryz.underlying83 Tryz.underlying84 Tryz.underlying85 Tryz.underlying86 Tryz.underlying87 Tryz.underlying88 Tryz.underlying89 Tryz.underlying90 Tryz.underlying91 Tryz.underlying92 Tryz.underlying93 Tryz.underlying94 Tryz.underlying95 Tryz.underlying96 Tryz.underlying97 Tryz.underlying98 Tryz.underlying99 Tryz.underlying100 Tryz.underlying101 Tryz.underlying102 Tryz.underlying103 Tryz.underlying104 Tryz.underlying105 Tryz.underlying106 Tryz.underlying107 Tryz.underlying108 Tryz.underlying109 Tryz.underlying110 Tryz.underlying111 Tryz.underlying112 Tryz.underlying113 Tryz.underlying114 Tryz.underlying115 Tryz.underlying116 Tryz.underlying117 Tryz.underlying118 Tryz.underlying119 Tryz.underlying120 Tryz.underlying121 Tryz.underlying122 Tryz.underlying123 Tryz.underlying124 Tryz.underlying125 Tryz.underlying126 Tryz.underlying127 Tryz.underlying128 Tryz.underlying129 Tryz.underlying130 Tryz.underlying131 Tryz.underlying132 Tryz.underlying133 Tryz.underlying134 Tryz.underlying135 Tryz.underlying136 Tryz.underlying137 Tryz.underlying138 Tryz.underlying139 Tryz.underlying140 Tryz.underlying141 Tryz.underlying142 Tryz.underlying143 Tryz.underlying144 Tryz.underlying145 Tryz.underlying146 Tryz.underlying147 Tryz.underlying148 Tryz.underlying149 Tryz.underlying150 Tryz.underlying151 Tryz.underlying152 Tryz.underlying153 Tryz.underlying154 Tryz.underlying155 Tryz.underlying156 Tryz.underlying157 Tryz.underlying158 Tryz.underlying159 Tryz.underlying160 Tryz.underlying161 Tryz.underlying162 Tryz.underlying163 Tryz.underlying164 Tryz.underlying165 Tryz.underlying166 Tryz.underlying167 Tryz.underlying168 Tryz.underlying169 Tryz.underlying170 Tryz.underlying171 Tryz.underlying172 Tryz.underlying173 Tryz.underlying174 Tryz.underlying175 Tryz.underlying176 Tryz.underlying177 Tryz.underlying178 Tryz.underlying179 Tryz.underlying180 Tryz.underlying181 Tryz.underlying182 Tryz.underlying183 Tryz.underlying184 Tryz.underlying185 Tryz.underlying186 Tryz.underlying187 Tryz.underlying188 Tryz.underlying189 Tryz.underlying190 Tryz.underlying191 Tryz.underlying192 Tryz.underlying193 Tryz.underlying194 Tryz.underlying195 Tryz.underlying196 Tryz.underlying197 Tryz.underlying198 Tryz.underlying199 Tryz.underlying200 Tryz.underlying201 Tryz.underlying202 Tryz.underlying203 Tryz.underlying204 Tryz.underlying205 Tryz.underlying206 Tryz.underlying207 Tryz.underlying208 Tryz.underlying209 Tryz.underlying210 Tryz.underlying211 Tryz.underlying212 Tryz.underlying213 Tryz.underlying214 Tryz.underlying215 Tryz.underlying216 Tryz.underlying217 Tryz.underlying218 Tryz.underlying219 Tryz.underlying220 Tryz.underlying221 Tryz.underlying222 Tryz.underlying223 Tryz.underlying224 Tryz.underlying225 Tryz.underlying226 Tryz.underlying227 Tryz.underlying228 Tryz.underlying229 Tryz.underlying230 Tryz.underlying231 Tryz.underlying232 Tryz.underlying233 Tryz.underlying234 Tryz.underlying235 Tryz.underlying236 Tryz.underlying237 Tryz.underlying238 Tryz.underlying239 Tryz.underlying240 Tryz.underlying241 Tryz.underlying242 Tryz.underlying243 Tryz.underlying244 Tryz.underlying245 Tryz.underlying246 Tryz.underlying247 Tryz.underlying248 Tryz.underlying249 Tryz.underlying250 Tryz.underlying251 Tryz.underlying252 Tryz.underlying253 Tryz.underlying254 Tryz.underlying255 Tryz.underlying256 Tryz.underlying257 Tryz.underlying258 Tryz.underlying259 Tryz.underlying260 Tryz.underlying261 Tryz.underlying262 Tryz.underlying263 Tryz.underlying264 Tryz.underlying265 Tryz.underlying266 Tryz.underlying267 Tryz.underlying268 Tryz.underlying269 Tryz.underlying270 Tryz.underlying271 Tryz.underlying272 Tryz.underlying273 Tryz.underlying274 Tryz.underlying275 Tryz.underlying276 Tryz.underlying277 Tryz.underlying278 Tryz.underlying279 Tryz.underlying280 Tryz.underlying281 Tryz.underlying282 Tryz.underlying283 Tryz.underlying284 Tryz.underlying285 Tryz.underlying286 Tryz.underlying287 Tryz.underlying288 Tryz.underlying289 Tryz.underlying290 Tryz.underlying291 Tryz.underlying292 Tryz.underlying293 Tryz.underlying294 Tryz.underlying295 Tryz.underlying296 Tryz.underlying297 Tryz.underlying298 Tryz.underlying299 Tryz.underlying300 Tryz.underlying301 Tryz.underlying302 Tryz.underlying303 Tryz.underlying304 Tryz.underlying305 Tryz.underlying306 Tryz.underlying307 Tryz.underlying308 Tryz.underlying309 Tryz.underlying310 Tryz.underlying311 Tryz.underlying312 Tryz.underlying313 Tryz.underlying314 Tryz.underlying315 Tryz.underlying316 Tryz.underlying317 Tryz.underlying318 Tryz.underlying319 Tryz.underlying320 Tryz.underlying321 Tryz.underlying322 Tryz.underlying323 Tryz.underlying324 Tryz.underlying325 Tryz.underlying326 Tryz.underlying327 Tryz.underlying328 Tryz.underlying329 Tryz.underlying330 Tryz.underlying331 Tryz.underlying332 Tryz.underlying333
theorem Tryz.xen3:Tryz.prog.enters 3=true:=by kernel_rfl
@[go_sem] theorem Tryz.xio13:Tryz.prog.ioF 13=false:=by kernel_rfl
theorem Tryz.xen13:Tryz.prog.enters 13=true:=by kernel_rfl
@[go_sem] theorem Tryz.xio14:Tryz.prog.ioF 14=false:=by kernel_rfl
theorem Tryz.xen14:Tryz.prog.enters 14=true:=by kernel_rfl
@[go_sem] theorem Tryz.xio15:Tryz.prog.ioF 15=false:=by kernel_rfl
theorem Tryz.xen15:Tryz.prog.enters 15=true:=by kernel_rfl
@[go_sem] theorem Tryz.xio16:Tryz.prog.ioF 16=false:=by kernel_rfl
theorem Tryz.xen16:Tryz.prog.enters 16=true:=by kernel_rfl
@[go_sem] theorem Tryz.xio17:Tryz.prog.ioF 17=false:=by kernel_rfl
theorem Tryz.xen17:Tryz.prog.enters 17=true:=by kernel_rfl
@[go_sem] theorem Tryz.xio18:Tryz.prog.ioF 18=false:=by kernel_rfl
theorem Tryz.xen18:Tryz.prog.enters 18=true:=by kernel_rfl
@[go_sem] theorem Tryz.xio31:Tryz.prog.ioF 31=true:=by kernel_rfl
theorem Tryz.xen31:Tryz.prog.enters 31=true:=by kernel_rfl
@[go_sem] theorem Tryz.xio41:Tryz.prog.ioF 41=true:=by kernel_rfl
theorem Tryz.xen41:Tryz.prog.enters 41=true:=by kernel_rfl
@[go_sem] theorem Tryz.xio42:Tryz.prog.ioF 42=false:=by kernel_rfl
theorem Tryz.xen42:Tryz.prog.enters 42=true:=by kernel_rfl
@[go_sem] theorem Tryz.xio44:Tryz.prog.ioF 44=false:=by kernel_rfl
theorem Tryz.xen44:Tryz.prog.enters 44=true:=by kernel_rfl
@[go_sem] theorem Tryz.xio45:Tryz.prog.ioF 45=false:=by kernel_rfl
theorem Tryz.xen45:Tryz.prog.enters 45=true:=by kernel_rfl
@[go_sem] theorem Tryz.xio46:Tryz.prog.ioF 46=true:=by kernel_rfl
theorem Tryz.xen46:Tryz.prog.enters 46=true:=by kernel_rfl
@[go_sem] theorem Tryz.xio47:Tryz.prog.ioF 47=true:=by kernel_rfl
theorem Tryz.xen47:Tryz.prog.enters 47=true:=by kernel_rfl
@[go_sem] theorem Tryz.xio48:Tryz.prog.ioF 48=true:=by kernel_rfl
theorem Tryz.xen48:Tryz.prog.enters 48=true:=by kernel_rfl
theorem Tryz.xen49:Tryz.prog.enters 49=true:=by kernel_rfl
@[go_sem] theorem Tryz.xio50:Tryz.prog.ioF 50=false:=by kernel_rfl
theorem Tryz.xen50:Tryz.prog.enters 50=true:=by kernel_rfl
@[go_sem] theorem Tryz.xio51:Tryz.prog.ioF 51=true:=by kernel_rfl
theorem Tryz.xen51:Tryz.prog.enters 51=true:=by kernel_rfl
@[go_sem] theorem Tryz.xio52:Tryz.prog.ioF 52=false:=by kernel_rfl
theorem Tryz.xen52:Tryz.prog.enters 52=true:=by kernel_rfl
@[go_sem] theorem Tryz.xio53:Tryz.prog.ioF 53=false:=by kernel_rfl
theorem Tryz.xen53:Tryz.prog.enters 53=true:=by kernel_rfl
@[go_sem] theorem Tryz.xio54:Tryz.prog.ioF 54=true:=by kernel_rfl
theorem Tryz.xen54:Tryz.prog.enters 54=true:=by kernel_rfl
@[go_sem] theorem Tryz.xio55:Tryz.prog.ioF 55=false:=by kernel_rfl
theorem Tryz.xen55:Tryz.prog.enters 55=true:=by kernel_rfl
@[go_sem] theorem Tryz.xio56:Tryz.prog.ioF 56=false:=by kernel_rfl
theorem Tryz.xen56:Tryz.prog.enters 56=true:=by kernel_rfl
@[go_sem] theorem Tryz.xio57:Tryz.prog.ioF 57=false:=by kernel_rfl
theorem Tryz.xen57:Tryz.prog.enters 57=true:=by kernel_rfl
@[go_sem] theorem Tryz.xio58:Tryz.prog.ioF 58=false:=by kernel_rfl
theorem Tryz.xen58:Tryz.prog.enters 58=true:=by kernel_rfl
@[go_sem] theorem Tryz.xio59:Tryz.prog.ioF 59=false:=by kernel_rfl
theorem Tryz.xen59:Tryz.prog.enters 59=true:=by kernel_rfl
theorem Tryz.xen81:Tryz.prog.enters 81=true:=by kernel_rfl
@[go_sem] theorem Tryz.xio94:Tryz.prog.ioF 94=false:=by kernel_rfl
theorem Tryz.xen94:Tryz.prog.enters 94=true:=by kernel_rfl
@[go_sem] theorem Tryz.xio102:Tryz.prog.ioF 102=false:=by kernel_rfl
theorem Tryz.xen102:Tryz.prog.enters 102=true:=by kernel_rfl
@[go_sem] theorem Tryz.xio103:Tryz.prog.ioF 103=false:=by kernel_rfl
theorem Tryz.xen103:Tryz.prog.enters 103=true:=by kernel_rfl
@[go_sem] theorem Tryz.xio104:Tryz.prog.ioF 104=false:=by kernel_rfl
theorem Tryz.xen104:Tryz.prog.enters 104=true:=by kernel_rfl
@[go_sem] theorem Tryz.xio105:Tryz.prog.ioF 105=true:=by kernel_rfl
theorem Tryz.xen105:Tryz.prog.enters 105=true:=by kernel_rfl
theorem Tryz.xen106:Tryz.prog.enters 106=true:=by kernel_rfl
@[go_sem] theorem Tryz.xio107:Tryz.prog.ioF 107=false:=by kernel_rfl
theorem Tryz.xen107:Tryz.prog.enters 107=true:=by kernel_rfl
@[go_sem] theorem Tryz.xio108:Tryz.prog.ioF 108=false:=by kernel_rfl
theorem Tryz.xen108:Tryz.prog.enters 108=true:=by kernel_rfl
theorem Tryz.xen109:Tryz.prog.enters 109=true:=by kernel_rfl
@[go_sem] theorem Tryz.xio110:Tryz.prog.ioF 110=false:=by kernel_rfl
theorem Tryz.xen110:Tryz.prog.enters 110=true:=by kernel_rfl
theorem Tryz.xen111:Tryz.prog.enters 111=true:=by kernel_rfl
@[go_sem] theorem Tryz.xio112:Tryz.prog.ioF 112=false:=by kernel_rfl
theorem Tryz.xen112:Tryz.prog.enters 112=true:=by kernel_rfl
@[go_sem] theorem Tryz.xio113:Tryz.prog.ioF 113=false:=by kernel_rfl
theorem Tryz.xen113:Tryz.prog.enters 113=true:=by kernel_rfl
@[go_sem] theorem Tryz.xio114:Tryz.prog.ioF 114=false:=by kernel_rfl
theorem Tryz.xen114:Tryz.prog.enters 114=true:=by kernel_rfl
@[go_sem] theorem Tryz.xio118:Tryz.prog.ioF 118=false:=by kernel_rfl
theorem Tryz.xen118:Tryz.prog.enters 118=true:=by kernel_rfl
@[go_sem] theorem Tryz.xio119:Tryz.prog.ioF 119=false:=by kernel_rfl
theorem Tryz.xen119:Tryz.prog.enters 119=true:=by kernel_rfl
@[go_sem] theorem Tryz.xio120:Tryz.prog.ioF 120=false:=by kernel_rfl
theorem Tryz.xen120:Tryz.prog.enters 120=true:=by kernel_rfl
@[go_sem] theorem Tryz.xio121:Tryz.prog.ioF 121=false:=by kernel_rfl
theorem Tryz.xen121:Tryz.prog.enters 121=true:=by kernel_rfl
@[go_sem] theorem Tryz.xio122:Tryz.prog.ioF 122=false:=by kernel_rfl
theorem Tryz.xen122:Tryz.prog.enters 122=true:=by kernel_rfl
@[go_sem] theorem Tryz.xio123:Tryz.prog.ioF 123=false:=by kernel_rfl
theorem Tryz.xen123:Tryz.prog.enters 123=true:=by kernel_rfl
@[go_sem] theorem Tryz.xio124:Tryz.prog.ioF 124=false:=by kernel_rfl
theorem Tryz.xen124:Tryz.prog.enters 124=true:=by kernel_rfl
@[go_sem] theorem Tryz.xio125:Tryz.prog.ioF 125=false:=by kernel_rfl
theorem Tryz.xen125:Tryz.prog.enters 125=true:=by kernel_rfl
@[go_sem] theorem Tryz.xio126:Tryz.prog.ioF 126=false:=by kernel_rfl
theorem Tryz.xen126:Tryz.prog.enters 126=true:=by kernel_rfl
@[go_sem] theorem Tryz.xio127:Tryz.prog.ioF 127=false:=by kernel_rfl
theorem Tryz.xen127:Tryz.prog.enters 127=true:=by kernel_rfl
@[go_sem] theorem Tryz.xio128:Tryz.prog.ioF 128=false:=by kernel_rfl
theorem Tryz.xen128:Tryz.prog.enters 128=true:=by kernel_rfl
@[go_sem] theorem Tryz.xio138:Tryz.prog.ioF 138=false:=by kernel_rfl
theorem Tryz.xen138:Tryz.prog.enters 138=true:=by kernel_rfl
@[go_sem] theorem Tryz.xio143:Tryz.prog.ioF 143=false:=by kernel_rfl
theorem Tryz.xen143:Tryz.prog.enters 143=true:=by kernel_rfl
theorem Tryz.xen147:Tryz.prog.enters 147=true:=by kernel_rfl
@[go_sem] theorem Tryz.xio158:Tryz.prog.ioF 158=true:=by kernel_rfl
theorem Tryz.xen158:Tryz.prog.enters 158=true:=by kernel_rfl
@[go_sem] theorem Tryz.xio162:Tryz.prog.ioF 162=false:=by kernel_rfl
theorem Tryz.xen162:Tryz.prog.enters 162=true:=by kernel_rfl
@[go_sem] theorem Tryz.xio164:Tryz.prog.ioF 164=true:=by kernel_rfl
theorem Tryz.xen164:Tryz.prog.enters 164=true:=by kernel_rfl
@[go_sem] theorem Tryz.xio165:Tryz.prog.ioF 165=true:=by kernel_rfl
theorem Tryz.xen165:Tryz.prog.enters 165=true:=by kernel_rfl
@[go_sem] theorem Tryz.xio166:Tryz.prog.ioF 166=false:=by kernel_rfl
theorem Tryz.xen166:Tryz.prog.enters 166=true:=by kernel_rfl
@[go_sem] theorem Tryz.xio167:Tryz.prog.ioF 167=false:=by kernel_rfl
theorem Tryz.xen167:Tryz.prog.enters 167=true:=by kernel_rfl
@[go_sem] theorem Tryz.xio168:Tryz.prog.ioF 168=false:=by kernel_rfl
theorem Tryz.xen168:Tryz.prog.enters 168=true:=by kernel_rfl
@[go_sem] theorem Tryz.xio169:Tryz.prog.ioF 169=false:=by kernel_rfl
theorem Tryz.xen169:Tryz.prog.enters 169=true:=by kernel_rfl
@[go_sem] theorem Tryz.xio170:Tryz.prog.ioF 170=false:=by kernel_rfl
theorem Tryz.xen170:Tryz.prog.enters 170=true:=by kernel_rfl
@[go_sem] theorem Tryz.xio171:Tryz.prog.ioF 171=false:=by kernel_rfl
theorem Tryz.xen171:Tryz.prog.enters 171=true:=by kernel_rfl
@[go_sem] theorem Tryz.xio172:Tryz.prog.ioF 172=false:=by kernel_rfl
theorem Tryz.xen172:Tryz.prog.enters 172=true:=by kernel_rfl
@[go_sem] theorem Tryz.xio173:Tryz.prog.ioF 173=false:=by kernel_rfl
theorem Tryz.xen173:Tryz.prog.enters 173=true:=by kernel_rfl
theorem Tryz.xen174:Tryz.prog.enters 174=true:=by kernel_rfl
theorem Tryz.xen175:Tryz.prog.enters 175=true:=by kernel_rfl
@[go_sem] theorem Tryz.xio176:Tryz.prog.ioF 176=false:=by kernel_rfl
theorem Tryz.xen176:Tryz.prog.enters 176=true:=by kernel_rfl
@[go_sem] theorem Tryz.xio177:Tryz.prog.ioF 177=true:=by kernel_rfl
theorem Tryz.xen177:Tryz.prog.enters 177=true:=by kernel_rfl
@[go_sem] theorem Tryz.xio181:Tryz.prog.ioF 181=false:=by kernel_rfl
theorem Tryz.xen181:Tryz.prog.enters 181=true:=by kernel_rfl
@[go_sem] theorem Tryz.xio182:Tryz.prog.ioF 182=false:=by kernel_rfl
theorem Tryz.xen182:Tryz.prog.enters 182=true:=by kernel_rfl
@[go_sem] theorem Tryz.xio183:Tryz.prog.ioF 183=false:=by kernel_rfl
theorem Tryz.xen183:Tryz.prog.enters 183=true:=by kernel_rfl
@[go_sem] theorem Tryz.xio184:Tryz.prog.ioF 184=false:=by kernel_rfl
theorem Tryz.xen184:Tryz.prog.enters 184=true:=by kernel_rfl
@[go_sem] theorem Tryz.xio185:Tryz.prog.ioF 185=false:=by kernel_rfl
theorem Tryz.xen185:Tryz.prog.enters 185=true:=by kernel_rfl
@[go_sem] theorem Tryz.xio186:Tryz.prog.ioF 186=false:=by kernel_rfl
theorem Tryz.xen186:Tryz.prog.enters 186=true:=by kernel_rfl
@[go_sem] theorem Tryz.xio187:Tryz.prog.ioF 187=false:=by kernel_rfl
theorem Tryz.xen187:Tryz.prog.enters 187=true:=by kernel_rfl
@[go_sem] theorem Tryz.xio188:Tryz.prog.ioF 188=false:=by kernel_rfl
theorem Tryz.xen188:Tryz.prog.enters 188=true:=by kernel_rfl
@[go_sem] theorem Tryz.xio189:Tryz.prog.ioF 189=false:=by kernel_rfl
theorem Tryz.xen189:Tryz.prog.enters 189=true:=by kernel_rfl
@[go_sem] theorem Tryz.xio190:Tryz.prog.ioF 190=false:=by kernel_rfl
theorem Tryz.xen190:Tryz.prog.enters 190=true:=by kernel_rfl
@[go_sem] theorem Tryz.xio191:Tryz.prog.ioF 191=false:=by kernel_rfl
theorem Tryz.xen191:Tryz.prog.enters 191=true:=by kernel_rfl
@[go_sem] theorem Tryz.xio192:Tryz.prog.ioF 192=false:=by kernel_rfl
theorem Tryz.xen192:Tryz.prog.enters 192=true:=by kernel_rfl
theorem Tryz.xen202:Tryz.prog.enters 202=true:=by kernel_rfl
@[go_sem] theorem Tryz.xio210:Tryz.prog.ioF 210=false:=by kernel_rfl
theorem Tryz.xen210:Tryz.prog.enters 210=true:=by kernel_rfl
@[go_sem] theorem Tryz.xio212:Tryz.prog.ioF 212=false:=by kernel_rfl
theorem Tryz.xen212:Tryz.prog.enters 212=true:=by kernel_rfl
@[go_sem] theorem Tryz.xio213:Tryz.prog.ioF 213=false:=by kernel_rfl
theorem Tryz.xen213:Tryz.prog.enters 213=true:=by kernel_rfl
theorem Tryz.xen214:Tryz.prog.enters 214=true:=by kernel_rfl
@[go_sem] theorem Tryz.xio215:Tryz.prog.ioF 215=false:=by kernel_rfl
theorem Tryz.xen215:Tryz.prog.enters 215=true:=by kernel_rfl
@[go_sem] theorem Tryz.xio227:Tryz.prog.ioF 227=false:=by kernel_rfl
theorem Tryz.xen227:Tryz.prog.enters 227=true:=by kernel_rfl
@[go_sem] theorem Tryz.xio228:Tryz.prog.ioF 228=false:=by kernel_rfl
theorem Tryz.xen228:Tryz.prog.enters 228=true:=by kernel_rfl
@[go_sem] theorem Tryz.xio229:Tryz.prog.ioF 229=false:=by kernel_rfl
theorem Tryz.xen229:Tryz.prog.enters 229=true:=by kernel_rfl
@[go_sem] theorem Tryz.xio230:Tryz.prog.ioF 230=false:=by kernel_rfl
theorem Tryz.xen230:Tryz.prog.enters 230=true:=by kernel_rfl
@[go_sem] theorem Tryz.xio231:Tryz.prog.ioF 231=false:=by kernel_rfl
theorem Tryz.xen231:Tryz.prog.enters 231=true:=by kernel_rfl
@[go_sem] theorem Tryz.xio232:Tryz.prog.ioF 232=false:=by kernel_rfl
theorem Tryz.xen232:Tryz.prog.enters 232=true:=by kernel_rfl
@[go_sem] theorem Tryz.xio233:Tryz.prog.ioF 233=false:=by kernel_rfl
theorem Tryz.xen233:Tryz.prog.enters 233=true:=by kernel_rfl
@[go_sem] theorem Tryz.xio234:Tryz.prog.ioF 234=false:=by kernel_rfl
theorem Tryz.xen234:Tryz.prog.enters 234=true:=by kernel_rfl
@[go_sem] theorem Tryz.xio235:Tryz.prog.ioF 235=false:=by kernel_rfl
theorem Tryz.xen235:Tryz.prog.enters 235=true:=by kernel_rfl
@[go_sem] theorem Tryz.xio236:Tryz.prog.ioF 236=false:=by kernel_rfl
theorem Tryz.xen236:Tryz.prog.enters 236=true:=by kernel_rfl
@[go_sem] theorem Tryz.xio237:Tryz.prog.ioF 237=false:=by kernel_rfl
theorem Tryz.xen237:Tryz.prog.enters 237=true:=by kernel_rfl
@[go_sem] theorem Tryz.xio240:Tryz.prog.ioF 240=false:=by kernel_rfl
theorem Tryz.xen240:Tryz.prog.enters 240=true:=by kernel_rfl
@[go_sem] theorem Tryz.xio245:Tryz.prog.ioF 245=false:=by kernel_rfl
theorem Tryz.xen245:Tryz.prog.enters 245=true:=by kernel_rfl
@[go_sem] theorem Tryz.xio246:Tryz.prog.ioF 246=false:=by kernel_rfl
theorem Tryz.xen246:Tryz.prog.enters 246=true:=by kernel_rfl
@[go_sem] theorem Tryz.xio247:Tryz.prog.ioF 247=false:=by kernel_rfl
theorem Tryz.xen247:Tryz.prog.enters 247=true:=by kernel_rfl
@[go_sem] theorem Tryz.xio249:Tryz.prog.ioF 249=true:=by kernel_rfl
theorem Tryz.xen249:Tryz.prog.enters 249=true:=by kernel_rfl
@[go_sem] theorem Tryz.xio256:Tryz.prog.ioF 256=false:=by kernel_rfl
theorem Tryz.xen256:Tryz.prog.enters 256=true:=by kernel_rfl
@[go_sem] theorem Tryz.xio257:Tryz.prog.ioF 257=false:=by kernel_rfl
theorem Tryz.xen257:Tryz.prog.enters 257=true:=by kernel_rfl
@[go_sem] theorem Tryz.xio258:Tryz.prog.ioF 258=true:=by kernel_rfl
@[go_sem] theorem Tryz.xio259:Tryz.prog.ioF 259=true:=by kernel_rfl
@[go_sem] theorem Tryz.xio260:Tryz.prog.ioF 260=false:=by kernel_rfl
theorem Tryz.xen260:Tryz.prog.enters 260=true:=by kernel_rfl
@[go_sem] theorem Tryz.xio261:Tryz.prog.ioF 261=false:=by kernel_rfl
theorem Tryz.xen261:Tryz.prog.enters 261=true:=by kernel_rfl
@[go_sem] theorem Tryz.xio262:Tryz.prog.ioF 262=false:=by kernel_rfl
theorem Tryz.xen262:Tryz.prog.enters 262=true:=by kernel_rfl
@[go_sem] theorem Tryz.xio263:Tryz.prog.ioF 263=false:=by kernel_rfl
theorem Tryz.xen263:Tryz.prog.enters 263=true:=by kernel_rfl
@[go_sem] theorem Tryz.xio267:Tryz.prog.ioF 267=false:=by kernel_rfl
theorem Tryz.xen267:Tryz.prog.enters 267=true:=by kernel_rfl
end Go.Proofs.YtmbmmijdmdoalaaGreat
