/- Proved here: Sources, clips, tracks and expressions as plain data, and how they lie in cells, for use in the proofs of the given statements; conditions stand in each theorem. -/
import Derived.Test.YtmbmmijdmdoalaaZG
import Derived.Test.YtmbmmijdmdoalaaZC
import Derived.Test.YtmbmmijdmdoalaaProg
set_option linter.unusedSimpArgs false
set_option linter.unusedVariables false
set_option linter.unusedSectionVars false
set_option linter.unnecessarySimpa false
namespace Go.Proofs.Ytmbmmijdmdoalaa
open Go.RowKit
set_option maxRecDepth 4000
theorem bxx:(∀ (p:Prop) [Decidable p],(decide p=true)=p)∧(∀ (p:Prop) [Decidable p],(decide p=false) ↔ ¬p)∧(∀ (α : Type) [BEq α] [LawfulBEq α] (a b : α),((a==b)=true) ↔ a=b)∧(∀ (α : Type) [BEq α] [LawfulBEq α] (a b : α),((a != b)=true) ↔ a≠b)∧(∀ (α : Sort 1) (a b : α),(a≠b) = ¬(a=b))∧(∀ (α : Type) [BEq α] [LawfulBEq α] (a b : α),((a==b)=false) ↔ a≠b)∧(∀ b:Bool,((!b)=true)=(b=false))∧(∀ b:Bool,(¬(b=true))=(b=false))∧(∀ b:Bool,((!b)=false)=(b=true))∧(∀ a b:Bool,((a||b)=true)=(a=true∨b=true))∧(∀ a b:Bool,((a&&b)=true)=(a=true∧b=true))∧(∀ a b:Bool,((a||b)=false)=(a=false∧b=false))∧(∀ a b:Bool,((a&&b)=false)=(a=false∨b=false))∧((false=true)=False)∧(∀ a b:Bool,((!a)=b)=(a = !b))∧((!true)=false)∧((!false)=true) :=
 ⟨fun _ _=>decide_eq_true_eq,fun _ _=>decide_eq_false_iff_not,fun _ _ _ _ _=>beq_iff_eq,fun _ _ _ _ _=>bne_iff_ne,fun _ _ _=>rfl,fun _ _ _ _ _=>beq_eq_false_iff_ne,by decide,by decide,by decide,by decide,by decide,by decide,by decide,by decide,by decide,rfl,rfl⟩
abbrev ti (n:Int):T := .lit (.int .i64 n)
abbrev tu (n:Int):T := .lit (.int .u64 n)
abbrev tstr (s:ByteArray):T := .lit (.string s)
abbrev tbl (b:Bool):T := .lit (.bool b)
abbrev vu64 (n:Int):V := .t (.lit (.int .u64 n))
def intC (n:Int):List T:=[ti n]
def strC (s:ByteArray):List T:=[tstr s]
@[go_sem] abbrev tints (l:List Int):T := .list 1 (intC 0) (l.map intC)
@[go_sem] abbrev tstrs (l:List ByteArray):T := .list 1 (strC ⟨#[]⟩) (l.map strC)
@[go_sem] theorem intC_t (n:Int):(intC n).map V.t = [vint n]:=rfl
@[go_sem] theorem strC_t (n:ByteArray):(strC n).map V.t = [vstr n]:=rfl
@[go_sem] theorem intC_l (n:Int):(intC n).length=1:=rfl
@[go_sem] theorem strC_l (n:ByteArray):(strC n).length=1:=rfl
structure RatR where
 num:Int
 den:Int
 deriving Inhabited
structure SourceR where
 kind:Int
 name:ByteArray
 pos:RatR
 speed:RatR
 smooth:Bool
 deriving Inhabited
structure ClipR where
 len:Int
 kind:Int
 a:SourceR
 b:SourceR
 off:Int
 total:Int
 param:Int
 text:ByteArray
 gain:Int
 chan:List Int
 deriving Inhabited
def RatR.c (r:RatR):List T:=[ti r.num,ti r.den]
def SourceR.c (s:SourceR):List T:=[ti s.kind,tstr s.name,ti s.pos.num,ti s.pos.den,ti s.speed.num,ti s.speed.den,tbl s.smooth]
def ClipR.c (c:ClipR):List T:=[ti c.len,ti c.kind,ti c.a.kind,tstr c.a.name,ti c.a.pos.num,ti c.a.pos.den,ti c.a.speed.num,ti c.a.speed.den,tbl c.a.smooth,
 ti c.b.kind,tstr c.b.name,ti c.b.pos.num,ti c.b.pos.den,ti c.b.speed.num,ti c.b.speed.den,tbl c.b.smooth,ti c.off,ti c.total,ti c.param,tstr c.text,ti c.gain,tints c.chan]
abbrev vrat (r:RatR):V := .agg [vint r.num,vint r.den]
abbrev vsource (s:SourceR):V := .agg [vint s.kind,vstr s.name,vint s.pos.num,vint s.pos.den,vint s.speed.num,vint s.speed.den,vbool s.smooth]
abbrev vclip (c:ClipR):V := .agg [vint c.len,vint c.kind,vint c.a.kind,vstr c.a.name,vint c.a.pos.num,vint c.a.pos.den,vint c.a.speed.num,vint c.a.speed.den,vbool c.a.smooth,
 vint c.b.kind,vstr c.b.name,vint c.b.pos.num,vint c.b.pos.den,vint c.b.speed.num,vint c.b.speed.den,vbool c.b.smooth,vint c.off,vint c.total,vint c.param,vstr c.text,vint c.gain, .t (tints c.chan)]
@[go_sem] theorem RatR.ct (r:RatR):(RatR.c r).map V.t = [vint r.num,vint r.den]:=rfl
@[go_sem] theorem SourceR.ct (s:SourceR):(SourceR.c s).map V.t = [vint s.kind,vstr s.name,vint s.pos.num,vint s.pos.den,vint s.speed.num,vint s.speed.den,vbool s.smooth]:=rfl
@[go_sem] theorem ClipR.ct (c:ClipR):(ClipR.c c).map V.t = [vint c.len,vint c.kind,vint c.a.kind,vstr c.a.name,vint c.a.pos.num,vint c.a.pos.den,vint c.a.speed.num,vint c.a.speed.den,vbool c.a.smooth,
 vint c.b.kind,vstr c.b.name,vint c.b.pos.num,vint c.b.pos.den,vint c.b.speed.num,vint c.b.speed.den,vbool c.b.smooth,vint c.off,vint c.total,vint c.param,vstr c.text,vint c.gain, .t (tints c.chan)]:=rfl
@[go_sem] theorem RatR.cl (r:RatR):(RatR.c r).length=2:=rfl
@[go_sem] theorem SourceR.cl (r:SourceR):(SourceR.c r).length=7:=rfl
@[go_sem] theorem ClipR.cl (r:ClipR):(ClipR.c r).length=22:=rfl
@[go_sem] abbrev tclips (l:List ClipR):T := .list 22 (ClipR.c default) (l.map ClipR.c)
theorem getD_of_lt {α : Type} [Inhabited α] {xs:List α} {k:Nat} (h:k<xs.length):xs.getD k default=xs[k]:=by simp [List.getD_eq_getElem?_getD,h]
theorem brW {B b:Bool} {A C:Prop} (h:B=b) (k:(b=true→A)∧(b=false→C)):(B=true→A)∧(B=false→C):=by rw [h];exact k
theorem nt {b:Bool} (h:(!b)=true):b=false:=by cases b<;>simp_all
theorem nf {b:Bool} (h:(!b)=false):b=true:=by cases b<;>simp_all
@[go_sem] theorem bne_f {b:Bool}:(b != false)=b:=by cases b<;>rfl
def I64 (n:Int):Prop := -9223372036854775808≤n∧n≤9223372036854775807
theorem wrap64 {x:Int} (h1 : -9223372036854775808≤x) (h2:x≤9223372036854775807):IntKind.i64.wrap x=x:=by
 have e1:(2:Int) ^ IntKind.i64.bits=18446744073709551616:=by decide
 have e2:(2:Int) ^ (IntKind.i64.bits - 1)=9223372036854775808:=by decide
 unfold IntKind.wrap
 simp only [IntKind.signed,if_true,e1,e2,Bool.true_and,decide_eq_true_eq]
 split<;>omega
theorem wrapN {n:Nat} (h:n≤9223372036854775807):IntKind.i64.wrap (n:Int)=n:=wrap64 (by omega) (by omega)
theorem wrap1 {k:Nat} (h:k<9223372036854775807):IntKind.i64.wrap ((k:Int)+1)=(k:Int)+1:=wrap64 (by omega) (by omega)
theorem wrapU64 {x:Int} (h1 : 0≤x) (h2:x≤18446744073709551615):IntKind.u64.wrap x=x:=by
 have e1:(2:Int) ^ IntKind.u64.bits=18446744073709551616:=by decide
 unfold IntKind.wrap
 simp only [IntKind.signed,e1,Bool.false_and,Bool.false_eq_true,if_false]
 omega
theorem wrapU64_neg {x:Int} (h1 : -18446744073709551616≤x) (h2:x<0):IntKind.u64.wrap x=x+18446744073709551616:=by
 have e1:(2:Int) ^ IntKind.u64.bits=18446744073709551616:=by decide
 unfold IntKind.wrap
 simp only [IntKind.signed,e1,Bool.false_and,Bool.false_eq_true,if_false]
 omega
structure RatR.fit (r:RatR):Prop where
 num:I64 r.num
 den:I64 r.den
structure SourceR.fit (s:SourceR):Prop where
 kind:I64 s.kind
 pos:s.pos.fit
 speed:s.speed.fit
structure ClipR.fit (c:ClipR):Prop where
 len:I64 c.len
 kind:I64 c.kind
 a:c.a.fit
 b:c.b.fit
 off:I64 c.off
 total:I64 c.total
 param:I64 c.param
 gain:I64 c.gain
def nmI (n:Int):Bool:=(decide (97≤n)&&decide (n≤122))||(decide (48≤n)&&decide (n≤57))||n==45||n==95||n==46
def lnI (n:Int):Bool:=decide (32≤n)&&decide (n≤126)
def bytesAll (p:Int→Bool) (s:ByteArray):Bool:=s.data.toList.all fun c=>p c.toNat
def byteAt (s:ByteArray) (k:Nat):Int:=(s.data.toList.getD k 0).toNat
theorem bytes_len (s:ByteArray):s.data.toList.length=s.size:=Array.length_toList
theorem bytes_hit {p:Int→Bool} {s:ByteArray} {k:Nat} (h:k<s.size) (hp:p (byteAt s k)=false):bytesAll p s=false:=by
 have hl:k<s.data.toList.length:=by rw [bytes_len];exact h
 unfold byteAt at hp
 rw [List.getD_eq_getElem?_getD,List.getElem?_eq_getElem hl] at hp
 unfold bytesAll
 rw [Bool.eq_false_iff,ne_eq,List.all_eq_true]
 intro h'
 have:=h' _ (List.getElem_mem hl)
 simp only [Option.getD_some] at hp
 rw [hp] at this;cases this
theorem bytes_done {p:Int→Bool} {s:ByteArray} (h:∀ k,k<s.size→p (byteAt s k)=true):bytesAll p s=true:=by
 unfold bytesAll
 rw [List.all_eq_true]
 intro c hc
 obtain ⟨k,hk,rfl⟩:=List.mem_iff_getElem.1 hc
 have:=h k (by rw [← bytes_len];exact hk)
 unfold byteAt at this
 rw [List.getD_eq_getElem?_getD,List.getElem?_eq_getElem hk] at this
 exact this
def vName (s:ByteArray):Bool:=decide (1≤s.size)&&decide (s.size≤32)&&bytesAll nmI s
def vLine (s:ByteArray):Bool:=decide (1≤s.size)&&decide (s.size≤64)&&bytesAll lnI s
open Go.RowKit
@[go_sem] theorem Try.xsz2:Try.prog.szT 2=some 1:=by kernel_rfl
@[go_sem] theorem Try.xag2:Try.prog.aggT 2=some false:=by kernel_rfl
@[go_sem] theorem Try.xby2:Try.prog.bytesT 2=some 8:=by kernel_rfl
@[go_sem] theorem Try.xze2:Try.prog.zeroT 2=some [Value.int IntKind.i64 0]:=by kernel_rfl
@[go_sem] theorem Try.xzk2:zeroOk [Value.int IntKind.i64 0]=true:=by kernel_rfl
@[go_sem] theorem Try.xsz3:Try.prog.szT 3=some 1:=by kernel_rfl
@[go_sem] theorem Try.xag3:Try.prog.aggT 3=some false:=by kernel_rfl
@[go_sem] theorem Try.xsz4:Try.prog.szT 4=some 1:=by kernel_rfl
@[go_sem] theorem Try.xag4:Try.prog.aggT 4=some false:=by kernel_rfl
@[go_sem] theorem Try.xze4:Try.prog.zeroT 4=some [Value.bool false]:=by kernel_rfl
@[go_sem] theorem Try.xzk4:zeroOk [Value.bool false]=true:=by kernel_rfl
@[go_sem] theorem Try.xag5:Try.prog.aggT 5=some false:=by kernel_rfl
@[go_sem] theorem Try.xsz9:Try.prog.szT 9=some 1:=by kernel_rfl
@[go_sem] theorem Try.xag9:Try.prog.aggT 9=some false:=by kernel_rfl
@[go_sem] theorem Try.xzk23:zeroOk [Value.int IntKind.i64 0,Value.int IntKind.i64 0]=true:=by kernel_rfl
@[go_sem] theorem Try.xsz24:Try.prog.szT 24=some 2:=by kernel_rfl
@[go_sem] theorem Try.xag24:Try.prog.aggT 24=some true:=by kernel_rfl
@[go_sem] theorem Try.xpl24:Try.prog.plT 24=some [(0,1),(1,1)]:=by kernel_rfl
@[go_sem] theorem Try.xze24:Try.prog.zeroT 24=some [Value.int IntKind.i64 0,Value.int IntKind.i64 0]:=by kernel_rfl
@[go_sem] theorem Try.xfl24_0:Try.prog.fldT 24 0=some (0,2):=by kernel_rfl
@[go_sem] theorem Try.xfl24_1:Try.prog.fldT 24 1=some (1,2):=by kernel_rfl
@[go_sem] theorem Try.xzk25:zeroOk [Value.int IntKind.i64 0,Value.string ⟨#[]⟩,Value.int IntKind.i64 0,Value.int IntKind.i64 0,Value.int IntKind.i64 0,Value.int IntKind.i64 0,Value.bool false]=true:=by kernel_rfl
@[go_sem] theorem Try.xsz26:Try.prog.szT 26=some 7:=by kernel_rfl
@[go_sem] theorem Try.xag26:Try.prog.aggT 26=some true:=by kernel_rfl
@[go_sem] theorem Try.xpl26:Try.prog.plT 26=some [(0,1),(1,1),(2,2),(4,2),(6,1)]:=by kernel_rfl
@[go_sem] theorem Try.xze26:Try.prog.zeroT 26=some [Value.int IntKind.i64 0,Value.string ⟨#[]⟩,Value.int IntKind.i64 0,Value.int IntKind.i64 0,Value.int IntKind.i64 0,Value.int IntKind.i64 0,Value.bool false]:=by kernel_rfl
@[go_sem] theorem Try.xfl26_0:Try.prog.fldT 26 0=some (0,3):=by kernel_rfl
@[go_sem] theorem Try.xfl26_1:Try.prog.fldT 26 1=some (1,9):=by kernel_rfl
@[go_sem] theorem Try.xfl26_2:Try.prog.fldT 26 2=some (2,24):=by kernel_rfl
@[go_sem] theorem Try.xfl26_3:Try.prog.fldT 26 3=some (4,24):=by kernel_rfl
@[go_sem] theorem Try.xfl26_4:Try.prog.fldT 26 4=some (6,4):=by kernel_rfl
@[go_sem] theorem Try.xsz27:Try.prog.szT 27=some 1:=by kernel_rfl
@[go_sem] theorem Try.xag27:Try.prog.aggT 27=some false:=by kernel_rfl
@[go_sem] theorem Try.xel27:Try.prog.elemT 27=some 3:=by kernel_rfl
@[go_sem] theorem Try.xzk27:zeroOk [Value.slice none 0 0]=true:=by kernel_rfl
@[go_sem] theorem Try.xzk28:zeroOk [Value.int IntKind.i64 0,Value.int IntKind.i64 0,Value.int IntKind.i64 0,Value.string ⟨#[]⟩,Value.int IntKind.i64 0,Value.int IntKind.i64 0,Value.int IntKind.i64 0,Value.int IntKind.i64 0,Value.bool false,Value.int IntKind.i64 0,Value.string ⟨#[]⟩,Value.int IntKind.i64 0,Value.int IntKind.i64 0,Value.int IntKind.i64 0,Value.int IntKind.i64 0,Value.bool false,Value.int IntKind.i64 0,Value.int IntKind.i64 0,Value.int IntKind.i64 0,Value.string ⟨#[]⟩,Value.int IntKind.i64 0,Value.slice none 0 0]=true:=by kernel_rfl
@[go_sem] theorem Try.xsz29:Try.prog.szT 29=some 22:=by kernel_rfl
@[go_sem] theorem Try.xag29:Try.prog.aggT 29=some true:=by kernel_rfl
@[go_sem] theorem Try.xpl29:Try.prog.plT 29=some [(0,1),(1,1),(2,7),(9,7),(16,1),(17,1),(18,1),(19,1),(20,1),(21,1)]:=by kernel_rfl
@[go_sem] theorem Try.xze29:Try.prog.zeroT 29=some [Value.int IntKind.i64 0,Value.int IntKind.i64 0,Value.int IntKind.i64 0,Value.string ⟨#[]⟩,Value.int IntKind.i64 0,Value.int IntKind.i64 0,Value.int IntKind.i64 0,Value.int IntKind.i64 0,Value.bool false,Value.int IntKind.i64 0,Value.string ⟨#[]⟩,Value.int IntKind.i64 0,Value.int IntKind.i64 0,Value.int IntKind.i64 0,Value.int IntKind.i64 0,Value.bool false,Value.int IntKind.i64 0,Value.int IntKind.i64 0,Value.int IntKind.i64 0,Value.string ⟨#[]⟩,Value.int IntKind.i64 0,Value.slice none 0 0]:=by kernel_rfl
@[go_sem] theorem Try.xfl29_0:Try.prog.fldT 29 0=some (0,2):=by kernel_rfl
@[go_sem] theorem Try.xfl29_1:Try.prog.fldT 29 1=some (1,3):=by kernel_rfl
@[go_sem] theorem Try.xfl29_2:Try.prog.fldT 29 2=some (2,26):=by kernel_rfl
@[go_sem] theorem Try.xfl29_3:Try.prog.fldT 29 3=some (9,26):=by kernel_rfl
@[go_sem] theorem Try.xfl29_4:Try.prog.fldT 29 4=some (16,2):=by kernel_rfl
@[go_sem] theorem Try.xfl29_5:Try.prog.fldT 29 5=some (17,2):=by kernel_rfl
@[go_sem] theorem Try.xfl29_6:Try.prog.fldT 29 6=some (18,3):=by kernel_rfl
@[go_sem] theorem Try.xfl29_7:Try.prog.fldT 29 7=some (19,9):=by kernel_rfl
@[go_sem] theorem Try.xfl29_8:Try.prog.fldT 29 8=some (20,3):=by kernel_rfl
@[go_sem] theorem Try.xfl29_9:Try.prog.fldT 29 9=some (21,27):=by kernel_rfl
@[go_sem] theorem Try.xsz30:Try.prog.szT 30=some 1:=by kernel_rfl
@[go_sem] theorem Try.xag30:Try.prog.aggT 30=some false:=by kernel_rfl
@[go_sem] theorem Try.xel30:Try.prog.elemT 30=some 32:=by kernel_rfl
@[go_sem] theorem Try.xzk31:zeroOk [Value.int IntKind.i64 0,Value.string ⟨#[]⟩,Value.int IntKind.i64 0,Value.int IntKind.i64 0,Value.int IntKind.i64 0,Value.int IntKind.i64 0,Value.string ⟨#[]⟩,Value.slice none 0 0]=true:=by kernel_rfl
@[go_sem] theorem Try.xsz32:Try.prog.szT 32=some 8:=by kernel_rfl
@[go_sem] theorem Try.xag32:Try.prog.aggT 32=some true:=by kernel_rfl
@[go_sem] theorem Try.xby32:Try.prog.bytesT 32=some 96:=by kernel_rfl
@[go_sem] theorem Try.xpl32:Try.prog.plT 32=some [(0,1),(1,1),(2,1),(3,1),(4,1),(5,1),(6,1),(7,1)]:=by kernel_rfl
@[go_sem] theorem Try.xze32:Try.prog.zeroT 32=some [Value.int IntKind.i64 0,Value.string ⟨#[]⟩,Value.int IntKind.i64 0,Value.int IntKind.i64 0,Value.int IntKind.i64 0,Value.int IntKind.i64 0,Value.string ⟨#[]⟩,Value.slice none 0 0]:=by kernel_rfl
@[go_sem] theorem Try.xfl32_0:Try.prog.fldT 32 0=some (0,3):=by kernel_rfl
@[go_sem] theorem Try.xfl32_1:Try.prog.fldT 32 1=some (1,9):=by kernel_rfl
@[go_sem] theorem Try.xfl32_2:Try.prog.fldT 32 2=some (2,2):=by kernel_rfl
@[go_sem] theorem Try.xfl32_3:Try.prog.fldT 32 3=some (3,2):=by kernel_rfl
@[go_sem] theorem Try.xfl32_4:Try.prog.fldT 32 4=some (4,2):=by kernel_rfl
@[go_sem] theorem Try.xfl32_5:Try.prog.fldT 32 5=some (5,3):=by kernel_rfl
@[go_sem] theorem Try.xfl32_6:Try.prog.fldT 32 6=some (6,9):=by kernel_rfl
@[go_sem] theorem Try.xfl32_7:Try.prog.fldT 32 7=some (7,30):=by kernel_rfl
@[go_sem] theorem Try.xsz33:Try.prog.szT 33=some 1:=by kernel_rfl
@[go_sem] theorem Try.xag33:Try.prog.aggT 33=some false:=by kernel_rfl
@[go_sem] theorem Try.xze33:Try.prog.zeroT 33=some [Value.int IntKind.i64 0]:=by kernel_rfl
@[go_sem] theorem Try.xsz36:Try.prog.szT 36=some 1:=by kernel_rfl
@[go_sem] theorem Try.xag36:Try.prog.aggT 36=some false:=by kernel_rfl
@[go_sem] theorem Try.xel36:Try.prog.elemT 36=some 67:=by kernel_rfl
@[go_sem] theorem Try.xsz37:Try.prog.szT 37=some 1:=by kernel_rfl
@[go_sem] theorem Try.xag37:Try.prog.aggT 37=some false:=by kernel_rfl
@[go_sem] theorem Try.xel37:Try.prog.elemT 37=some 53:=by kernel_rfl
@[go_sem] theorem Try.xzk38:zeroOk [Value.slice none 0 0,Value.slice none 0 0]=true:=by kernel_rfl
@[go_sem] theorem Try.xsz39:Try.prog.szT 39=some 2:=by kernel_rfl
@[go_sem] theorem Try.xag39:Try.prog.aggT 39=some true:=by kernel_rfl
@[go_sem] theorem Try.xpl39:Try.prog.plT 39=some [(0,1),(1,1)]:=by kernel_rfl
@[go_sem] theorem Try.xze39:Try.prog.zeroT 39=some [Value.slice none 0 0,Value.slice none 0 0]:=by kernel_rfl
@[go_sem] theorem Try.xfl39_0:Try.prog.fldT 39 0=some (0,36):=by kernel_rfl
@[go_sem] theorem Try.xfl39_1:Try.prog.fldT 39 1=some (1,37):=by kernel_rfl
@[go_sem] theorem Try.xsz41:Try.prog.szT 41=some 1:=by kernel_rfl
@[go_sem] theorem Try.xag41:Try.prog.aggT 41=some false:=by kernel_rfl
@[go_sem] theorem Try.xel41:Try.prog.elemT 41=some 29:=by kernel_rfl
@[go_sem] theorem Try.xsz42:Try.prog.szT 42=some 1:=by kernel_rfl
@[go_sem] theorem Try.xag42:Try.prog.aggT 42=some false:=by kernel_rfl
@[go_sem] theorem Try.xel42:Try.prog.elemT 42=some 29:=by kernel_rfl
@[go_sem] theorem Try.xby42:Try.prog.bytesT 42=some 24:=by kernel_rfl
@[go_sem] theorem Try.xze42:Try.prog.zeroT 42=some [Value.slice none 0 0]:=by kernel_rfl
@[go_sem] theorem Try.xsz50:Try.prog.szT 50=some 1:=by kernel_rfl
@[go_sem] theorem Try.xag50:Try.prog.aggT 50=some false:=by kernel_rfl
@[go_sem] theorem Try.xel50:Try.prog.elemT 50=some 42:=by kernel_rfl
@[go_sem] theorem Try.xze50:Try.prog.zeroT 50=some [Value.slice none 0 0]:=by kernel_rfl
@[go_sem] theorem Try.xsz51:Try.prog.szT 51=some 1:=by kernel_rfl
@[go_sem] theorem Try.xag51:Try.prog.aggT 51=some false:=by kernel_rfl
@[go_sem] theorem Try.xel51:Try.prog.elemT 51=some 128:=by kernel_rfl
@[go_sem] theorem Try.xzk52:zeroOk [Value.string ⟨#[]⟩,Value.int IntKind.i64 0,Value.int IntKind.i64 0,Value.int IntKind.i64 0,Value.int IntKind.i64 0,Value.slice none 0 0,Value.slice none 0 0,Value.slice none 0 0,Value.int IntKind.i64 0]=true:=by kernel_rfl
@[go_sem] theorem Try.xsz53:Try.prog.szT 53=some 9:=by kernel_rfl
@[go_sem] theorem Try.xag53:Try.prog.aggT 53=some true:=by kernel_rfl
@[go_sem] theorem Try.xpl53:Try.prog.plT 53=some [(0,1),(1,2),(3,1),(4,1),(5,1),(6,1),(7,1),(8,1)]:=by kernel_rfl
@[go_sem] theorem Try.xze53:Try.prog.zeroT 53=some [Value.string ⟨#[]⟩,Value.int IntKind.i64 0,Value.int IntKind.i64 0,Value.int IntKind.i64 0,Value.int IntKind.i64 0,Value.slice none 0 0,Value.slice none 0 0,Value.slice none 0 0,Value.int IntKind.i64 0]:=by kernel_rfl
@[go_sem] theorem Try.xfl53_0:Try.prog.fldT 53 0=some (0,9):=by kernel_rfl
@[go_sem] theorem Try.xfl53_1:Try.prog.fldT 53 1=some (1,24):=by kernel_rfl
@[go_sem] theorem Try.xfl53_2:Try.prog.fldT 53 2=some (3,3):=by kernel_rfl
@[go_sem] theorem Try.xfl53_3:Try.prog.fldT 53 3=some (4,3):=by kernel_rfl
@[go_sem] theorem Try.xfl53_4:Try.prog.fldT 53 4=some (5,50):=by kernel_rfl
@[go_sem] theorem Try.xfl53_5:Try.prog.fldT 53 5=some (6,50):=by kernel_rfl
@[go_sem] theorem Try.xfl53_6:Try.prog.fldT 53 6=some (7,51):=by kernel_rfl
@[go_sem] theorem Try.xfl53_7:Try.prog.fldT 53 7=some (8,3):=by kernel_rfl
@[go_sem] theorem Try.xsz56:Try.prog.szT 56=some 1:=by kernel_rfl
@[go_sem] theorem Try.xag56:Try.prog.aggT 56=some false:=by kernel_rfl
@[go_sem] theorem Try.xzk56:zeroOk [Value.map none]=true:=by kernel_rfl
@[go_sem] theorem Try.xmt56:Try.prog.mapT 56=some (9,2):=by kernel_rfl
@[go_sem] theorem Try.xz12:Try.prog.zero1 2=some (Value.int IntKind.i64 0):=by kernel_rfl
@[go_sem] theorem Try.xsz57:Try.prog.szT 57=some 1:=by kernel_rfl
@[go_sem] theorem Try.xag57:Try.prog.aggT 57=some false:=by kernel_rfl
@[go_sem] theorem Try.xmt57:Try.prog.mapT 57=some (9,75):=by kernel_rfl
@[go_sem] theorem Try.xz175:Try.prog.zero1 75=some (Value.slice none 0 0):=by kernel_rfl
@[go_sem] theorem Try.xzk58:zeroOk [Value.map none,Value.map none]=true:=by kernel_rfl
@[go_sem] theorem Try.xsz59:Try.prog.szT 59=some 2:=by kernel_rfl
@[go_sem] theorem Try.xag59:Try.prog.aggT 59=some true:=by kernel_rfl
@[go_sem] theorem Try.xpl59:Try.prog.plT 59=some [(0,1),(1,1)]:=by kernel_rfl
@[go_sem] theorem Try.xze59:Try.prog.zeroT 59=some [Value.map none,Value.map none]:=by kernel_rfl
@[go_sem] theorem Try.xfl59_0:Try.prog.fldT 59 0=some (0,56):=by kernel_rfl
@[go_sem] theorem Try.xfl59_1:Try.prog.fldT 59 1=some (1,57):=by kernel_rfl
def Try.z63:List Value:=[Value.int IntKind.i64 0,Value.int IntKind.i64 0,Value.int IntKind.i64 0,Value.int IntKind.i64 0,Value.bool false,Value.int IntKind.i64 0,Value.int IntKind.i64 0]++List.replicate 128 (Value.int IntKind.u8 0)
@[go_sem] theorem Try.zok63:zeroOk Try.z63=true:=by kernel_rfl
@[go_sem] theorem Try.zlen63:Try.z63.length=135:=by kernel_rfl
@[go_sem] theorem Try.xsz64:Try.prog.szT 64=some 135:=by kernel_rfl
@[go_sem] theorem Try.xpl64:Try.prog.plT 64=some [(0,1),(1,1),(2,2),(4,1),(5,1),(6,1),(7,64),(71,64)]:=by kernel_rfl
def Try.z64:List Value:=[Value.int IntKind.i64 0,Value.int IntKind.i64 0,Value.int IntKind.i64 0,Value.int IntKind.i64 0,Value.bool false,Value.int IntKind.i64 0,Value.int IntKind.i64 0]++List.replicate 128 (Value.int IntKind.u8 0)
@[go_sem] theorem Try.xze64:Try.prog.zeroT 64=some Try.z64:=by kernel_rfl
@[go_sem] theorem Try.zok64:zeroOk Try.z64=true:=by kernel_rfl
@[go_sem] theorem Try.zlen64:Try.z64.length=135:=by kernel_rfl
@[go_sem] theorem Try.xfl64_2:Try.prog.fldT 64 2=some (2,24):=by kernel_rfl
@[go_sem] theorem Try.xag65:Try.prog.aggT 65=some false:=by kernel_rfl
def Try.z66:List Value:=[Value.string ⟨#[]⟩,Value.int IntKind.u64 0,Value.int IntKind.i64 0,Value.int IntKind.i64 0,Value.int IntKind.i64 0,Value.int IntKind.i64 0,Value.bool false,Value.int IntKind.i64 0,Value.int IntKind.i64 0]++List.replicate 128 (Value.int IntKind.u8 0) ++ [Value.int IntKind.i64 0,Value.int IntKind.i64 0,Value.int IntKind.i64 0,Value.slice none 0 0]
@[go_sem] theorem Try.zok66:zeroOk Try.z66=true:=by kernel_rfl
@[go_sem] theorem Try.zlen66:Try.z66.length=141:=by kernel_rfl
@[go_sem] theorem Try.xsz67:Try.prog.szT 67=some 141:=by kernel_rfl
@[go_sem] theorem Try.xag67:Try.prog.aggT 67=some true:=by kernel_rfl
@[go_sem] theorem Try.xpl67:Try.prog.plT 67=some [(0,1),(1,1),(2,135),(137,1),(138,1),(139,1),(140,1)]:=by kernel_rfl
def Try.z67:List Value:=[Value.string ⟨#[]⟩,Value.int IntKind.u64 0,Value.int IntKind.i64 0,Value.int IntKind.i64 0,Value.int IntKind.i64 0,Value.int IntKind.i64 0,Value.bool false,Value.int IntKind.i64 0,Value.int IntKind.i64 0]++List.replicate 128 (Value.int IntKind.u8 0) ++ [Value.int IntKind.i64 0,Value.int IntKind.i64 0,Value.int IntKind.i64 0,Value.slice none 0 0]
@[go_sem] theorem Try.xze67:Try.prog.zeroT 67=some Try.z67:=by kernel_rfl
@[go_sem] theorem Try.zok67:zeroOk Try.z67=true:=by kernel_rfl
@[go_sem] theorem Try.zlen67:Try.z67.length=141:=by kernel_rfl
@[go_sem] theorem Try.xfl67_0:Try.prog.fldT 67 0=some (0,9):=by kernel_rfl
@[go_sem] theorem Try.xfl67_2:Try.prog.fldT 67 2=some (2,64):=by kernel_rfl
@[go_sem] theorem Try.xfl67_3:Try.prog.fldT 67 3=some (137,2):=by kernel_rfl
@[go_sem] theorem Try.xfl67_4:Try.prog.fldT 67 4=some (138,3):=by kernel_rfl
@[go_sem] theorem Try.xfl67_5:Try.prog.fldT 67 5=some (139,2):=by kernel_rfl
@[go_sem] theorem Try.xfl67_6:Try.prog.fldT 67 6=some (140,51):=by kernel_rfl
@[go_sem] theorem Try.xel70:Try.prog.elemT 70=some 73:=by kernel_rfl
@[go_sem] theorem Try.xzk72:zeroOk [Value.string ⟨#[]⟩,Value.int IntKind.i64 0,Value.int IntKind.i64 0,Value.int IntKind.i64 0]=true:=by kernel_rfl
@[go_sem] theorem Try.xsz73:Try.prog.szT 73=some 4:=by kernel_rfl
@[go_sem] theorem Try.xag73:Try.prog.aggT 73=some true:=by kernel_rfl
@[go_sem] theorem Try.xby73:Try.prog.bytesT 73=some 40:=by kernel_rfl
@[go_sem] theorem Try.xpl73:Try.prog.plT 73=some [(0,1),(1,1),(2,1),(3,1)]:=by kernel_rfl
@[go_sem] theorem Try.xze73:Try.prog.zeroT 73=some [Value.string ⟨#[]⟩,Value.int IntKind.i64 0,Value.int IntKind.i64 0,Value.int IntKind.i64 0]:=by kernel_rfl
@[go_sem] theorem Try.xfl73_3:Try.prog.fldT 73 3=some (3,2):=by kernel_rfl
@[go_sem] theorem Try.xel75:Try.prog.elemT 75=some 79:=by kernel_rfl
@[go_sem] theorem Try.xsz76:Try.prog.szT 76=some 1:=by kernel_rfl
@[go_sem] theorem Try.xag76:Try.prog.aggT 76=some false:=by kernel_rfl
@[go_sem] theorem Try.xel76:Try.prog.elemT 76=some 2:=by kernel_rfl
@[go_sem] theorem Try.xsz77:Try.prog.szT 77=some 1:=by kernel_rfl
@[go_sem] theorem Try.xag77:Try.prog.aggT 77=some false:=by kernel_rfl
@[go_sem] theorem Try.xel77:Try.prog.elemT 77=some 86:=by kernel_rfl
@[go_sem] theorem Try.xzk78:zeroOk [Value.slice none 0 0,Value.slice none 0 0,Value.slice none 0 0]=true:=by kernel_rfl
@[go_sem] theorem Try.xsz79:Try.prog.szT 79=some 3:=by kernel_rfl
@[go_sem] theorem Try.xag79:Try.prog.aggT 79=some true:=by kernel_rfl
@[go_sem] theorem Try.xby79:Try.prog.bytesT 79=some 72:=by kernel_rfl
@[go_sem] theorem Try.xpl79:Try.prog.plT 79=some [(0,1),(1,1),(2,1)]:=by kernel_rfl
@[go_sem] theorem Try.xze79:Try.prog.zeroT 79=some [Value.slice none 0 0,Value.slice none 0 0,Value.slice none 0 0]:=by kernel_rfl
@[go_sem] theorem Try.xfl79_0:Try.prog.fldT 79 0=some (0,41):=by kernel_rfl
@[go_sem] theorem Try.xfl79_1:Try.prog.fldT 79 1=some (1,76):=by kernel_rfl
@[go_sem] theorem Try.xfl79_2:Try.prog.fldT 79 2=some (2,77):=by kernel_rfl
@[go_sem] theorem Try.xzk84:zeroOk [Value.int IntKind.i64 0,Value.string ⟨#[]⟩,Value.int IntKind.i64 0,Value.int IntKind.i64 0,Value.int IntKind.i64 0,Value.int IntKind.i64 0,Value.bool false,Value.int IntKind.i64 0,Value.int IntKind.i64 0,Value.int IntKind.i64 0]=true:=by kernel_rfl
@[go_sem] theorem Try.xsz85:Try.prog.szT 85=some 10:=by kernel_rfl
@[go_sem] theorem Try.xag85:Try.prog.aggT 85=some true:=by kernel_rfl
@[go_sem] theorem Try.xpl85:Try.prog.plT 85=some [(0,7),(7,1),(8,1),(9,1)]:=by kernel_rfl
@[go_sem] theorem Try.xze85:Try.prog.zeroT 85=some [Value.int IntKind.i64 0,Value.string ⟨#[]⟩,Value.int IntKind.i64 0,Value.int IntKind.i64 0,Value.int IntKind.i64 0,Value.int IntKind.i64 0,Value.bool false,Value.int IntKind.i64 0,Value.int IntKind.i64 0,Value.int IntKind.i64 0]:=by kernel_rfl
@[go_sem] theorem Try.xfl85_0:Try.prog.fldT 85 0=some (0,26):=by kernel_rfl
@[go_sem] theorem Try.xfl85_1:Try.prog.fldT 85 1=some (7,2):=by kernel_rfl
@[go_sem] theorem Try.xfl85_2:Try.prog.fldT 85 2=some (8,2):=by kernel_rfl
@[go_sem] theorem Try.xfl85_3:Try.prog.fldT 85 3=some (9,2):=by kernel_rfl
@[go_sem] theorem Try.xsz86:Try.prog.szT 86=some 20:=by kernel_rfl
@[go_sem] theorem Try.xag86:Try.prog.aggT 86=some true:=by kernel_rfl
@[go_sem] theorem Try.xby86:Try.prog.bytesT 86=some 176:=by kernel_rfl
@[go_sem] theorem Try.xpl86:Try.prog.plT 86=some [(0,10),(10,10)]:=by kernel_rfl
@[go_sem] theorem Try.xze86:Try.prog.zeroT 86=some [Value.int IntKind.i64 0,Value.string ⟨#[]⟩,Value.int IntKind.i64 0,Value.int IntKind.i64 0,Value.int IntKind.i64 0,Value.int IntKind.i64 0,Value.bool false,Value.int IntKind.i64 0,Value.int IntKind.i64 0,Value.int IntKind.i64 0,Value.int IntKind.i64 0,Value.string ⟨#[]⟩,Value.int IntKind.i64 0,Value.int IntKind.i64 0,Value.int IntKind.i64 0,Value.int IntKind.i64 0,Value.bool false,Value.int IntKind.i64 0,Value.int IntKind.i64 0,Value.int IntKind.i64 0]:=by kernel_rfl
@[go_sem] theorem Try.xzk86:zeroOk [Value.int IntKind.i64 0,Value.string ⟨#[]⟩,Value.int IntKind.i64 0,Value.int IntKind.i64 0,Value.int IntKind.i64 0,Value.int IntKind.i64 0,Value.bool false,Value.int IntKind.i64 0,Value.int IntKind.i64 0,Value.int IntKind.i64 0,Value.int IntKind.i64 0,Value.string ⟨#[]⟩,Value.int IntKind.i64 0,Value.int IntKind.i64 0,Value.int IntKind.i64 0,Value.int IntKind.i64 0,Value.bool false,Value.int IntKind.i64 0,Value.int IntKind.i64 0,Value.int IntKind.i64 0]=true:=by kernel_rfl
@[go_sem] theorem Try.xsz93:Try.prog.szT 93=some 1:=by kernel_rfl
@[go_sem] theorem Try.xag93:Try.prog.aggT 93=some false:=by kernel_rfl
@[go_sem] theorem Try.xmt93:Try.prog.mapT 93=some (9,67):=by kernel_rfl
@[go_sem] theorem Try.xz167:Try.prog.zero1 67=some (Value.agg #[Value.string ⟨#[]⟩,Value.int IntKind.u64 0,Value.int IntKind.i64 0,Value.int IntKind.i64 0,Value.int IntKind.i64 0,Value.int IntKind.i64 0,Value.bool false,Value.int IntKind.i64 0,Value.int IntKind.i64 0,Value.int IntKind.u8 0,Value.int IntKind.u8 0,Value.int IntKind.u8 0,Value.int IntKind.u8 0,Value.int IntKind.u8 0,Value.int IntKind.u8 0,Value.int IntKind.u8 0,Value.int IntKind.u8 0,Value.int IntKind.u8 0,Value.int IntKind.u8 0,Value.int IntKind.u8 0,Value.int IntKind.u8 0,Value.int IntKind.u8 0,Value.int IntKind.u8 0,Value.int IntKind.u8 0,Value.int IntKind.u8 0,Value.int IntKind.u8 0,Value.int IntKind.u8 0,Value.int IntKind.u8 0,Value.int IntKind.u8 0,Value.int IntKind.u8 0,Value.int IntKind.u8 0,Value.int IntKind.u8 0,Value.int IntKind.u8 0,Value.int IntKind.u8 0,Value.int IntKind.u8 0,Value.int IntKind.u8 0,Value.int IntKind.u8 0,Value.int IntKind.u8 0,Value.int IntKind.u8 0,Value.int IntKind.u8 0,Value.int IntKind.u8 0,Value.int IntKind.u8 0,Value.int IntKind.u8 0,Value.int IntKind.u8 0,Value.int IntKind.u8 0,Value.int IntKind.u8 0,Value.int IntKind.u8 0,Value.int IntKind.u8 0,Value.int IntKind.u8 0,Value.int IntKind.u8 0,Value.int IntKind.u8 0,Value.int IntKind.u8 0,Value.int IntKind.u8 0,Value.int IntKind.u8 0,Value.int IntKind.u8 0,Value.int IntKind.u8 0,Value.int IntKind.u8 0,Value.int IntKind.u8 0,Value.int IntKind.u8 0,Value.int IntKind.u8 0,Value.int IntKind.u8 0,Value.int IntKind.u8 0,Value.int IntKind.u8 0,Value.int IntKind.u8 0,Value.int IntKind.u8 0,Value.int IntKind.u8 0,Value.int IntKind.u8 0,Value.int IntKind.u8 0,Value.int IntKind.u8 0,Value.int IntKind.u8 0,Value.int IntKind.u8 0,Value.int IntKind.u8 0,Value.int IntKind.u8 0,Value.int IntKind.u8 0,Value.int IntKind.u8 0,Value.int IntKind.u8 0,Value.int IntKind.u8 0,Value.int IntKind.u8 0,Value.int IntKind.u8 0,Value.int IntKind.u8 0,Value.int IntKind.u8 0,Value.int IntKind.u8 0,Value.int IntKind.u8 0,Value.int IntKind.u8 0,Value.int IntKind.u8 0,Value.int IntKind.u8 0,Value.int IntKind.u8 0,Value.int IntKind.u8 0,Value.int IntKind.u8 0,Value.int IntKind.u8 0,Value.int IntKind.u8 0,Value.int IntKind.u8 0,Value.int IntKind.u8 0,Value.int IntKind.u8 0,Value.int IntKind.u8 0,Value.int IntKind.u8 0,Value.int IntKind.u8 0,Value.int IntKind.u8 0,Value.int IntKind.u8 0,Value.int IntKind.u8 0,Value.int IntKind.u8 0,Value.int IntKind.u8 0,Value.int IntKind.u8 0,Value.int IntKind.u8 0,Value.int IntKind.u8 0,Value.int IntKind.u8 0,Value.int IntKind.u8 0,Value.int IntKind.u8 0,Value.int IntKind.u8 0,Value.int IntKind.u8 0,Value.int IntKind.u8 0,Value.int IntKind.u8 0,Value.int IntKind.u8 0,Value.int IntKind.u8 0,Value.int IntKind.u8 0,Value.int IntKind.u8 0,Value.int IntKind.u8 0,Value.int IntKind.u8 0,Value.int IntKind.u8 0,Value.int IntKind.u8 0,Value.int IntKind.u8 0,Value.int IntKind.u8 0,Value.int IntKind.u8 0,Value.int IntKind.u8 0,Value.int IntKind.u8 0,Value.int IntKind.u8 0,Value.int IntKind.u8 0,Value.int IntKind.u8 0,Value.int IntKind.u8 0,Value.int IntKind.u8 0,Value.int IntKind.u8 0,Value.int IntKind.u8 0,Value.int IntKind.u8 0,Value.int IntKind.u8 0,Value.int IntKind.u8 0,Value.int IntKind.u8 0,Value.int IntKind.u8 0,Value.int IntKind.i64 0,Value.int IntKind.i64 0,Value.int IntKind.i64 0,Value.slice none 0 0]):=by kernel_rfl
@[go_sem] theorem Try.xsz94:Try.prog.szT 94=some 1:=by kernel_rfl
@[go_sem] theorem Try.xag94:Try.prog.aggT 94=some false:=by kernel_rfl
@[go_sem] theorem Try.xmt94:Try.prog.mapT 94=some (9,53):=by kernel_rfl
@[go_sem] theorem Try.xz153:Try.prog.zero1 53=some (Value.agg #[Value.string ⟨#[]⟩,Value.int IntKind.i64 0,Value.int IntKind.i64 0,Value.int IntKind.i64 0,Value.int IntKind.i64 0,Value.slice none 0 0,Value.slice none 0 0,Value.slice none 0 0,Value.int IntKind.i64 0]):=by kernel_rfl
@[go_sem] theorem Try.xsz96:Try.prog.szT 96=some 2:=by kernel_rfl
@[go_sem] theorem Try.xag96:Try.prog.aggT 96=some true:=by kernel_rfl
@[go_sem] theorem Try.xpl96:Try.prog.plT 96=some [(0,1),(1,1)]:=by kernel_rfl
@[go_sem] theorem Try.xze96:Try.prog.zeroT 96=some [Value.map none,Value.map none]:=by kernel_rfl
@[go_sem] theorem Try.xfl96_0:Try.prog.fldT 96 0=some (0,93):=by kernel_rfl
@[go_sem] theorem Try.xfl96_1:Try.prog.fldT 96 1=some (1,94):=by kernel_rfl
@[go_sem] theorem Try.xmt98:Try.prog.mapT 98=some (9,3):=by kernel_rfl
@[go_sem] theorem Try.xz13:Try.prog.zero1 3=some (Value.int IntKind.i64 0):=by kernel_rfl
@[go_sem] theorem Try.xpl119:Try.prog.plT 119=some [(0,7),(7,7)]:=by kernel_rfl
@[go_sem] theorem Try.xze119:Try.prog.zeroT 119=some [Value.int IntKind.i64 0,Value.string ⟨#[]⟩,Value.int IntKind.i64 0,Value.int IntKind.i64 0,Value.int IntKind.i64 0,Value.int IntKind.i64 0,Value.bool false,Value.int IntKind.i64 0,Value.string ⟨#[]⟩,Value.int IntKind.i64 0,Value.int IntKind.i64 0,Value.int IntKind.i64 0,Value.int IntKind.i64 0,Value.bool false]:=by kernel_rfl
@[go_sem] theorem Try.xzk119:zeroOk [Value.int IntKind.i64 0,Value.string ⟨#[]⟩,Value.int IntKind.i64 0,Value.int IntKind.i64 0,Value.int IntKind.i64 0,Value.int IntKind.i64 0,Value.bool false,Value.int IntKind.i64 0,Value.string ⟨#[]⟩,Value.int IntKind.i64 0,Value.int IntKind.i64 0,Value.int IntKind.i64 0,Value.int IntKind.i64 0,Value.bool false]=true:=by kernel_rfl
@[go_sem] theorem Try.xsz122:Try.prog.szT 122=some 1:=by kernel_rfl
@[go_sem] theorem Try.xag122:Try.prog.aggT 122=some false:=by kernel_rfl
@[go_sem] theorem Try.xel122:Try.prog.elemT 122=some 9:=by kernel_rfl
@[go_sem] theorem Try.xzk127:zeroOk [Value.int IntKind.i64 0,Value.int IntKind.i64 0,Value.slice none 0 0]=true:=by kernel_rfl
@[go_sem] theorem Try.xsz128:Try.prog.szT 128=some 3:=by kernel_rfl
@[go_sem] theorem Try.xag128:Try.prog.aggT 128=some true:=by kernel_rfl
@[go_sem] theorem Try.xze128:Try.prog.zeroT 128=some [Value.int IntKind.i64 0,Value.int IntKind.i64 0,Value.slice none 0 0]:=by kernel_rfl
@[go_sem] theorem Try.xfl128_0:Try.prog.fldT 128 0=some (0,2):=by kernel_rfl
@[go_sem] theorem Try.xfl128_1:Try.prog.fldT 128 1=some (1,2):=by kernel_rfl
@[go_sem] theorem Try.xfl128_2:Try.prog.fldT 128 2=some (2,122):=by kernel_rfl
@[go_sem] theorem Try.xsz131:Try.prog.szT 131=some 1:=by kernel_rfl
@[go_sem] theorem Try.xag131:Try.prog.aggT 131=some false:=by kernel_rfl
@[go_sem] theorem Try.xze131:Try.prog.zeroT 131=some [Value.map none]:=by kernel_rfl
@[go_sem] theorem Try.xmt131:Try.prog.mapT 131=some (9,4):=by kernel_rfl
@[go_sem] theorem Try.xel138:Try.prog.elemT 138=some 50:=by kernel_rfl
attribute [go_sem] Try.underlying0 Try.underlying1 Try.underlying2 Try.underlying3 Try.underlying4 Try.underlying5 Try.underlying6 Try.underlying7 Try.underlying8 Try.underlying9 Try.underlying10 Try.underlying11 Try.underlying12 Try.underlying13 Try.underlying14 Try.underlying15 Try.underlying16 Try.underlying17 Try.underlying18 Try.underlying19 Try.underlying20 Try.underlying21 Try.underlying22 Try.underlying23 Try.underlying24 Try.underlying25 Try.underlying26 Try.underlying27 Try.underlying28 Try.underlying29 Try.underlying30 Try.underlying31 Try.underlying32 Try.underlying33 Try.underlying34 Try.underlying35 Try.underlying36 Try.underlying37 Try.underlying38 Try.underlying39 Try.underlying40 Try.underlying41 Try.underlying42 Try.underlying43 Try.underlying44 Try.underlying45 Try.underlying46 Try.underlying47 Try.underlying48 Try.underlying49 Try.underlying50 Try.underlying51 Try.underlying52 Try.underlying53 Try.underlying54 Try.underlying55 Try.underlying56 Try.underlying57 Try.underlying58 Try.underlying59 Try.underlying60 Try.underlying61 Try.underlying62 Try.underlying63 Try.underlying64 Try.underlying65 Try.underlying66 Try.underlying67 Try.underlying68 Try.underlying69 Try.underlying70 Try.underlying71 Try.underlying72 Try.underlying73 Try.underlying74 Try.underlying75 Try.underlying76 Try.underlying77 Try.underlying78 Try.underlying79 Try.underlying80 Try.underlying81 Try.underlying82 Try.underlying83 Try.underlying84 Try.underlying85 Try.underlying86 Try.underlying87 Try.underlying88 Try.underlying89 Try.underlying90 Try.underlying91 Try.underlying92 Try.underlying93 Try.underlying94 Try.underlying95 Try.underlying96 Try.underlying97 Try.underlying98 Try.underlying99 Try.underlying100 Try.underlying101 Try.underlying102 Try.underlying103 Try.underlying104 Try.underlying105 Try.underlying106 Try.underlying107 Try.underlying108 Try.underlying109 Try.underlying110 Try.underlying111 Try.underlying112 Try.underlying113 Try.underlying114 Try.underlying115 Try.underlying116 Try.underlying117 Try.underlying118 Try.underlying119 Try.underlying120 Try.underlying121 Try.underlying122 Try.underlying123 Try.underlying124 Try.underlying125 Try.underlying126 Try.underlying127 Try.underlying128 Try.underlying129 Try.underlying130 Try.underlying131 Try.underlying132 Try.underlying133 Try.underlying134 Try.underlying135 Try.underlying136 Try.underlying137 Try.underlying138 Try.underlying139 Try.underlying140 Try.underlying141 Try.underlying142 Try.underlying143 Try.underlying144 Try.underlying145 Try.underlying146 Try.underlying147 Try.underlying148 Try.underlying149 Try.underlying150 Try.underlying151 Try.underlying152 Try.underlying153 Try.underlying154 Try.underlying155 Try.underlying156 Try.underlying157 Try.underlying158 Try.underlying159 Try.underlying160 Try.underlying161 Try.underlying162 Try.underlying163 Try.underlying164 Try.underlying165 Try.underlying166 Try.underlying167 Try.underlying168 Try.underlying169 Try.underlying170 Try.underlying171 Try.underlying172 Try.underlying173 Try.underlying174 Try.underlying175 Try.underlying176 Try.underlying177 Try.underlying178 Try.underlying179 Try.underlying180 Try.underlying181 Try.underlying182 Try.underlying183 Try.underlying184
theorem Try.xen4:Try.prog.enters 4=true:=by kernel_rfl
@[go_sem] theorem Try.xio5:Try.prog.ioF 5=false:=by kernel_rfl
theorem Try.xen5:Try.prog.enters 5=true:=by kernel_rfl
@[go_sem] theorem Try.xio6:Try.prog.ioF 6=false:=by kernel_rfl
theorem Try.xen6:Try.prog.enters 6=true:=by kernel_rfl
@[go_sem] theorem Try.xio7:Try.prog.ioF 7=false:=by kernel_rfl
theorem Try.xen7:Try.prog.enters 7=true:=by kernel_rfl
@[go_sem] theorem Try.xio8:Try.prog.ioF 8=false:=by kernel_rfl
theorem Try.xen8:Try.prog.enters 8=true:=by kernel_rfl
@[go_sem] theorem Try.xio9:Try.prog.ioF 9=false:=by kernel_rfl
theorem Try.xen9:Try.prog.enters 9=true:=by kernel_rfl
@[go_sem] theorem Try.xio10:Try.prog.ioF 10=false:=by kernel_rfl
theorem Try.xen10:Try.prog.enters 10=true:=by kernel_rfl
@[go_sem] theorem Try.xio11:Try.prog.ioF 11=false:=by kernel_rfl
theorem Try.xen11:Try.prog.enters 11=true:=by kernel_rfl
theorem Try.xen12:Try.prog.enters 12=true:=by kernel_rfl
@[go_sem] theorem Try.xio13:Try.prog.ioF 13=false:=by kernel_rfl
theorem Try.xen13:Try.prog.enters 13=true:=by kernel_rfl
@[go_sem] theorem Try.xio14:Try.prog.ioF 14=true:=by kernel_rfl
theorem Try.xen14:Try.prog.enters 14=true:=by kernel_rfl
@[go_sem] theorem Try.xio15:Try.prog.ioF 15=false:=by kernel_rfl
theorem Try.xen15:Try.prog.enters 15=true:=by kernel_rfl
theorem Try.xen16:Try.prog.enters 16=true:=by kernel_rfl
@[go_sem] theorem Try.xio17:Try.prog.ioF 17=false:=by kernel_rfl
theorem Try.xen17:Try.prog.enters 17=true:=by kernel_rfl
@[go_sem] theorem Try.xio18:Try.prog.ioF 18=false:=by kernel_rfl
theorem Try.xen18:Try.prog.enters 18=true:=by kernel_rfl
@[go_sem] theorem Try.xio19:Try.prog.ioF 19=false:=by kernel_rfl
theorem Try.xen19:Try.prog.enters 19=true:=by kernel_rfl
@[go_sem] theorem Try.xio20:Try.prog.ioF 20=false:=by kernel_rfl
theorem Try.xen20:Try.prog.enters 20=true:=by kernel_rfl
@[go_sem] theorem Try.xio21:Try.prog.ioF 21=false:=by kernel_rfl
theorem Try.xen21:Try.prog.enters 21=true:=by kernel_rfl
@[go_sem] theorem Try.xio22:Try.prog.ioF 22=false:=by kernel_rfl
theorem Try.xen22:Try.prog.enters 22=true:=by kernel_rfl
@[go_sem] theorem Try.xio23:Try.prog.ioF 23=false:=by kernel_rfl
theorem Try.xen23:Try.prog.enters 23=true:=by kernel_rfl
theorem Try.xen24:Try.prog.enters 24=true:=by kernel_rfl
@[go_sem] theorem Try.xio25:Try.prog.ioF 25=false:=by kernel_rfl
theorem Try.xen25:Try.prog.enters 25=true:=by kernel_rfl
@[go_sem] theorem Try.xio26:Try.prog.ioF 26=false:=by kernel_rfl
theorem Try.xen26:Try.prog.enters 26=true:=by kernel_rfl
@[go_sem] theorem Try.xio27:Try.prog.ioF 27=true:=by kernel_rfl
theorem Try.xen27:Try.prog.enters 27=true:=by kernel_rfl
@[go_sem] theorem Try.xio28:Try.prog.ioF 28=false:=by kernel_rfl
theorem Try.xen28:Try.prog.enters 28=true:=by kernel_rfl
@[go_sem] theorem Try.xio29:Try.prog.ioF 29=false:=by kernel_rfl
theorem Try.xen29:Try.prog.enters 29=true:=by kernel_rfl
theorem Try.xen30:Try.prog.enters 30=true:=by kernel_rfl
@[go_sem] theorem Try.xio31:Try.prog.ioF 31=false:=by kernel_rfl
theorem Try.xen31:Try.prog.enters 31=true:=by kernel_rfl
@[go_sem] theorem Try.xio32:Try.prog.ioF 32=false:=by kernel_rfl
theorem Try.xen32:Try.prog.enters 32=true:=by kernel_rfl
theorem Try.xen33:Try.prog.enters 33=true:=by kernel_rfl
@[go_sem] theorem Try.xio34:Try.prog.ioF 34=false:=by kernel_rfl
theorem Try.xen34:Try.prog.enters 34=true:=by kernel_rfl
theorem Try.xen35:Try.prog.enters 35=true:=by kernel_rfl
@[go_sem] theorem Try.xio36:Try.prog.ioF 36=true:=by kernel_rfl
theorem Try.xen36:Try.prog.enters 36=true:=by kernel_rfl
@[go_sem] theorem Try.xio37:Try.prog.ioF 37=false:=by kernel_rfl
theorem Try.xen37:Try.prog.enters 37=true:=by kernel_rfl
@[go_sem] theorem Try.xio38:Try.prog.ioF 38=false:=by kernel_rfl
theorem Try.xen38:Try.prog.enters 38=true:=by kernel_rfl
@[go_sem] theorem Try.xio39:Try.prog.ioF 39=false:=by kernel_rfl
theorem Try.xen39:Try.prog.enters 39=true:=by kernel_rfl
@[go_sem] theorem Try.xio40:Try.prog.ioF 40=false:=by kernel_rfl
theorem Try.xen40:Try.prog.enters 40=true:=by kernel_rfl
@[go_sem] theorem Try.xio41:Try.prog.ioF 41=false:=by kernel_rfl
theorem Try.xen41:Try.prog.enters 41=true:=by kernel_rfl
@[go_sem] theorem Try.xio42:Try.prog.ioF 42=false:=by kernel_rfl
theorem Try.xen42:Try.prog.enters 42=true:=by kernel_rfl
@[go_sem] theorem Try.xio43:Try.prog.ioF 43=false:=by kernel_rfl
theorem Try.xen43:Try.prog.enters 43=true:=by kernel_rfl
@[go_sem] theorem Try.xio44:Try.prog.ioF 44=false:=by kernel_rfl
theorem Try.xen44:Try.prog.enters 44=true:=by kernel_rfl
@[go_sem] theorem Try.xio45:Try.prog.ioF 45=false:=by kernel_rfl
theorem Try.xen45:Try.prog.enters 45=true:=by kernel_rfl
@[go_sem] theorem Try.xio46:Try.prog.ioF 46=false:=by kernel_rfl
theorem Try.xen46:Try.prog.enters 46=true:=by kernel_rfl
@[go_sem] theorem Try.xio47:Try.prog.ioF 47=false:=by kernel_rfl
theorem Try.xen47:Try.prog.enters 47=true:=by kernel_rfl
@[go_sem] theorem Try.xio48:Try.prog.ioF 48=false:=by kernel_rfl
theorem Try.xen48:Try.prog.enters 48=true:=by kernel_rfl
@[go_sem] theorem Try.xio49:Try.prog.ioF 49=false:=by kernel_rfl
theorem Try.xen49:Try.prog.enters 49=true:=by kernel_rfl
@[go_sem] theorem Try.xio50:Try.prog.ioF 50=false:=by kernel_rfl
theorem Try.xen50:Try.prog.enters 50=true:=by kernel_rfl
@[go_sem] theorem Try.xio51:Try.prog.ioF 51=false:=by kernel_rfl
theorem Try.xen51:Try.prog.enters 51=true:=by kernel_rfl
@[go_sem] theorem Try.xio52:Try.prog.ioF 52=false:=by kernel_rfl
theorem Try.xen52:Try.prog.enters 52=true:=by kernel_rfl
@[go_sem] theorem Try.xio53:Try.prog.ioF 53=false:=by kernel_rfl
theorem Try.xen53:Try.prog.enters 53=true:=by kernel_rfl
theorem Try.xen54:Try.prog.enters 54=true:=by kernel_rfl
theorem Try.xen55:Try.prog.enters 55=true:=by kernel_rfl
@[go_sem] theorem Try.xio56:Try.prog.ioF 56=false:=by kernel_rfl
theorem Try.xen56:Try.prog.enters 56=true:=by kernel_rfl
@[go_sem] theorem Try.xio57:Try.prog.ioF 57=true:=by kernel_rfl
theorem Try.xen57:Try.prog.enters 57=true:=by kernel_rfl
@[go_sem] theorem Try.xio58:Try.prog.ioF 58=false:=by kernel_rfl
theorem Try.xen58:Try.prog.enters 58=true:=by kernel_rfl
@[go_sem] theorem Try.xio59:Try.prog.ioF 59=false:=by kernel_rfl
theorem Try.xen59:Try.prog.enters 59=true:=by kernel_rfl
@[go_sem] theorem Try.xio60:Try.prog.ioF 60=false:=by kernel_rfl
theorem Try.xen60:Try.prog.enters 60=true:=by kernel_rfl
@[go_sem] theorem Try.xio61:Try.prog.ioF 61=false:=by kernel_rfl
theorem Try.xen61:Try.prog.enters 61=true:=by kernel_rfl
@[go_sem] theorem Try.xio62:Try.prog.ioF 62=false:=by kernel_rfl
theorem Try.xen62:Try.prog.enters 62=true:=by kernel_rfl
@[go_sem] theorem Try.xio63:Try.prog.ioF 63=false:=by kernel_rfl
theorem Try.xen63:Try.prog.enters 63=true:=by kernel_rfl
@[go_sem] theorem Try.xio64:Try.prog.ioF 64=false:=by kernel_rfl
theorem Try.xen64:Try.prog.enters 64=true:=by kernel_rfl
theorem Try.xen65:Try.prog.enters 65=true:=by kernel_rfl
@[go_sem] theorem Try.xio66:Try.prog.ioF 66=false:=by kernel_rfl
theorem Try.xen66:Try.prog.enters 66=true:=by kernel_rfl
@[go_sem] theorem Try.xio67:Try.prog.ioF 67=false:=by kernel_rfl
theorem Try.xen67:Try.prog.enters 67=true:=by kernel_rfl
@[go_sem] theorem Try.xio68:Try.prog.ioF 68=true:=by kernel_rfl
theorem Try.xen68:Try.prog.enters 68=true:=by kernel_rfl
@[go_sem] theorem Try.xio69:Try.prog.ioF 69=false:=by kernel_rfl
theorem Try.xen69:Try.prog.enters 69=true:=by kernel_rfl
@[go_sem] theorem Try.xio70:Try.prog.ioF 70=false:=by kernel_rfl
theorem Try.xen70:Try.prog.enters 70=true:=by kernel_rfl
@[go_sem] theorem Try.xio71:Try.prog.ioF 71=false:=by kernel_rfl
theorem Try.xen71:Try.prog.enters 71=true:=by kernel_rfl
@[go_sem] theorem Try.xio72:Try.prog.ioF 72=true:=by kernel_rfl
theorem Try.xen72:Try.prog.enters 72=true:=by kernel_rfl
@[go_sem] theorem Try.xio76:Try.prog.ioF 76=false:=by kernel_rfl
theorem Try.xen76:Try.prog.enters 76=true:=by kernel_rfl
@[go_sem] theorem Try.xio77:Try.prog.ioF 77=false:=by kernel_rfl
theorem Try.xen77:Try.prog.enters 77=true:=by kernel_rfl
end Go.Proofs.Ytmbmmijdmdoalaa
