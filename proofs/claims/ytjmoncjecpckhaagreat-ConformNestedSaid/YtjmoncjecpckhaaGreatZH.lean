/- Proved here: Sources, clips, tracks and expressions as plain data, and how they lie in cells, for use in the proofs of the given statements; conditions stand in each theorem. -/
import Derived.Test.YtjmoncjecpckhaaGreatZG
import Derived.Test.YtjmoncjecpckhaaGreatZC
import Derived.Test.YtjmoncjecpckhaaGreatProg
set_option linter.unusedSimpArgs false
set_option linter.unusedVariables false
set_option linter.unusedSectionVars false
set_option linter.unnecessarySimpa false
namespace Go.Proofs.YtjmoncjecpckhaaGreat
open Go.RowKit
set_option maxRecDepth 4000
theorem bxx:(∀ (p:Prop) [Decidable p],(decide p=true)=p)∧(∀ (p:Prop) [Decidable p],(decide p=false) ↔ ¬p)∧(∀ (α : Type) [BEq α] [LawfulBEq α] (a b : α),((a==b)=true) ↔ a=b)∧(∀ (α : Type) [BEq α] [LawfulBEq α] (a b : α),((a != b)=true) ↔ a≠b)∧(∀ (α : Sort 1) (a b : α),(a≠b) = ¬(a=b))∧(∀ (α : Type) [BEq α] [LawfulBEq α] (a b : α),((a==b)=false) ↔ a≠b)∧(∀ b:Bool,((!b)=true)=(b=false))∧(∀ b:Bool,(¬(b=true))=(b=false))∧(∀ b:Bool,((!b)=false)=(b=true))∧(∀ a b:Bool,((a||b)=true)=(a=true∨b=true))∧(∀ a b:Bool,((a&&b)=true)=(a=true∧b=true))∧(∀ a b:Bool,((a||b)=false)=(a=false∧b=false))∧(∀ a b:Bool,((a&&b)=false)=(a=false∨b=false))∧((false=true)=False)∧(∀ a b:Bool,((!a)=b)=(a = !b))∧((!true)=false)∧((!false)=true) :=
 ⟨fun _ _=>decide_eq_true_eq,fun _ _=>decide_eq_false_iff_not,fun _ _ _ _ _=>beq_iff_eq,fun _ _ _ _ _=>bne_iff_ne,fun _ _ _=>rfl,fun _ _ _ _ _=>beq_eq_false_iff_ne,by decide,by decide,by decide,by decide,by decide,by decide,by decide,by decide,by decide,rfl,rfl⟩
abbrev ti (n:Int):T := .lit (.int .i64 n)
abbrev tu (n:Int):T := .lit (.int .u64 n)
abbrev tstr (s:ByteArray):T := .lit (.string s)
abbrev tbl (b:Bool):T := .lit (.bool b)
abbrev vu64 (n:Int):V := .t (.lit (.int .u64 n))
def intC (n:Int):List T:=[ti n]
def strC (s:ByteArray):List T:=[tstr s]
@[go_sem] abbrev tints (l:List Int):T := .list 1 (intC 0) (l.map intC)
@[go_sem] abbrev tstrs (l:List ByteArray):T := .list 1 (strC ⟨#[]⟩) (l.map strC)
@[go_sem] theorem intC_t (n:Int):(intC n).map V.t = [vint n]:=rfl
@[go_sem] theorem strC_t (n:ByteArray):(strC n).map V.t = [vstr n]:=rfl
@[go_sem] theorem intC_l (n:Int):(intC n).length=1:=rfl
@[go_sem] theorem strC_l (n:ByteArray):(strC n).length=1:=rfl
structure RatR where
 num:Int
 den:Int
 deriving Inhabited
structure SourceR where
 kind:Int
 name:ByteArray
 pos:RatR
 speed:RatR
 smooth:Bool
 deriving Inhabited
structure ClipR where
 len:Int
 kind:Int
 a:SourceR
 b:SourceR
 off:Int
 total:Int
 param:Int
 text:ByteArray
 gain:Int
 chan:List Int
 deriving Inhabited
def RatR.c (r:RatR):List T:=[ti r.num,ti r.den]
def SourceR.c (s:SourceR):List T:=[ti s.kind,tstr s.name,ti s.pos.num,ti s.pos.den,ti s.speed.num,ti s.speed.den,tbl s.smooth]
def ClipR.c (c:ClipR):List T:=[ti c.len,ti c.kind,ti c.a.kind,tstr c.a.name,ti c.a.pos.num,ti c.a.pos.den,ti c.a.speed.num,ti c.a.speed.den,tbl c.a.smooth,
 ti c.b.kind,tstr c.b.name,ti c.b.pos.num,ti c.b.pos.den,ti c.b.speed.num,ti c.b.speed.den,tbl c.b.smooth,ti c.off,ti c.total,ti c.param,tstr c.text,ti c.gain,tints c.chan]
abbrev vrat (r:RatR):V := .agg [vint r.num,vint r.den]
abbrev vsource (s:SourceR):V := .agg [vint s.kind,vstr s.name,vint s.pos.num,vint s.pos.den,vint s.speed.num,vint s.speed.den,vbool s.smooth]
abbrev vclip (c:ClipR):V := .agg [vint c.len,vint c.kind,vint c.a.kind,vstr c.a.name,vint c.a.pos.num,vint c.a.pos.den,vint c.a.speed.num,vint c.a.speed.den,vbool c.a.smooth,
 vint c.b.kind,vstr c.b.name,vint c.b.pos.num,vint c.b.pos.den,vint c.b.speed.num,vint c.b.speed.den,vbool c.b.smooth,vint c.off,vint c.total,vint c.param,vstr c.text,vint c.gain, .t (tints c.chan)]
@[go_sem] theorem RatR.ct (r:RatR):(RatR.c r).map V.t = [vint r.num,vint r.den]:=rfl
@[go_sem] theorem SourceR.ct (s:SourceR):(SourceR.c s).map V.t = [vint s.kind,vstr s.name,vint s.pos.num,vint s.pos.den,vint s.speed.num,vint s.speed.den,vbool s.smooth]:=rfl
@[go_sem] theorem ClipR.ct (c:ClipR):(ClipR.c c).map V.t = [vint c.len,vint c.kind,vint c.a.kind,vstr c.a.name,vint c.a.pos.num,vint c.a.pos.den,vint c.a.speed.num,vint c.a.speed.den,vbool c.a.smooth,
 vint c.b.kind,vstr c.b.name,vint c.b.pos.num,vint c.b.pos.den,vint c.b.speed.num,vint c.b.speed.den,vbool c.b.smooth,vint c.off,vint c.total,vint c.param,vstr c.text,vint c.gain, .t (tints c.chan)]:=rfl
@[go_sem] theorem RatR.cl (r:RatR):(RatR.c r).length=2:=rfl
@[go_sem] theorem SourceR.cl (r:SourceR):(SourceR.c r).length=7:=rfl
@[go_sem] theorem ClipR.cl (r:ClipR):(ClipR.c r).length=22:=rfl
@[go_sem] abbrev tclips (l:List ClipR):T := .list 22 (ClipR.c default) (l.map ClipR.c)
theorem getD_of_lt {α : Type} [Inhabited α] {xs:List α} {k:Nat} (h:k<xs.length):xs.getD k default=xs[k]:=by simp [List.getD_eq_getElem?_getD,h]
theorem brW {B b:Bool} {A C:Prop} (h:B=b) (k:(b=true→A)∧(b=false→C)):(B=true→A)∧(B=false→C):=by rw [h];exact k
theorem nt {b:Bool} (h:(!b)=true):b=false:=by cases b<;>simp_all
theorem nf {b:Bool} (h:(!b)=false):b=true:=by cases b<;>simp_all
@[go_sem] theorem bne_f {b:Bool}:(b != false)=b:=by cases b<;>rfl
def I64 (n:Int):Prop := -9223372036854775808≤n∧n≤9223372036854775807
theorem wrap64 {x:Int} (h1 : -9223372036854775808≤x) (h2:x≤9223372036854775807):IntKind.i64.wrap x=x:=by
 have e1:(2:Int) ^ IntKind.i64.bits=18446744073709551616:=by decide
 have e2:(2:Int) ^ (IntKind.i64.bits - 1)=9223372036854775808:=by decide
 unfold IntKind.wrap
 simp only [IntKind.signed,if_true,e1,e2,Bool.true_and,decide_eq_true_eq]
 split<;>omega
theorem wrapN {n:Nat} (h:n≤9223372036854775807):IntKind.i64.wrap (n:Int)=n:=wrap64 (by omega) (by omega)
theorem wrap1 {k:Nat} (h:k<9223372036854775807):IntKind.i64.wrap ((k:Int)+1)=(k:Int)+1:=wrap64 (by omega) (by omega)
theorem wrapU64 {x:Int} (h1 : 0≤x) (h2:x≤18446744073709551615):IntKind.u64.wrap x=x:=by
 have e1:(2:Int) ^ IntKind.u64.bits=18446744073709551616:=by decide
 unfold IntKind.wrap
 simp only [IntKind.signed,e1,Bool.false_and,Bool.false_eq_true,if_false]
 omega
theorem wrapU64_neg {x:Int} (h1 : -18446744073709551616≤x) (h2:x<0):IntKind.u64.wrap x=x+18446744073709551616:=by
 have e1:(2:Int) ^ IntKind.u64.bits=18446744073709551616:=by decide
 unfold IntKind.wrap
 simp only [IntKind.signed,e1,Bool.false_and,Bool.false_eq_true,if_false]
 omega
structure RatR.fit (r:RatR):Prop where
 num:I64 r.num
 den:I64 r.den
structure SourceR.fit (s:SourceR):Prop where
 kind:I64 s.kind
 pos:s.pos.fit
 speed:s.speed.fit
structure ClipR.fit (c:ClipR):Prop where
 len:I64 c.len
 kind:I64 c.kind
 a:c.a.fit
 b:c.b.fit
 off:I64 c.off
 total:I64 c.total
 param:I64 c.param
 gain:I64 c.gain
def nmI (n:Int):Bool:=(decide (97≤n)&&decide (n≤122))||(decide (48≤n)&&decide (n≤57))||n==45||n==95||n==46
def lnI (n:Int):Bool:=decide (32≤n)&&decide (n≤126)
def bytesAll (p:Int→Bool) (s:ByteArray):Bool:=s.data.toList.all fun c=>p c.toNat
def byteAt (s:ByteArray) (k:Nat):Int:=(s.data.toList.getD k 0).toNat
theorem bytes_len (s:ByteArray):s.data.toList.length=s.size:=Array.length_toList
theorem bytes_hit {p:Int→Bool} {s:ByteArray} {k:Nat} (h:k<s.size) (hp:p (byteAt s k)=false):bytesAll p s=false:=by
 have hl:k<s.data.toList.length:=by rw [bytes_len];exact h
 unfold byteAt at hp
 rw [List.getD_eq_getElem?_getD,List.getElem?_eq_getElem hl] at hp
 unfold bytesAll
 rw [Bool.eq_false_iff,ne_eq,List.all_eq_true]
 intro h'
 have:=h' _ (List.getElem_mem hl)
 simp only [Option.getD_some] at hp
 rw [hp] at this;cases this
theorem bytes_done {p:Int→Bool} {s:ByteArray} (h:∀ k,k<s.size→p (byteAt s k)=true):bytesAll p s=true:=by
 unfold bytesAll
 rw [List.all_eq_true]
 intro c hc
 obtain ⟨k,hk,rfl⟩:=List.mem_iff_getElem.1 hc
 have:=h k (by rw [← bytes_len];exact hk)
 unfold byteAt at this
 rw [List.getD_eq_getElem?_getD,List.getElem?_eq_getElem hk] at this
 exact this
def vName (s:ByteArray):Bool:=decide (1≤s.size)&&decide (s.size≤32)&&bytesAll nmI s
def vLine (s:ByteArray):Bool:=decide (1≤s.size)&&decide (s.size≤64)&&bytesAll lnI s
open Go.RowKit
@[go_sem] theorem Tryz.xsz2:Tryz.prog.szT 2=some 1:=by kernel_rfl
@[go_sem] theorem Tryz.xag2:Tryz.prog.aggT 2=some false:=by kernel_rfl
@[go_sem] theorem Tryz.xby2:Tryz.prog.bytesT 2=some 8:=by kernel_rfl
@[go_sem] theorem Tryz.xze2:Tryz.prog.zeroT 2=some [Value.int IntKind.i64 0]:=by kernel_rfl
@[go_sem] theorem Tryz.xzk2:zeroOk [Value.int IntKind.i64 0]=true:=by kernel_rfl
@[go_sem] theorem Tryz.xsz3:Tryz.prog.szT 3=some 1:=by kernel_rfl
@[go_sem] theorem Tryz.xag3:Tryz.prog.aggT 3=some false:=by kernel_rfl
@[go_sem] theorem Tryz.xby3:Tryz.prog.bytesT 3=some 8:=by kernel_rfl
@[go_sem] theorem Tryz.xze3:Tryz.prog.zeroT 3=some [Value.int IntKind.i64 0]:=by kernel_rfl
@[go_sem] theorem Tryz.xsz4:Tryz.prog.szT 4=some 1:=by kernel_rfl
@[go_sem] theorem Tryz.xag4:Tryz.prog.aggT 4=some false:=by kernel_rfl
@[go_sem] theorem Tryz.xze4:Tryz.prog.zeroT 4=some [Value.bool false]:=by kernel_rfl
@[go_sem] theorem Tryz.xzk4:zeroOk [Value.bool false]=true:=by kernel_rfl
@[go_sem] theorem Tryz.xag5:Tryz.prog.aggT 5=some false:=by kernel_rfl
@[go_sem] theorem Tryz.xsz9:Tryz.prog.szT 9=some 1:=by kernel_rfl
@[go_sem] theorem Tryz.xag9:Tryz.prog.aggT 9=some false:=by kernel_rfl
@[go_sem] theorem Tryz.xze9:Tryz.prog.zeroT 9=some [Value.string ⟨#[]⟩]:=by kernel_rfl
@[go_sem] theorem Tryz.xzk9:zeroOk [Value.string ⟨#[]⟩]=true:=by kernel_rfl
@[go_sem] theorem Tryz.xag21:Tryz.prog.aggT 21=some false:=by kernel_rfl
@[go_sem] theorem Tryz.xsz22:Tryz.prog.szT 22=some 1:=by kernel_rfl
@[go_sem] theorem Tryz.xag22:Tryz.prog.aggT 22=some false:=by kernel_rfl
@[go_sem] theorem Tryz.xel22:Tryz.prog.elemT 22=some 3:=by kernel_rfl
@[go_sem] theorem Tryz.xzk22:zeroOk [Value.slice none 0 0]=true:=by kernel_rfl
@[go_sem] theorem Tryz.xzk24:zeroOk [Value.int IntKind.i64 0,Value.int IntKind.i64 0]=true:=by kernel_rfl
@[go_sem] theorem Tryz.xsz25:Tryz.prog.szT 25=some 2:=by kernel_rfl
@[go_sem] theorem Tryz.xag25:Tryz.prog.aggT 25=some true:=by kernel_rfl
@[go_sem] theorem Tryz.xpl25:Tryz.prog.plT 25=some [(0,1),(1,1)]:=by kernel_rfl
@[go_sem] theorem Tryz.xze25:Tryz.prog.zeroT 25=some [Value.int IntKind.i64 0,Value.int IntKind.i64 0]:=by kernel_rfl
@[go_sem] theorem Tryz.xfl25_0:Tryz.prog.fldT 25 0=some (0,2):=by kernel_rfl
@[go_sem] theorem Tryz.xfl25_1:Tryz.prog.fldT 25 1=some (1,2):=by kernel_rfl
@[go_sem] theorem Tryz.xel27:Tryz.prog.elemT 27=some 25:=by kernel_rfl
@[go_sem] theorem Tryz.xel28:Tryz.prog.elemT 28=some 49:=by kernel_rfl
@[go_sem] theorem Tryz.xsz30:Tryz.prog.szT 30=some 1:=by kernel_rfl
@[go_sem] theorem Tryz.xag30:Tryz.prog.aggT 30=some false:=by kernel_rfl
@[go_sem] theorem Tryz.xel30:Tryz.prog.elemT 30=some 47:=by kernel_rfl
@[go_sem] theorem Tryz.xze30:Tryz.prog.zeroT 30=some [Value.slice none 0 0]:=by kernel_rfl
@[go_sem] theorem Tryz.xsz31:Tryz.prog.szT 31=some 1:=by kernel_rfl
@[go_sem] theorem Tryz.xag31:Tryz.prog.aggT 31=some false:=by kernel_rfl
@[go_sem] theorem Tryz.xze31:Tryz.prog.zeroT 31=some [Value.int IntKind.i64 0]:=by kernel_rfl
@[go_sem] theorem Tryz.xsz34:Tryz.prog.szT 34=some 1:=by kernel_rfl
@[go_sem] theorem Tryz.xag34:Tryz.prog.aggT 34=some false:=by kernel_rfl
@[go_sem] theorem Tryz.xel34:Tryz.prog.elemT 34=some 60:=by kernel_rfl
@[go_sem] theorem Tryz.xsz35:Tryz.prog.szT 35=some 1:=by kernel_rfl
@[go_sem] theorem Tryz.xag35:Tryz.prog.aggT 35=some false:=by kernel_rfl
@[go_sem] theorem Tryz.xel35:Tryz.prog.elemT 35=some 70:=by kernel_rfl
@[go_sem] theorem Tryz.xzk36:zeroOk [Value.slice none 0 0,Value.slice none 0 0]=true:=by kernel_rfl
@[go_sem] theorem Tryz.xsz37:Tryz.prog.szT 37=some 2:=by kernel_rfl
@[go_sem] theorem Tryz.xag37:Tryz.prog.aggT 37=some true:=by kernel_rfl
@[go_sem] theorem Tryz.xze37:Tryz.prog.zeroT 37=some [Value.slice none 0 0,Value.slice none 0 0]:=by kernel_rfl
@[go_sem] theorem Tryz.xfl37_0:Tryz.prog.fldT 37 0=some (0,34):=by kernel_rfl
@[go_sem] theorem Tryz.xfl37_1:Tryz.prog.fldT 37 1=some (1,35):=by kernel_rfl
@[go_sem] theorem Tryz.xzk39:zeroOk [Value.int IntKind.i64 0,Value.string ⟨#[]⟩,Value.int IntKind.i64 0,Value.int IntKind.i64 0,Value.int IntKind.i64 0,Value.int IntKind.i64 0,Value.bool false]=true:=by kernel_rfl
@[go_sem] theorem Tryz.xsz40:Tryz.prog.szT 40=some 7:=by kernel_rfl
@[go_sem] theorem Tryz.xag40:Tryz.prog.aggT 40=some true:=by kernel_rfl
@[go_sem] theorem Tryz.xpl40:Tryz.prog.plT 40=some [(0,1),(1,1),(2,2),(4,2),(6,1)]:=by kernel_rfl
@[go_sem] theorem Tryz.xze40:Tryz.prog.zeroT 40=some [Value.int IntKind.i64 0,Value.string ⟨#[]⟩,Value.int IntKind.i64 0,Value.int IntKind.i64 0,Value.int IntKind.i64 0,Value.int IntKind.i64 0,Value.bool false]:=by kernel_rfl
@[go_sem] theorem Tryz.xfl40_0:Tryz.prog.fldT 40 0=some (0,3):=by kernel_rfl
@[go_sem] theorem Tryz.xfl40_1:Tryz.prog.fldT 40 1=some (1,9):=by kernel_rfl
@[go_sem] theorem Tryz.xfl40_2:Tryz.prog.fldT 40 2=some (2,25):=by kernel_rfl
@[go_sem] theorem Tryz.xfl40_3:Tryz.prog.fldT 40 3=some (4,25):=by kernel_rfl
@[go_sem] theorem Tryz.xfl40_4:Tryz.prog.fldT 40 4=some (6,4):=by kernel_rfl
@[go_sem] theorem Tryz.xzk41:zeroOk [Value.int IntKind.i64 0,Value.int IntKind.i64 0,Value.int IntKind.i64 0,Value.string ⟨#[]⟩,Value.int IntKind.i64 0,Value.int IntKind.i64 0,Value.int IntKind.i64 0,Value.int IntKind.i64 0,Value.bool false,Value.int IntKind.i64 0,Value.string ⟨#[]⟩,Value.int IntKind.i64 0,Value.int IntKind.i64 0,Value.int IntKind.i64 0,Value.int IntKind.i64 0,Value.bool false,Value.int IntKind.i64 0,Value.int IntKind.i64 0,Value.int IntKind.i64 0,Value.string ⟨#[]⟩,Value.int IntKind.i64 0,Value.slice none 0 0]=true:=by kernel_rfl
@[go_sem] theorem Tryz.xsz42:Tryz.prog.szT 42=some 22:=by kernel_rfl
@[go_sem] theorem Tryz.xag42:Tryz.prog.aggT 42=some true:=by kernel_rfl
@[go_sem] theorem Tryz.xby42:Tryz.prog.bytesT 42=some 216:=by kernel_rfl
@[go_sem] theorem Tryz.xpl42:Tryz.prog.plT 42=some [(0,1),(1,1),(2,7),(9,7),(16,1),(17,1),(18,1),(19,1),(20,1),(21,1)]:=by kernel_rfl
@[go_sem] theorem Tryz.xze42:Tryz.prog.zeroT 42=some [Value.int IntKind.i64 0,Value.int IntKind.i64 0,Value.int IntKind.i64 0,Value.string ⟨#[]⟩,Value.int IntKind.i64 0,Value.int IntKind.i64 0,Value.int IntKind.i64 0,Value.int IntKind.i64 0,Value.bool false,Value.int IntKind.i64 0,Value.string ⟨#[]⟩,Value.int IntKind.i64 0,Value.int IntKind.i64 0,Value.int IntKind.i64 0,Value.int IntKind.i64 0,Value.bool false,Value.int IntKind.i64 0,Value.int IntKind.i64 0,Value.int IntKind.i64 0,Value.string ⟨#[]⟩,Value.int IntKind.i64 0,Value.slice none 0 0]:=by kernel_rfl
@[go_sem] theorem Tryz.xfl42_0:Tryz.prog.fldT 42 0=some (0,2):=by kernel_rfl
@[go_sem] theorem Tryz.xfl42_1:Tryz.prog.fldT 42 1=some (1,3):=by kernel_rfl
@[go_sem] theorem Tryz.xfl42_2:Tryz.prog.fldT 42 2=some (2,40):=by kernel_rfl
@[go_sem] theorem Tryz.xfl42_3:Tryz.prog.fldT 42 3=some (9,40):=by kernel_rfl
@[go_sem] theorem Tryz.xfl42_4:Tryz.prog.fldT 42 4=some (16,2):=by kernel_rfl
@[go_sem] theorem Tryz.xfl42_5:Tryz.prog.fldT 42 5=some (17,2):=by kernel_rfl
@[go_sem] theorem Tryz.xfl42_6:Tryz.prog.fldT 42 6=some (18,3):=by kernel_rfl
@[go_sem] theorem Tryz.xfl42_7:Tryz.prog.fldT 42 7=some (19,9):=by kernel_rfl
@[go_sem] theorem Tryz.xfl42_8:Tryz.prog.fldT 42 8=some (20,3):=by kernel_rfl
@[go_sem] theorem Tryz.xfl42_9:Tryz.prog.fldT 42 9=some (21,22):=by kernel_rfl
@[go_sem] theorem Tryz.xel44:Tryz.prog.elemT 44=some 42:=by kernel_rfl
@[go_sem] theorem Tryz.xsz45:Tryz.prog.szT 45=some 1:=by kernel_rfl
@[go_sem] theorem Tryz.xag45:Tryz.prog.aggT 45=some false:=by kernel_rfl
@[go_sem] theorem Tryz.xel45:Tryz.prog.elemT 45=some 42:=by kernel_rfl
@[go_sem] theorem Tryz.xby45:Tryz.prog.bytesT 45=some 24:=by kernel_rfl
@[go_sem] theorem Tryz.xze45:Tryz.prog.zeroT 45=some [Value.slice none 0 0]:=by kernel_rfl
@[go_sem] theorem Tryz.xsz47:Tryz.prog.szT 47=some 1:=by kernel_rfl
@[go_sem] theorem Tryz.xag47:Tryz.prog.aggT 47=some false:=by kernel_rfl
@[go_sem] theorem Tryz.xel47:Tryz.prog.elemT 47=some 64:=by kernel_rfl
@[go_sem] theorem Tryz.xby47:Tryz.prog.bytesT 47=some 24:=by kernel_rfl
@[go_sem] theorem Tryz.xze47:Tryz.prog.zeroT 47=some [Value.slice none 0 0]:=by kernel_rfl
@[go_sem] theorem Tryz.xzk48:zeroOk [Value.string ⟨#[]⟩,Value.slice none 0 0]=true:=by kernel_rfl
@[go_sem] theorem Tryz.xsz49:Tryz.prog.szT 49=some 2:=by kernel_rfl
@[go_sem] theorem Tryz.xag49:Tryz.prog.aggT 49=some true:=by kernel_rfl
@[go_sem] theorem Tryz.xby49:Tryz.prog.bytesT 49=some 40:=by kernel_rfl
@[go_sem] theorem Tryz.xpl49:Tryz.prog.plT 49=some [(0,1),(1,1)]:=by kernel_rfl
@[go_sem] theorem Tryz.xze49:Tryz.prog.zeroT 49=some [Value.string ⟨#[]⟩,Value.slice none 0 0]:=by kernel_rfl
@[go_sem] theorem Tryz.xfl49_0:Tryz.prog.fldT 49 0=some (0,9):=by kernel_rfl
@[go_sem] theorem Tryz.xfl49_1:Tryz.prog.fldT 49 1=some (1,30):=by kernel_rfl
def Tryz.z55:List Value:=[Value.int IntKind.i64 0,Value.int IntKind.i64 0,Value.int IntKind.i64 0,Value.int IntKind.i64 0,Value.bool false,Value.int IntKind.i64 0,Value.int IntKind.i64 0]++List.replicate 128 (Value.int IntKind.u8 0)
@[go_sem] theorem Tryz.zok55:zeroOk Tryz.z55=true:=by kernel_rfl
@[go_sem] theorem Tryz.zlen55:Tryz.z55.length=135:=by kernel_rfl
@[go_sem] theorem Tryz.xsz56:Tryz.prog.szT 56=some 135:=by kernel_rfl
@[go_sem] theorem Tryz.xpl56:Tryz.prog.plT 56=some [(0,1),(1,1),(2,2),(4,1),(5,1),(6,1),(7,64),(71,64)]:=by kernel_rfl
def Tryz.z56:List Value:=[Value.int IntKind.i64 0,Value.int IntKind.i64 0,Value.int IntKind.i64 0,Value.int IntKind.i64 0,Value.bool false,Value.int IntKind.i64 0,Value.int IntKind.i64 0]++List.replicate 128 (Value.int IntKind.u8 0)
@[go_sem] theorem Tryz.xze56:Tryz.prog.zeroT 56=some Tryz.z56:=by kernel_rfl
@[go_sem] theorem Tryz.zok56:zeroOk Tryz.z56=true:=by kernel_rfl
@[go_sem] theorem Tryz.zlen56:Tryz.z56.length=135:=by kernel_rfl
@[go_sem] theorem Tryz.xfl56_2:Tryz.prog.fldT 56 2=some (2,25):=by kernel_rfl
@[go_sem] theorem Tryz.xsz57:Tryz.prog.szT 57=some 1:=by kernel_rfl
@[go_sem] theorem Tryz.xag57:Tryz.prog.aggT 57=some false:=by kernel_rfl
@[go_sem] theorem Tryz.xsz58:Tryz.prog.szT 58=some 1:=by kernel_rfl
@[go_sem] theorem Tryz.xag58:Tryz.prog.aggT 58=some false:=by kernel_rfl
@[go_sem] theorem Tryz.xel58:Tryz.prog.elemT 58=some 109:=by kernel_rfl
def Tryz.z59:List Value:=[Value.string ⟨#[]⟩,Value.int IntKind.u64 0,Value.int IntKind.i64 0,Value.int IntKind.i64 0,Value.int IntKind.i64 0,Value.int IntKind.i64 0,Value.bool false,Value.int IntKind.i64 0,Value.int IntKind.i64 0]++List.replicate 128 (Value.int IntKind.u8 0) ++ [Value.int IntKind.i64 0,Value.int IntKind.i64 0,Value.int IntKind.i64 0,Value.slice none 0 0]
@[go_sem] theorem Tryz.zok59:zeroOk Tryz.z59=true:=by kernel_rfl
@[go_sem] theorem Tryz.zlen59:Tryz.z59.length=141:=by kernel_rfl
@[go_sem] theorem Tryz.xsz60:Tryz.prog.szT 60=some 141:=by kernel_rfl
@[go_sem] theorem Tryz.xag60:Tryz.prog.aggT 60=some true:=by kernel_rfl
@[go_sem] theorem Tryz.xby60:Tryz.prog.bytesT 60=some 256:=by kernel_rfl
@[go_sem] theorem Tryz.xpl60:Tryz.prog.plT 60=some [(0,1),(1,1),(2,135),(137,1),(138,1),(139,1),(140,1)]:=by kernel_rfl
def Tryz.z60:List Value:=[Value.string ⟨#[]⟩,Value.int IntKind.u64 0,Value.int IntKind.i64 0,Value.int IntKind.i64 0,Value.int IntKind.i64 0,Value.int IntKind.i64 0,Value.bool false,Value.int IntKind.i64 0,Value.int IntKind.i64 0]++List.replicate 128 (Value.int IntKind.u8 0) ++ [Value.int IntKind.i64 0,Value.int IntKind.i64 0,Value.int IntKind.i64 0,Value.slice none 0 0]
@[go_sem] theorem Tryz.xze60:Tryz.prog.zeroT 60=some Tryz.z60:=by kernel_rfl
@[go_sem] theorem Tryz.zok60:zeroOk Tryz.z60=true:=by kernel_rfl
@[go_sem] theorem Tryz.zlen60:Tryz.z60.length=141:=by kernel_rfl
@[go_sem] theorem Tryz.xfl60_0:Tryz.prog.fldT 60 0=some (0,9):=by kernel_rfl
@[go_sem] theorem Tryz.xfl60_2:Tryz.prog.fldT 60 2=some (2,56):=by kernel_rfl
@[go_sem] theorem Tryz.xfl60_3:Tryz.prog.fldT 60 3=some (137,2):=by kernel_rfl
@[go_sem] theorem Tryz.xfl60_4:Tryz.prog.fldT 60 4=some (138,3):=by kernel_rfl
@[go_sem] theorem Tryz.xfl60_5:Tryz.prog.fldT 60 5=some (139,2):=by kernel_rfl
@[go_sem] theorem Tryz.xfl60_6:Tryz.prog.fldT 60 6=some (140,58):=by kernel_rfl
@[go_sem] theorem Tryz.xsz64:Tryz.prog.szT 64=some 1:=by kernel_rfl
@[go_sem] theorem Tryz.xag64:Tryz.prog.aggT 64=some false:=by kernel_rfl
@[go_sem] theorem Tryz.xby64:Tryz.prog.bytesT 64=some 2:=by kernel_rfl
@[go_sem] theorem Tryz.xze64:Tryz.prog.zeroT 64=some [Value.int IntKind.i16 0]:=by kernel_rfl
@[go_sem] theorem Tryz.xzk64:zeroOk [Value.int IntKind.i16 0]=true:=by kernel_rfl
@[go_sem] theorem Tryz.xsz68:Tryz.prog.szT 68=some 1:=by kernel_rfl
@[go_sem] theorem Tryz.xag68:Tryz.prog.aggT 68=some false:=by kernel_rfl
@[go_sem] theorem Tryz.xel68:Tryz.prog.elemT 68=some 45:=by kernel_rfl
@[go_sem] theorem Tryz.xze68:Tryz.prog.zeroT 68=some [Value.slice none 0 0]:=by kernel_rfl
@[go_sem] theorem Tryz.xzk69:zeroOk [Value.string ⟨#[]⟩,Value.int IntKind.i64 0,Value.int IntKind.i64 0,Value.int IntKind.i64 0,Value.int IntKind.i64 0,Value.slice none 0 0,Value.slice none 0 0,Value.slice none 0 0,Value.int IntKind.i64 0]=true:=by kernel_rfl
@[go_sem] theorem Tryz.xsz70:Tryz.prog.szT 70=some 9:=by kernel_rfl
@[go_sem] theorem Tryz.xag70:Tryz.prog.aggT 70=some true:=by kernel_rfl
@[go_sem] theorem Tryz.xpl70:Tryz.prog.plT 70=some [(0,1),(1,2),(3,1),(4,1),(5,1),(6,1),(7,1),(8,1)]:=by kernel_rfl
@[go_sem] theorem Tryz.xze70:Tryz.prog.zeroT 70=some [Value.string ⟨#[]⟩,Value.int IntKind.i64 0,Value.int IntKind.i64 0,Value.int IntKind.i64 0,Value.int IntKind.i64 0,Value.slice none 0 0,Value.slice none 0 0,Value.slice none 0 0,Value.int IntKind.i64 0]:=by kernel_rfl
@[go_sem] theorem Tryz.xfl70_0:Tryz.prog.fldT 70 0=some (0,9):=by kernel_rfl
@[go_sem] theorem Tryz.xfl70_1:Tryz.prog.fldT 70 1=some (1,25):=by kernel_rfl
@[go_sem] theorem Tryz.xfl70_2:Tryz.prog.fldT 70 2=some (3,3):=by kernel_rfl
@[go_sem] theorem Tryz.xfl70_3:Tryz.prog.fldT 70 3=some (4,3):=by kernel_rfl
@[go_sem] theorem Tryz.xfl70_4:Tryz.prog.fldT 70 4=some (5,68):=by kernel_rfl
@[go_sem] theorem Tryz.xfl70_5:Tryz.prog.fldT 70 5=some (6,68):=by kernel_rfl
@[go_sem] theorem Tryz.xfl70_6:Tryz.prog.fldT 70 6=some (7,58):=by kernel_rfl
@[go_sem] theorem Tryz.xfl70_7:Tryz.prog.fldT 70 7=some (8,3):=by kernel_rfl
@[go_sem] theorem Tryz.xzk80:zeroOk [Value.slice none 0 0,Value.int IntKind.i64 0]=true:=by kernel_rfl
@[go_sem] theorem Tryz.xpl81:Tryz.prog.plT 81=some [(0,1),(1,1)]:=by kernel_rfl
@[go_sem] theorem Tryz.xze81:Tryz.prog.zeroT 81=some [Value.slice none 0 0,Value.int IntKind.i64 0]:=by kernel_rfl
@[go_sem] theorem Tryz.xfl81_0:Tryz.prog.fldT 81 0=some (0,22):=by kernel_rfl
@[go_sem] theorem Tryz.xfl81_1:Tryz.prog.fldT 81 1=some (1,3):=by kernel_rfl
@[go_sem] theorem Tryz.xsz82:Tryz.prog.szT 82=some 1:=by kernel_rfl
@[go_sem] theorem Tryz.xag82:Tryz.prog.aggT 82=some false:=by kernel_rfl
@[go_sem] theorem Tryz.xel82:Tryz.prog.elemT 82=some 9:=by kernel_rfl
@[go_sem] theorem Tryz.xsz92:Tryz.prog.szT 92=some 1:=by kernel_rfl
@[go_sem] theorem Tryz.xag92:Tryz.prog.aggT 92=some false:=by kernel_rfl
@[go_sem] theorem Tryz.xzk92:zeroOk [Value.map none]=true:=by kernel_rfl
@[go_sem] theorem Tryz.xmt92:Tryz.prog.mapT 92=some (9,25):=by kernel_rfl
@[go_sem] theorem Tryz.xz125:Tryz.prog.zero1 25=some (Value.agg #[Value.int IntKind.i64 0,Value.int IntKind.i64 0]):=by kernel_rfl
@[go_sem] theorem Tryz.xsz93:Tryz.prog.szT 93=some 1:=by kernel_rfl
@[go_sem] theorem Tryz.xag93:Tryz.prog.aggT 93=some false:=by kernel_rfl
@[go_sem] theorem Tryz.xmt93:Tryz.prog.mapT 93=some (9,49):=by kernel_rfl
@[go_sem] theorem Tryz.xz149:Tryz.prog.zero1 49=some (Value.agg #[Value.string ⟨#[]⟩,Value.slice none 0 0]):=by kernel_rfl
@[go_sem] theorem Tryz.xsz94:Tryz.prog.szT 94=some 1:=by kernel_rfl
@[go_sem] theorem Tryz.xag94:Tryz.prog.aggT 94=some false:=by kernel_rfl
@[go_sem] theorem Tryz.xmt94:Tryz.prog.mapT 94=some (9,90):=by kernel_rfl
@[go_sem] theorem Tryz.xz190:Tryz.prog.zero1 90=some (Value.pointer none):=by kernel_rfl
@[go_sem] theorem Tryz.xzk95:zeroOk [Value.map none,Value.map none,Value.map none]=true:=by kernel_rfl
@[go_sem] theorem Tryz.xpl96:Tryz.prog.plT 96=some [(0,1),(1,1),(2,1)]:=by kernel_rfl
@[go_sem] theorem Tryz.xze96:Tryz.prog.zeroT 96=some [Value.map none,Value.map none,Value.map none]:=by kernel_rfl
@[go_sem] theorem Tryz.xfl96_0:Tryz.prog.fldT 96 0=some (0,92):=by kernel_rfl
@[go_sem] theorem Tryz.xfl96_1:Tryz.prog.fldT 96 1=some (1,93):=by kernel_rfl
@[go_sem] theorem Tryz.xfl96_2:Tryz.prog.fldT 96 2=some (2,94):=by kernel_rfl
@[go_sem] theorem Tryz.xsz100:Tryz.prog.szT 100=some 1:=by kernel_rfl
@[go_sem] theorem Tryz.xag100:Tryz.prog.aggT 100=some false:=by kernel_rfl
@[go_sem] theorem Tryz.xel100:Tryz.prog.elemT 100=some 135:=by kernel_rfl
@[go_sem] theorem Tryz.xzk102:zeroOk [Value.int IntKind.i64 0,Value.int IntKind.i64 0,Value.int IntKind.i64 0,Value.slice none 0 0,Value.map none]=true:=by kernel_rfl
@[go_sem] theorem Tryz.xpl103:Tryz.prog.plT 103=some [(0,2),(2,1),(3,1),(4,1)]:=by kernel_rfl
@[go_sem] theorem Tryz.xze103:Tryz.prog.zeroT 103=some [Value.int IntKind.i64 0,Value.int IntKind.i64 0,Value.int IntKind.i64 0,Value.slice none 0 0,Value.map none]:=by kernel_rfl
@[go_sem] theorem Tryz.xfl103_0:Tryz.prog.fldT 103 0=some (0,25):=by kernel_rfl
@[go_sem] theorem Tryz.xfl103_1:Tryz.prog.fldT 103 1=some (2,3):=by kernel_rfl
@[go_sem] theorem Tryz.xfl103_2:Tryz.prog.fldT 103 2=some (3,100):=by kernel_rfl
@[go_sem] theorem Tryz.xzk104:zeroOk [Value.int IntKind.i64 0,Value.int IntKind.i64 0,Value.int IntKind.i64 0,Value.int IntKind.i64 0]=true:=by kernel_rfl
@[go_sem] theorem Tryz.xsz105:Tryz.prog.szT 105=some 4:=by kernel_rfl
@[go_sem] theorem Tryz.xag105:Tryz.prog.aggT 105=some true:=by kernel_rfl
@[go_sem] theorem Tryz.xze105:Tryz.prog.zeroT 105=some [Value.int IntKind.i64 0,Value.int IntKind.i64 0,Value.int IntKind.i64 0,Value.int IntKind.i64 0]:=by kernel_rfl
@[go_sem] theorem Tryz.xzk108:zeroOk [Value.int IntKind.i64 0,Value.int IntKind.i64 0,Value.slice none 0 0]=true:=by kernel_rfl
@[go_sem] theorem Tryz.xsz109:Tryz.prog.szT 109=some 3:=by kernel_rfl
@[go_sem] theorem Tryz.xag109:Tryz.prog.aggT 109=some true:=by kernel_rfl
@[go_sem] theorem Tryz.xze109:Tryz.prog.zeroT 109=some [Value.int IntKind.i64 0,Value.int IntKind.i64 0,Value.slice none 0 0]:=by kernel_rfl
@[go_sem] theorem Tryz.xfl109_0:Tryz.prog.fldT 109 0=some (0,2):=by kernel_rfl
@[go_sem] theorem Tryz.xfl109_1:Tryz.prog.fldT 109 1=some (1,2):=by kernel_rfl
@[go_sem] theorem Tryz.xfl109_2:Tryz.prog.fldT 109 2=some (2,82):=by kernel_rfl
@[go_sem] theorem Tryz.xsz125:Tryz.prog.szT 125=some 1:=by kernel_rfl
@[go_sem] theorem Tryz.xag125:Tryz.prog.aggT 125=some false:=by kernel_rfl
@[go_sem] theorem Tryz.xmt125:Tryz.prog.mapT 125=some (9,60):=by kernel_rfl
@[go_sem] theorem Tryz.xz160:Tryz.prog.zero1 60=some (Value.agg #[Value.string ⟨#[]⟩,Value.int IntKind.u64 0,Value.int IntKind.i64 0,Value.int IntKind.i64 0,Value.int IntKind.i64 0,Value.int IntKind.i64 0,Value.bool false,Value.int IntKind.i64 0,Value.int IntKind.i64 0,Value.int IntKind.u8 0,Value.int IntKind.u8 0,Value.int IntKind.u8 0,Value.int IntKind.u8 0,Value.int IntKind.u8 0,Value.int IntKind.u8 0,Value.int IntKind.u8 0,Value.int IntKind.u8 0,Value.int IntKind.u8 0,Value.int IntKind.u8 0,Value.int IntKind.u8 0,Value.int IntKind.u8 0,Value.int IntKind.u8 0,Value.int IntKind.u8 0,Value.int IntKind.u8 0,Value.int IntKind.u8 0,Value.int IntKind.u8 0,Value.int IntKind.u8 0,Value.int IntKind.u8 0,Value.int IntKind.u8 0,Value.int IntKind.u8 0,Value.int IntKind.u8 0,Value.int IntKind.u8 0,Value.int IntKind.u8 0,Value.int IntKind.u8 0,Value.int IntKind.u8 0,Value.int IntKind.u8 0,Value.int IntKind.u8 0,Value.int IntKind.u8 0,Value.int IntKind.u8 0,Value.int IntKind.u8 0,Value.int IntKind.u8 0,Value.int IntKind.u8 0,Value.int IntKind.u8 0,Value.int IntKind.u8 0,Value.int IntKind.u8 0,Value.int IntKind.u8 0,Value.int IntKind.u8 0,Value.int IntKind.u8 0,Value.int IntKind.u8 0,Value.int IntKind.u8 0,Value.int IntKind.u8 0,Value.int IntKind.u8 0,Value.int IntKind.u8 0,Value.int IntKind.u8 0,Value.int IntKind.u8 0,Value.int IntKind.u8 0,Value.int IntKind.u8 0,Value.int IntKind.u8 0,Value.int IntKind.u8 0,Value.int IntKind.u8 0,Value.int IntKind.u8 0,Value.int IntKind.u8 0,Value.int IntKind.u8 0,Value.int IntKind.u8 0,Value.int IntKind.u8 0,Value.int IntKind.u8 0,Value.int IntKind.u8 0,Value.int IntKind.u8 0,Value.int IntKind.u8 0,Value.int IntKind.u8 0,Value.int IntKind.u8 0,Value.int IntKind.u8 0,Value.int IntKind.u8 0,Value.int IntKind.u8 0,Value.int IntKind.u8 0,Value.int IntKind.u8 0,Value.int IntKind.u8 0,Value.int IntKind.u8 0,Value.int IntKind.u8 0,Value.int IntKind.u8 0,Value.int IntKind.u8 0,Value.int IntKind.u8 0,Value.int IntKind.u8 0,Value.int IntKind.u8 0,Value.int IntKind.u8 0,Value.int IntKind.u8 0,Value.int IntKind.u8 0,Value.int IntKind.u8 0,Value.int IntKind.u8 0,Value.int IntKind.u8 0,Value.int IntKind.u8 0,Value.int IntKind.u8 0,Value.int IntKind.u8 0,Value.int IntKind.u8 0,Value.int IntKind.u8 0,Value.int IntKind.u8 0,Value.int IntKind.u8 0,Value.int IntKind.u8 0,Value.int IntKind.u8 0,Value.int IntKind.u8 0,Value.int IntKind.u8 0,Value.int IntKind.u8 0,Value.int IntKind.u8 0,Value.int IntKind.u8 0,Value.int IntKind.u8 0,Value.int IntKind.u8 0,Value.int IntKind.u8 0,Value.int IntKind.u8 0,Value.int IntKind.u8 0,Value.int IntKind.u8 0,Value.int IntKind.u8 0,Value.int IntKind.u8 0,Value.int IntKind.u8 0,Value.int IntKind.u8 0,Value.int IntKind.u8 0,Value.int IntKind.u8 0,Value.int IntKind.u8 0,Value.int IntKind.u8 0,Value.int IntKind.u8 0,Value.int IntKind.u8 0,Value.int IntKind.u8 0,Value.int IntKind.u8 0,Value.int IntKind.u8 0,Value.int IntKind.u8 0,Value.int IntKind.u8 0,Value.int IntKind.u8 0,Value.int IntKind.u8 0,Value.int IntKind.u8 0,Value.int IntKind.u8 0,Value.int IntKind.u8 0,Value.int IntKind.u8 0,Value.int IntKind.u8 0,Value.int IntKind.u8 0,Value.int IntKind.u8 0,Value.int IntKind.u8 0,Value.int IntKind.u8 0,Value.int IntKind.u8 0,Value.int IntKind.i64 0,Value.int IntKind.i64 0,Value.int IntKind.i64 0,Value.slice none 0 0]):=by kernel_rfl
@[go_sem] theorem Tryz.xsz126:Tryz.prog.szT 126=some 1:=by kernel_rfl
@[go_sem] theorem Tryz.xag126:Tryz.prog.aggT 126=some false:=by kernel_rfl
@[go_sem] theorem Tryz.xmt126:Tryz.prog.mapT 126=some (9,70):=by kernel_rfl
@[go_sem] theorem Tryz.xz170:Tryz.prog.zero1 70=some (Value.agg #[Value.string ⟨#[]⟩,Value.int IntKind.i64 0,Value.int IntKind.i64 0,Value.int IntKind.i64 0,Value.int IntKind.i64 0,Value.slice none 0 0,Value.slice none 0 0,Value.slice none 0 0,Value.int IntKind.i64 0]):=by kernel_rfl
@[go_sem] theorem Tryz.xzk127:zeroOk [Value.map none,Value.map none]=true:=by kernel_rfl
@[go_sem] theorem Tryz.xsz128:Tryz.prog.szT 128=some 2:=by kernel_rfl
@[go_sem] theorem Tryz.xag128:Tryz.prog.aggT 128=some true:=by kernel_rfl
@[go_sem] theorem Tryz.xpl128:Tryz.prog.plT 128=some [(0,1),(1,1)]:=by kernel_rfl
@[go_sem] theorem Tryz.xze128:Tryz.prog.zeroT 128=some [Value.map none,Value.map none]:=by kernel_rfl
@[go_sem] theorem Tryz.xfl128_0:Tryz.prog.fldT 128 0=some (0,125):=by kernel_rfl
@[go_sem] theorem Tryz.xfl128_1:Tryz.prog.fldT 128 1=some (1,126):=by kernel_rfl
@[go_sem] theorem Tryz.xmt130:Tryz.prog.mapT 130=some (9,3):=by kernel_rfl
@[go_sem] theorem Tryz.xz13:Tryz.prog.zero1 3=some (Value.int IntKind.i64 0):=by kernel_rfl
@[go_sem] theorem Tryz.xsz133:Tryz.prog.szT 133=some 1:=by kernel_rfl
@[go_sem] theorem Tryz.xag133:Tryz.prog.aggT 133=some false:=by kernel_rfl
@[go_sem] theorem Tryz.xel133:Tryz.prog.elemT 133=some 2:=by kernel_rfl
@[go_sem] theorem Tryz.xzk134:zeroOk [Value.slice none 0 0,Value.slice none 0 0,Value.int IntKind.i64 0]=true:=by kernel_rfl
@[go_sem] theorem Tryz.xsz135:Tryz.prog.szT 135=some 3:=by kernel_rfl
@[go_sem] theorem Tryz.xag135:Tryz.prog.aggT 135=some true:=by kernel_rfl
@[go_sem] theorem Tryz.xby135:Tryz.prog.bytesT 135=some 56:=by kernel_rfl
@[go_sem] theorem Tryz.xpl135:Tryz.prog.plT 135=some [(0,1),(1,1),(2,1)]:=by kernel_rfl
@[go_sem] theorem Tryz.xze135:Tryz.prog.zeroT 135=some [Value.slice none 0 0,Value.slice none 0 0,Value.int IntKind.i64 0]:=by kernel_rfl
@[go_sem] theorem Tryz.xfl135_0:Tryz.prog.fldT 135 0=some (0,45):=by kernel_rfl
@[go_sem] theorem Tryz.xfl135_1:Tryz.prog.fldT 135 1=some (1,133):=by kernel_rfl
@[go_sem] theorem Tryz.xfl135_2:Tryz.prog.fldT 135 2=some (2,2):=by kernel_rfl
@[go_sem] theorem Tryz.xzk148:zeroOk [Value.bool false,Value.int IntKind.u64 0,Value.int IntKind.u64 0]=true:=by kernel_rfl
@[go_sem] theorem Tryz.xsz149:Tryz.prog.szT 149=some 3:=by kernel_rfl
@[go_sem] theorem Tryz.xag149:Tryz.prog.aggT 149=some true:=by kernel_rfl
@[go_sem] theorem Tryz.xpl149:Tryz.prog.plT 149=some [(0,1),(1,1),(2,1)]:=by kernel_rfl
@[go_sem] theorem Tryz.xze149:Tryz.prog.zeroT 149=some [Value.bool false,Value.int IntKind.u64 0,Value.int IntKind.u64 0]:=by kernel_rfl
@[go_sem] theorem Tryz.xfl149_0:Tryz.prog.fldT 149 0=some (0,4):=by kernel_rfl
@[go_sem] theorem Tryz.xfl149_1:Tryz.prog.fldT 149 1=some (1,57):=by kernel_rfl
@[go_sem] theorem Tryz.xfl149_2:Tryz.prog.fldT 149 2=some (2,57):=by kernel_rfl
@[go_sem] theorem Tryz.xpl170:Tryz.prog.plT 170=some [(0,7),(7,7)]:=by kernel_rfl
@[go_sem] theorem Tryz.xze170:Tryz.prog.zeroT 170=some [Value.int IntKind.i64 0,Value.string ⟨#[]⟩,Value.int IntKind.i64 0,Value.int IntKind.i64 0,Value.int IntKind.i64 0,Value.int IntKind.i64 0,Value.bool false,Value.int IntKind.i64 0,Value.string ⟨#[]⟩,Value.int IntKind.i64 0,Value.int IntKind.i64 0,Value.int IntKind.i64 0,Value.int IntKind.i64 0,Value.bool false]:=by kernel_rfl
@[go_sem] theorem Tryz.xzk170:zeroOk [Value.int IntKind.i64 0,Value.string ⟨#[]⟩,Value.int IntKind.i64 0,Value.int IntKind.i64 0,Value.int IntKind.i64 0,Value.int IntKind.i64 0,Value.bool false,Value.int IntKind.i64 0,Value.string ⟨#[]⟩,Value.int IntKind.i64 0,Value.int IntKind.i64 0,Value.int IntKind.i64 0,Value.int IntKind.i64 0,Value.bool false]=true:=by kernel_rfl
@[go_sem] theorem Tryz.xzk179:zeroOk [Value.int IntKind.i64 0,Value.int IntKind.i64 0,Value.int IntKind.i64 0,Value.int IntKind.i64 0,Value.int IntKind.i64 0]=true:=by kernel_rfl
@[go_sem] theorem Tryz.xsz180:Tryz.prog.szT 180=some 5:=by kernel_rfl
@[go_sem] theorem Tryz.xag180:Tryz.prog.aggT 180=some true:=by kernel_rfl
@[go_sem] theorem Tryz.xpl180:Tryz.prog.plT 180=some [(0,1),(1,4)]:=by kernel_rfl
@[go_sem] theorem Tryz.xze180:Tryz.prog.zeroT 180=some [Value.int IntKind.i64 0,Value.int IntKind.i64 0,Value.int IntKind.i64 0,Value.int IntKind.i64 0,Value.int IntKind.i64 0]:=by kernel_rfl
@[go_sem] theorem Tryz.xfl180_0:Tryz.prog.fldT 180 0=some (0,3):=by kernel_rfl
@[go_sem] theorem Tryz.xfl180_1:Tryz.prog.fldT 180 1=some (1,105):=by kernel_rfl
@[go_sem] theorem Tryz.xsz194:Tryz.prog.szT 194=some 1:=by kernel_rfl
@[go_sem] theorem Tryz.xag194:Tryz.prog.aggT 194=some false:=by kernel_rfl
@[go_sem] theorem Tryz.xze194:Tryz.prog.zeroT 194=some [Value.map none]:=by kernel_rfl
@[go_sem] theorem Tryz.xmt194:Tryz.prog.mapT 194=some (9,4):=by kernel_rfl
@[go_sem] theorem Tryz.xel210:Tryz.prog.elemT 210=some 68:=by kernel_rfl
attribute [go_sem] Tryz.underlying0 Tryz.underlying1 Tryz.underlying2 Tryz.underlying3 Tryz.underlying4 Tryz.underlying5 Tryz.underlying6 Tryz.underlying7 Tryz.underlying8 Tryz.underlying9 Tryz.underlying10 Tryz.underlying11 Tryz.underlying12 Tryz.underlying13 Tryz.underlying14 Tryz.underlying15 Tryz.underlying16 Tryz.underlying17 Tryz.underlying18 Tryz.underlying19 Tryz.underlying20 Tryz.underlying21 Tryz.underlying22 Tryz.underlying23 Tryz.underlying24 Tryz.underlying25 Tryz.underlying26 Tryz.underlying27 Tryz.underlying28 Tryz.underlying29 Tryz.underlying30 Tryz.underlying31 Tryz.underlying32 Tryz.underlying33 Tryz.underlying34 Tryz.underlying35 Tryz.underlying36 Tryz.underlying37 Tryz.underlying38 Tryz.underlying39 Tryz.underlying40 Tryz.underlying41 Tryz.underlying42 Tryz.underlying43 Tryz.underlying44 Tryz.underlying45 Tryz.underlying46 Tryz.underlying47 Tryz.underlying48 Tryz.underlying49 Tryz.underlying50 Tryz.underlying51 Tryz.underlying52 Tryz.underlying53 Tryz.underlying54 Tryz.underlying55 Tryz.underlying56 Tryz.underlying57 Tryz.underlying58 Tryz.underlying59 Tryz.underlying60 Tryz.underlying61 Tryz.underlying62 Tryz.underlying63 Tryz.underlying64 Tryz.underlying65 Tryz.underlying66 Tryz.underlying67 Tryz.underlying68 Tryz.underlying69 Tryz.underlying70 Tryz.underlying71 Tryz.underlying72 Tryz.underlying73 Tryz.underlying74 Tryz.underlying75 Tryz.underlying76 Tryz.underlying77 Tryz.underlying78 Tryz.underlying79 Tryz.underlying80 Tryz.underlying81 Tryz.underlying82 Tryz.underlying83 Tryz.underlying84 Tryz.underlying85 Tryz.underlying86 Tryz.underlying87 Tryz.underlying88 Tryz.underlying89 Tryz.underlying90 Tryz.underlying91 Tryz.underlying92 Tryz.underlying93 Tryz.underlying94 Tryz.underlying95 Tryz.underlying96 Tryz.underlying97 Tryz.underlying98 Tryz.underlying99 Tryz.underlying100 Tryz.underlying101 Tryz.underlying102 Tryz.underlying103 Tryz.underlying104 Tryz.underlying105 Tryz.underlying106 Tryz.underlying107 Tryz.underlying108 Tryz.underlying109 Tryz.underlying110 Tryz.underlying111 Tryz.underlying112 Tryz.underlying113 Tryz.underlying114 Tryz.underlying115 Tryz.underlying116 Tryz.underlying117 Tryz.underlying118 Tryz.underlying119 Tryz.underlying120 Tryz.underlying121 Tryz.underlying122 Tryz.underlying123 Tryz.underlying124 Tryz.underlying125 Tryz.underlying126 Tryz.underlying127 Tryz.underlying128 Tryz.underlying129 Tryz.underlying130 Tryz.underlying131 Tryz.underlying132 Tryz.underlying133 Tryz.underlying134 Tryz.underlying135 Tryz.underlying136 Tryz.underlying137 Tryz.underlying138 Tryz.underlying139 Tryz.underlying140 Tryz.underlying141 Tryz.underlying142 Tryz.underlying143 Tryz.underlying144 Tryz.underlying145 Tryz.underlying146 Tryz.underlying147 Tryz.underlying148 Tryz.underlying149 Tryz.underlying150 Tryz.underlying151 Tryz.underlying152 Tryz.underlying153 Tryz.underlying154 Tryz.underlying155 Tryz.underlying156 Tryz.underlying157 Tryz.underlying158 Tryz.underlying159 Tryz.underlying160 Tryz.underlying161 Tryz.underlying162 Tryz.underlying163 Tryz.underlying164 Tryz.underlying165 Tryz.underlying166 Tryz.underlying167 Tryz.underlying168 Tryz.underlying169 Tryz.underlying170 Tryz.underlying171 Tryz.underlying172 Tryz.underlying173 Tryz.underlying174 Tryz.underlying175 Tryz.underlying176 Tryz.underlying177 Tryz.underlying178 Tryz.underlying179 Tryz.underlying180 Tryz.underlying181 Tryz.underlying182 Tryz.underlying183 Tryz.underlying184 Tryz.underlying185 Tryz.underlying186 Tryz.underlying187 Tryz.underlying188 Tryz.underlying189 Tryz.underlying190 Tryz.underlying191 Tryz.underlying192 Tryz.underlying193 Tryz.underlying194 Tryz.underlying195 Tryz.underlying196 Tryz.underlying197 Tryz.underlying198 Tryz.underlying199 Tryz.underlying200 Tryz.underlying201 Tryz.underlying202 Tryz.underlying203 Tryz.underlying204 Tryz.underlying205 Tryz.underlying206 Tryz.underlying207 Tryz.underlying208 Tryz.underlying209 Tryz.underlying210 Tryz.underlying211 Tryz.underlying212 Tryz.underlying213 Tryz.underlying214 Tryz.underlying215 Tryz.underlying216 Tryz.underlying217 Tryz.underlying218 Tryz.underlying219 Tryz.underlying220 Tryz.underlying221 Tryz.underlying222 Tryz.underlying223 Tryz.underlying224 Tryz.underlying225 Tryz.underlying226 Tryz.underlying227 Tryz.underlying228 Tryz.underlying229 Tryz.underlying230 Tryz.underlying231 Tryz.underlying232 Tryz.underlying233 Tryz.underlying234 Tryz.underlying235 Tryz.underlying236 Tryz.underlying237 Tryz.underlying238 Tryz.underlying239 Tryz.underlying240 Tryz.underlying241 Tryz.underlying242 Tryz.underlying243 Tryz.underlying244 Tryz.underlying245 Tryz.underlying246 Tryz.underlying247 Tryz.underlying248 Tryz.underlying249 Tryz.underlying250 Tryz.underlying251 Tryz.underlying252 Tryz.underlying253 Tryz.underlying254 Tryz.underlying255 Tryz.underlying256
@[go_sem] theorem Tryz.xio2:Tryz.prog.ioF 2=false:=by kernel_rfl
@[go_sem] theorem Tryz.xio3:Tryz.prog.ioF 3=false:=by kernel_rfl
theorem Tryz.xen3:Tryz.prog.enters 3=true:=by kernel_rfl
@[go_sem] theorem Tryz.xio4:Tryz.prog.ioF 4=false:=by kernel_rfl
@[go_sem] theorem Tryz.xio5:Tryz.prog.ioF 5=false:=by kernel_rfl
@[go_sem] theorem Tryz.xio6:Tryz.prog.ioF 6=false:=by kernel_rfl
theorem Tryz.xen6:Tryz.prog.enters 6=true:=by kernel_rfl
@[go_sem] theorem Tryz.xio7:Tryz.prog.ioF 7=false:=by kernel_rfl
theorem Tryz.xen7:Tryz.prog.enters 7=true:=by kernel_rfl
@[go_sem] theorem Tryz.xio8:Tryz.prog.ioF 8=false:=by kernel_rfl
@[go_sem] theorem Tryz.xio9:Tryz.prog.ioF 9=false:=by kernel_rfl
theorem Tryz.xen9:Tryz.prog.enters 9=true:=by kernel_rfl
@[go_sem] theorem Tryz.xio10:Tryz.prog.ioF 10=false:=by kernel_rfl
theorem Tryz.xen10:Tryz.prog.enters 10=true:=by kernel_rfl
@[go_sem] theorem Tryz.xio11:Tryz.prog.ioF 11=false:=by kernel_rfl
@[go_sem] theorem Tryz.xio12:Tryz.prog.ioF 12=false:=by kernel_rfl
@[go_sem] theorem Tryz.xio13:Tryz.prog.ioF 13=false:=by kernel_rfl
theorem Tryz.xen13:Tryz.prog.enters 13=true:=by kernel_rfl
@[go_sem] theorem Tryz.xio14:Tryz.prog.ioF 14=false:=by kernel_rfl
theorem Tryz.xen14:Tryz.prog.enters 14=true:=by kernel_rfl
@[go_sem] theorem Tryz.xio15:Tryz.prog.ioF 15=false:=by kernel_rfl
theorem Tryz.xen15:Tryz.prog.enters 15=true:=by kernel_rfl
@[go_sem] theorem Tryz.xio16:Tryz.prog.ioF 16=false:=by kernel_rfl
theorem Tryz.xen16:Tryz.prog.enters 16=true:=by kernel_rfl
@[go_sem] theorem Tryz.xio17:Tryz.prog.ioF 17=false:=by kernel_rfl
theorem Tryz.xen17:Tryz.prog.enters 17=true:=by kernel_rfl
@[go_sem] theorem Tryz.xio18:Tryz.prog.ioF 18=false:=by kernel_rfl
theorem Tryz.xen18:Tryz.prog.enters 18=true:=by kernel_rfl
@[go_sem] theorem Tryz.xio19:Tryz.prog.ioF 19=false:=by kernel_rfl
theorem Tryz.xen19:Tryz.prog.enters 19=true:=by kernel_rfl
@[go_sem] theorem Tryz.xio20:Tryz.prog.ioF 20=false:=by kernel_rfl
theorem Tryz.xen20:Tryz.prog.enters 20=true:=by kernel_rfl
@[go_sem] theorem Tryz.xio21:Tryz.prog.ioF 21=false:=by kernel_rfl
theorem Tryz.xen21:Tryz.prog.enters 21=true:=by kernel_rfl
@[go_sem] theorem Tryz.xio22:Tryz.prog.ioF 22=false:=by kernel_rfl
@[go_sem] theorem Tryz.xio23:Tryz.prog.ioF 23=false:=by kernel_rfl
@[go_sem] theorem Tryz.xio24:Tryz.prog.ioF 24=false:=by kernel_rfl
theorem Tryz.xen24:Tryz.prog.enters 24=true:=by kernel_rfl
@[go_sem] theorem Tryz.xio25:Tryz.prog.ioF 25=true:=by kernel_rfl
theorem Tryz.xen25:Tryz.prog.enters 25=true:=by kernel_rfl
@[go_sem] theorem Tryz.xio26:Tryz.prog.ioF 26=true:=by kernel_rfl
theorem Tryz.xen26:Tryz.prog.enters 26=true:=by kernel_rfl
@[go_sem] theorem Tryz.xio27:Tryz.prog.ioF 27=false:=by kernel_rfl
theorem Tryz.xen27:Tryz.prog.enters 27=true:=by kernel_rfl
@[go_sem] theorem Tryz.xio28:Tryz.prog.ioF 28=false:=by kernel_rfl
theorem Tryz.xen28:Tryz.prog.enters 28=true:=by kernel_rfl
@[go_sem] theorem Tryz.xio29:Tryz.prog.ioF 29=true:=by kernel_rfl
theorem Tryz.xen29:Tryz.prog.enters 29=true:=by kernel_rfl
@[go_sem] theorem Tryz.xio30:Tryz.prog.ioF 30=false:=by kernel_rfl
theorem Tryz.xen30:Tryz.prog.enters 30=true:=by kernel_rfl
@[go_sem] theorem Tryz.xio31:Tryz.prog.ioF 31=false:=by kernel_rfl
theorem Tryz.xen31:Tryz.prog.enters 31=true:=by kernel_rfl
@[go_sem] theorem Tryz.xio32:Tryz.prog.ioF 32=false:=by kernel_rfl
theorem Tryz.xen32:Tryz.prog.enters 32=true:=by kernel_rfl
@[go_sem] theorem Tryz.xio33:Tryz.prog.ioF 33=false:=by kernel_rfl
theorem Tryz.xen33:Tryz.prog.enters 33=true:=by kernel_rfl
@[go_sem] theorem Tryz.xio34:Tryz.prog.ioF 34=false:=by kernel_rfl
@[go_sem] theorem Tryz.xio35:Tryz.prog.ioF 35=true:=by kernel_rfl
@[go_sem] theorem Tryz.xio36:Tryz.prog.ioF 36=true:=by kernel_rfl
@[go_sem] theorem Tryz.xio37:Tryz.prog.ioF 37=true:=by kernel_rfl
@[go_sem] theorem Tryz.xio38:Tryz.prog.ioF 38=false:=by kernel_rfl
theorem Tryz.xen38:Tryz.prog.enters 38=true:=by kernel_rfl
@[go_sem] theorem Tryz.xio39:Tryz.prog.ioF 39=false:=by kernel_rfl
theorem Tryz.xen39:Tryz.prog.enters 39=true:=by kernel_rfl
@[go_sem] theorem Tryz.xio40:Tryz.prog.ioF 40=false:=by kernel_rfl
theorem Tryz.xen40:Tryz.prog.enters 40=true:=by kernel_rfl
@[go_sem] theorem Tryz.xio41:Tryz.prog.ioF 41=false:=by kernel_rfl
theorem Tryz.xen41:Tryz.prog.enters 41=true:=by kernel_rfl
@[go_sem] theorem Tryz.xio42:Tryz.prog.ioF 42=false:=by kernel_rfl
theorem Tryz.xen42:Tryz.prog.enters 42=true:=by kernel_rfl
@[go_sem] theorem Tryz.xio43:Tryz.prog.ioF 43=false:=by kernel_rfl
theorem Tryz.xen43:Tryz.prog.enters 43=true:=by kernel_rfl
@[go_sem] theorem Tryz.xio44:Tryz.prog.ioF 44=false:=by kernel_rfl
theorem Tryz.xen44:Tryz.prog.enters 44=true:=by kernel_rfl
@[go_sem] theorem Tryz.xio45:Tryz.prog.ioF 45=false:=by kernel_rfl
theorem Tryz.xen45:Tryz.prog.enters 45=true:=by kernel_rfl
@[go_sem] theorem Tryz.xio46:Tryz.prog.ioF 46=false:=by kernel_rfl
theorem Tryz.xen46:Tryz.prog.enters 46=true:=by kernel_rfl
@[go_sem] theorem Tryz.xio47:Tryz.prog.ioF 47=false:=by kernel_rfl
theorem Tryz.xen47:Tryz.prog.enters 47=true:=by kernel_rfl
@[go_sem] theorem Tryz.xio48:Tryz.prog.ioF 48=false:=by kernel_rfl
theorem Tryz.xen48:Tryz.prog.enters 48=true:=by kernel_rfl
@[go_sem] theorem Tryz.xio49:Tryz.prog.ioF 49=false:=by kernel_rfl
theorem Tryz.xen49:Tryz.prog.enters 49=true:=by kernel_rfl
@[go_sem] theorem Tryz.xio50:Tryz.prog.ioF 50=false:=by kernel_rfl
theorem Tryz.xen50:Tryz.prog.enters 50=true:=by kernel_rfl
@[go_sem] theorem Tryz.xio51:Tryz.prog.ioF 51=false:=by kernel_rfl
theorem Tryz.xen51:Tryz.prog.enters 51=true:=by kernel_rfl
@[go_sem] theorem Tryz.xio52:Tryz.prog.ioF 52=true:=by kernel_rfl
theorem Tryz.xen52:Tryz.prog.enters 52=true:=by kernel_rfl
@[go_sem] theorem Tryz.xio53:Tryz.prog.ioF 53=false:=by kernel_rfl
theorem Tryz.xen53:Tryz.prog.enters 53=true:=by kernel_rfl
@[go_sem] theorem Tryz.xio54:Tryz.prog.ioF 54=false:=by kernel_rfl
theorem Tryz.xen54:Tryz.prog.enters 54=true:=by kernel_rfl
@[go_sem] theorem Tryz.xio55:Tryz.prog.ioF 55=false:=by kernel_rfl
theorem Tryz.xen55:Tryz.prog.enters 55=true:=by kernel_rfl
@[go_sem] theorem Tryz.xio56:Tryz.prog.ioF 56=false:=by kernel_rfl
theorem Tryz.xen56:Tryz.prog.enters 56=true:=by kernel_rfl
@[go_sem] theorem Tryz.xio57:Tryz.prog.ioF 57=false:=by kernel_rfl
theorem Tryz.xen57:Tryz.prog.enters 57=true:=by kernel_rfl
@[go_sem] theorem Tryz.xio58:Tryz.prog.ioF 58=false:=by kernel_rfl
theorem Tryz.xen58:Tryz.prog.enters 58=true:=by kernel_rfl
@[go_sem] theorem Tryz.xio59:Tryz.prog.ioF 59=false:=by kernel_rfl
theorem Tryz.xen59:Tryz.prog.enters 59=true:=by kernel_rfl
@[go_sem] theorem Tryz.xio60:Tryz.prog.ioF 60=false:=by kernel_rfl
theorem Tryz.xen60:Tryz.prog.enters 60=true:=by kernel_rfl
@[go_sem] theorem Tryz.xio61:Tryz.prog.ioF 61=false:=by kernel_rfl
theorem Tryz.xen61:Tryz.prog.enters 61=true:=by kernel_rfl
@[go_sem] theorem Tryz.xio62:Tryz.prog.ioF 62=true:=by kernel_rfl
theorem Tryz.xen62:Tryz.prog.enters 62=true:=by kernel_rfl
@[go_sem] theorem Tryz.xio63:Tryz.prog.ioF 63=true:=by kernel_rfl
@[go_sem] theorem Tryz.xio64:Tryz.prog.ioF 64=true:=by kernel_rfl
@[go_sem] theorem Tryz.xio65:Tryz.prog.ioF 65=false:=by kernel_rfl
theorem Tryz.xen65:Tryz.prog.enters 65=true:=by kernel_rfl
@[go_sem] theorem Tryz.xio66:Tryz.prog.ioF 66=false:=by kernel_rfl
theorem Tryz.xen66:Tryz.prog.enters 66=true:=by kernel_rfl
@[go_sem] theorem Tryz.xio67:Tryz.prog.ioF 67=false:=by kernel_rfl
theorem Tryz.xen67:Tryz.prog.enters 67=true:=by kernel_rfl
@[go_sem] theorem Tryz.xio68:Tryz.prog.ioF 68=false:=by kernel_rfl
theorem Tryz.xen68:Tryz.prog.enters 68=true:=by kernel_rfl
@[go_sem] theorem Tryz.xio69:Tryz.prog.ioF 69=false:=by kernel_rfl
theorem Tryz.xen69:Tryz.prog.enters 69=true:=by kernel_rfl
@[go_sem] theorem Tryz.xio70:Tryz.prog.ioF 70=false:=by kernel_rfl
theorem Tryz.xen70:Tryz.prog.enters 70=true:=by kernel_rfl
@[go_sem] theorem Tryz.xio71:Tryz.prog.ioF 71=false:=by kernel_rfl
theorem Tryz.xen71:Tryz.prog.enters 71=true:=by kernel_rfl
@[go_sem] theorem Tryz.xio72:Tryz.prog.ioF 72=false:=by kernel_rfl
theorem Tryz.xen72:Tryz.prog.enters 72=true:=by kernel_rfl
@[go_sem] theorem Tryz.xio73:Tryz.prog.ioF 73=false:=by kernel_rfl
theorem Tryz.xen73:Tryz.prog.enters 73=true:=by kernel_rfl
@[go_sem] theorem Tryz.xio74:Tryz.prog.ioF 74=false:=by kernel_rfl
theorem Tryz.xen74:Tryz.prog.enters 74=true:=by kernel_rfl
@[go_sem] theorem Tryz.xio75:Tryz.prog.ioF 75=false:=by kernel_rfl
theorem Tryz.xen75:Tryz.prog.enters 75=true:=by kernel_rfl
@[go_sem] theorem Tryz.xio76:Tryz.prog.ioF 76=false:=by kernel_rfl
theorem Tryz.xen76:Tryz.prog.enters 76=true:=by kernel_rfl
@[go_sem] theorem Tryz.xio77:Tryz.prog.ioF 77=false:=by kernel_rfl
theorem Tryz.xen77:Tryz.prog.enters 77=true:=by kernel_rfl
@[go_sem] theorem Tryz.xio78:Tryz.prog.ioF 78=false:=by kernel_rfl
theorem Tryz.xen78:Tryz.prog.enters 78=true:=by kernel_rfl
@[go_sem] theorem Tryz.xio79:Tryz.prog.ioF 79=false:=by kernel_rfl
theorem Tryz.xen79:Tryz.prog.enters 79=true:=by kernel_rfl
@[go_sem] theorem Tryz.xio80:Tryz.prog.ioF 80=false:=by kernel_rfl
theorem Tryz.xen80:Tryz.prog.enters 80=true:=by kernel_rfl
@[go_sem] theorem Tryz.xio81:Tryz.prog.ioF 81=false:=by kernel_rfl
theorem Tryz.xen81:Tryz.prog.enters 81=true:=by kernel_rfl
@[go_sem] theorem Tryz.xio82:Tryz.prog.ioF 82=false:=by kernel_rfl
theorem Tryz.xen82:Tryz.prog.enters 82=true:=by kernel_rfl
@[go_sem] theorem Tryz.xio83:Tryz.prog.ioF 83=false:=by kernel_rfl
theorem Tryz.xen83:Tryz.prog.enters 83=true:=by kernel_rfl
@[go_sem] theorem Tryz.xio84:Tryz.prog.ioF 84=false:=by kernel_rfl
theorem Tryz.xen84:Tryz.prog.enters 84=true:=by kernel_rfl
@[go_sem] theorem Tryz.xio85:Tryz.prog.ioF 85=false:=by kernel_rfl
theorem Tryz.xen85:Tryz.prog.enters 85=true:=by kernel_rfl
@[go_sem] theorem Tryz.xio86:Tryz.prog.ioF 86=false:=by kernel_rfl
theorem Tryz.xen86:Tryz.prog.enters 86=true:=by kernel_rfl
@[go_sem] theorem Tryz.xio87:Tryz.prog.ioF 87=false:=by kernel_rfl
theorem Tryz.xen87:Tryz.prog.enters 87=true:=by kernel_rfl
@[go_sem] theorem Tryz.xio88:Tryz.prog.ioF 88=true:=by kernel_rfl
theorem Tryz.xen88:Tryz.prog.enters 88=true:=by kernel_rfl
@[go_sem] theorem Tryz.xio89:Tryz.prog.ioF 89=false:=by kernel_rfl
theorem Tryz.xen89:Tryz.prog.enters 89=true:=by kernel_rfl
@[go_sem] theorem Tryz.xio90:Tryz.prog.ioF 90=false:=by kernel_rfl
theorem Tryz.xen90:Tryz.prog.enters 90=true:=by kernel_rfl
@[go_sem] theorem Tryz.xio91:Tryz.prog.ioF 91=false:=by kernel_rfl
theorem Tryz.xen91:Tryz.prog.enters 91=true:=by kernel_rfl
@[go_sem] theorem Tryz.xio92:Tryz.prog.ioF 92=false:=by kernel_rfl
theorem Tryz.xen92:Tryz.prog.enters 92=true:=by kernel_rfl
@[go_sem] theorem Tryz.xio93:Tryz.prog.ioF 93=false:=by kernel_rfl
theorem Tryz.xen93:Tryz.prog.enters 93=true:=by kernel_rfl
@[go_sem] theorem Tryz.xio94:Tryz.prog.ioF 94=false:=by kernel_rfl
theorem Tryz.xen94:Tryz.prog.enters 94=true:=by kernel_rfl
@[go_sem] theorem Tryz.xio95:Tryz.prog.ioF 95=false:=by kernel_rfl
theorem Tryz.xen95:Tryz.prog.enters 95=true:=by kernel_rfl
@[go_sem] theorem Tryz.xio96:Tryz.prog.ioF 96=false:=by kernel_rfl
theorem Tryz.xen96:Tryz.prog.enters 96=true:=by kernel_rfl
@[go_sem] theorem Tryz.xio97:Tryz.prog.ioF 97=false:=by kernel_rfl
theorem Tryz.xen97:Tryz.prog.enters 97=true:=by kernel_rfl
@[go_sem] theorem Tryz.xio98:Tryz.prog.ioF 98=false:=by kernel_rfl
theorem Tryz.xen98:Tryz.prog.enters 98=true:=by kernel_rfl
@[go_sem] theorem Tryz.xio99:Tryz.prog.ioF 99=false:=by kernel_rfl
theorem Tryz.xen99:Tryz.prog.enters 99=true:=by kernel_rfl
@[go_sem] theorem Tryz.xio100:Tryz.prog.ioF 100=true:=by kernel_rfl
@[go_sem] theorem Tryz.xio101:Tryz.prog.ioF 101=true:=by kernel_rfl
@[go_sem] theorem Tryz.xio102:Tryz.prog.ioF 102=false:=by kernel_rfl
theorem Tryz.xen102:Tryz.prog.enters 102=true:=by kernel_rfl
@[go_sem] theorem Tryz.xio103:Tryz.prog.ioF 103=true:=by kernel_rfl
@[go_sem] theorem Tryz.xio104:Tryz.prog.ioF 104=true:=by kernel_rfl
@[go_sem] theorem Tryz.xio105:Tryz.prog.ioF 105=false:=by kernel_rfl
theorem Tryz.xen105:Tryz.prog.enters 105=true:=by kernel_rfl
@[go_sem] theorem Tryz.xio106:Tryz.prog.ioF 106=false:=by kernel_rfl
theorem Tryz.xen106:Tryz.prog.enters 106=true:=by kernel_rfl
@[go_sem] theorem Tryz.xio107:Tryz.prog.ioF 107=false:=by kernel_rfl
theorem Tryz.xen107:Tryz.prog.enters 107=true:=by kernel_rfl
@[go_sem] theorem Tryz.xio108:Tryz.prog.ioF 108=false:=by kernel_rfl
theorem Tryz.xen108:Tryz.prog.enters 108=true:=by kernel_rfl
@[go_sem] theorem Tryz.xio109:Tryz.prog.ioF 109=true:=by kernel_rfl
theorem Tryz.xen109:Tryz.prog.enters 109=true:=by kernel_rfl
@[go_sem] theorem Tryz.xio110:Tryz.prog.ioF 110=false:=by kernel_rfl
theorem Tryz.xen110:Tryz.prog.enters 110=true:=by kernel_rfl
@[go_sem] theorem Tryz.xio111:Tryz.prog.ioF 111=false:=by kernel_rfl
theorem Tryz.xen111:Tryz.prog.enters 111=true:=by kernel_rfl
@[go_sem] theorem Tryz.xio112:Tryz.prog.ioF 112=false:=by kernel_rfl
theorem Tryz.xen112:Tryz.prog.enters 112=true:=by kernel_rfl
@[go_sem] theorem Tryz.xio113:Tryz.prog.ioF 113=false:=by kernel_rfl
theorem Tryz.xen113:Tryz.prog.enters 113=true:=by kernel_rfl
@[go_sem] theorem Tryz.xio114:Tryz.prog.ioF 114=false:=by kernel_rfl
theorem Tryz.xen114:Tryz.prog.enters 114=true:=by kernel_rfl
@[go_sem] theorem Tryz.xio115:Tryz.prog.ioF 115=false:=by kernel_rfl
theorem Tryz.xen115:Tryz.prog.enters 115=true:=by kernel_rfl
@[go_sem] theorem Tryz.xio116:Tryz.prog.ioF 116=false:=by kernel_rfl
theorem Tryz.xen116:Tryz.prog.enters 116=true:=by kernel_rfl
@[go_sem] theorem Tryz.xio117:Tryz.prog.ioF 117=true:=by kernel_rfl
theorem Tryz.xen117:Tryz.prog.enters 117=true:=by kernel_rfl
@[go_sem] theorem Tryz.xio118:Tryz.prog.ioF 118=false:=by kernel_rfl
theorem Tryz.xen118:Tryz.prog.enters 118=true:=by kernel_rfl
@[go_sem] theorem Tryz.xio119:Tryz.prog.ioF 119=false:=by kernel_rfl
theorem Tryz.xen119:Tryz.prog.enters 119=true:=by kernel_rfl
@[go_sem] theorem Tryz.xio120:Tryz.prog.ioF 120=false:=by kernel_rfl
theorem Tryz.xen120:Tryz.prog.enters 120=true:=by kernel_rfl
@[go_sem] theorem Tryz.xio121:Tryz.prog.ioF 121=false:=by kernel_rfl
theorem Tryz.xen121:Tryz.prog.enters 121=true:=by kernel_rfl
@[go_sem] theorem Tryz.xio122:Tryz.prog.ioF 122=false:=by kernel_rfl
theorem Tryz.xen122:Tryz.prog.enters 122=true:=by kernel_rfl
@[go_sem] theorem Tryz.xio123:Tryz.prog.ioF 123=false:=by kernel_rfl
theorem Tryz.xen123:Tryz.prog.enters 123=true:=by kernel_rfl
@[go_sem] theorem Tryz.xio124:Tryz.prog.ioF 124=false:=by kernel_rfl
@[go_sem] theorem Tryz.xio125:Tryz.prog.ioF 125=false:=by kernel_rfl
theorem Tryz.xen125:Tryz.prog.enters 125=true:=by kernel_rfl
@[go_sem] theorem Tryz.xio126:Tryz.prog.ioF 126=false:=by kernel_rfl
theorem Tryz.xen126:Tryz.prog.enters 126=true:=by kernel_rfl
@[go_sem] theorem Tryz.xio127:Tryz.prog.ioF 127=true:=by kernel_rfl
theorem Tryz.xen127:Tryz.prog.enters 127=true:=by kernel_rfl
@[go_sem] theorem Tryz.xio128:Tryz.prog.ioF 128=false:=by kernel_rfl
@[go_sem] theorem Tryz.xio129:Tryz.prog.ioF 129=false:=by kernel_rfl
@[go_sem] theorem Tryz.xio130:Tryz.prog.ioF 130=false:=by kernel_rfl
@[go_sem] theorem Tryz.xio131:Tryz.prog.ioF 131=false:=by kernel_rfl
theorem Tryz.xen131:Tryz.prog.enters 131=true:=by kernel_rfl
@[go_sem] theorem Tryz.xio132:Tryz.prog.ioF 132=true:=by kernel_rfl
@[go_sem] theorem Tryz.xio133:Tryz.prog.ioF 133=false:=by kernel_rfl
@[go_sem] theorem Tryz.xio134:Tryz.prog.ioF 134=false:=by kernel_rfl
@[go_sem] theorem Tryz.xio135:Tryz.prog.ioF 135=false:=by kernel_rfl
@[go_sem] theorem Tryz.xio136:Tryz.prog.ioF 136=false:=by kernel_rfl
@[go_sem] theorem Tryz.xio137:Tryz.prog.ioF 137=false:=by kernel_rfl
@[go_sem] theorem Tryz.xio138:Tryz.prog.ioF 138=false:=by kernel_rfl
@[go_sem] theorem Tryz.xio139:Tryz.prog.ioF 139=false:=by kernel_rfl
@[go_sem] theorem Tryz.xio140:Tryz.prog.ioF 140=false:=by kernel_rfl
@[go_sem] theorem Tryz.xio141:Tryz.prog.ioF 141=false:=by kernel_rfl
@[go_sem] theorem Tryz.xio142:Tryz.prog.ioF 142=false:=by kernel_rfl
@[go_sem] theorem Tryz.xio143:Tryz.prog.ioF 143=false:=by kernel_rfl
@[go_sem] theorem Tryz.xio144:Tryz.prog.ioF 144=false:=by kernel_rfl
@[go_sem] theorem Tryz.xio145:Tryz.prog.ioF 145=false:=by kernel_rfl
@[go_sem] theorem Tryz.xio146:Tryz.prog.ioF 146=false:=by kernel_rfl
@[go_sem] theorem Tryz.xio147:Tryz.prog.ioF 147=false:=by kernel_rfl
@[go_sem] theorem Tryz.xio148:Tryz.prog.ioF 148=false:=by kernel_rfl
@[go_sem] theorem Tryz.xio149:Tryz.prog.ioF 149=true:=by kernel_rfl
@[go_sem] theorem Tryz.xio150:Tryz.prog.ioF 150=true:=by kernel_rfl
@[go_sem] theorem Tryz.xio151:Tryz.prog.ioF 151=true:=by kernel_rfl
@[go_sem] theorem Tryz.xio152:Tryz.prog.ioF 152=false:=by kernel_rfl
@[go_sem] theorem Tryz.xio153:Tryz.prog.ioF 153=true:=by kernel_rfl
@[go_sem] theorem Tryz.xio162:Tryz.prog.ioF 162=true:=by kernel_rfl
@[go_sem] theorem Tryz.xio163:Tryz.prog.ioF 163=true:=by kernel_rfl
@[go_sem] theorem Tryz.xio164:Tryz.prog.ioF 164=true:=by kernel_rfl
@[go_sem] theorem Tryz.xio165:Tryz.prog.ioF 165=true:=by kernel_rfl
@[go_sem] theorem Tryz.xio166:Tryz.prog.ioF 166=true:=by kernel_rfl
@[go_sem] theorem Tryz.xio171:Tryz.prog.ioF 171=true:=by kernel_rfl
end Go.Proofs.YtjmoncjecpckhaaGreat
