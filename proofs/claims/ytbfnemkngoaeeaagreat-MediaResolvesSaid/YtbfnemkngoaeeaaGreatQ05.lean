/- Proved here: Sources, clips, tracks and expressions as plain data, and how they lie in cells. -/
import Derived.Test.YtbfnemkngoaeeaaGreatQ04
import Derived.Test.YtbfnemkngoaeeaaGreatProg
import Derived.Lib.AppendZeros
import Derived.Shelf.RegionOpenPlain
import Derived.Shelf.SlIter.Nil
import Derived.Shelf.SortM.Plain
import Derived.Shelf.SortM.SortNone
set_option linter.unusedSimpArgs false
set_option linter.unusedVariables false
set_option linter.unnecessarySimpa false
namespace Go.Proofs.YtbfnemkngoaeeaaGreat
open Go.RowKit
set_option maxRecDepth 4000
theorem bxx:(∀ (p:Prop) [Decidable p],(decide p=true)=p)∧(∀ (p:Prop) [Decidable p],(decide p=false) ↔ ¬p)∧(∀ (α : Type) [BEq α] [LawfulBEq α] (a b : α),((a==b)=true) ↔ a=b)∧(∀ (α : Type) [BEq α] [LawfulBEq α] (a b : α),((a != b)=true) ↔ a≠b)∧(∀ (α : Sort 1) (a b : α),(a≠b) = ¬(a=b))∧(∀ (α : Type) [BEq α] [LawfulBEq α] (a b : α),((a==b)=false) ↔ a≠b)∧(∀ b:Bool,((!b)=true)=(b=false))∧(∀ b:Bool,(¬(b=true))=(b=false))∧(∀ b:Bool,((!b)=false)=(b=true))∧(∀ a b:Bool,((a||b)=true)=(a=true∨b=true))∧(∀ a b:Bool,((a&&b)=true)=(a=true∧b=true))∧(∀ a b:Bool,((a||b)=false)=(a=false∧b=false))∧(∀ a b:Bool,((a&&b)=false)=(a=false∨b=false))∧((false=true)=False)∧(∀ a b:Bool,((!a)=b)=(a = !b))∧((!true)=false)∧((!false)=true) :=
 ⟨fun _ _=>decide_eq_true_eq,fun _ _=>decide_eq_false_iff_not,fun _ _ _ _ _=>beq_iff_eq,fun _ _ _ _ _=>bne_iff_ne,fun _ _ _=>rfl,fun _ _ _ _ _=>beq_eq_false_iff_ne,by decide,by decide,by decide,by decide,by decide,by decide,by decide,by decide,by decide,rfl,rfl⟩
theorem dtf:(∀ h:Decidable True,@decide True h=true)∧(∀ h:Decidable False,@decide False h=false):=⟨fun h=>decide_true h,fun h=>decide_false h⟩
theorem bff:(∀ b:Bool,(b||false)=b)∧(∀ b:Bool,(false||b)=b)∧(∀ b:Bool,(b||true)=true)∧(∀ b:Bool,(true||b)=true)∧(∀ b:Bool,(b&&true)=b)∧(∀ b:Bool,(true&&b)=b)∧(∀ b:Bool,(b&&false)=false)∧(∀ b:Bool,(false&&b)=false):=⟨Bool.or_false,Bool.false_or,Bool.or_true,Bool.true_or,Bool.and_true,Bool.true_and,Bool.and_false,Bool.false_and⟩
abbrev ti (n:Int):T := .lit (.int .i64 n)
abbrev tu (n:Int):T := .lit (.int .u64 n)
abbrev gN (s:ByteArray):T := .lit (.string s)
abbrev tbl (b:Bool):T := .lit (.bool b)
abbrev yF (n:Int):V := .t (.lit (.int .u64 n))
def Cj (n:Int):List T:=[ti n]
def jJ (s:ByteArray):List T:=[gN s]
@[go_sem] abbrev bY (l:List Int):T := .list 1 (Cj 0) (l.map Cj)
@[go_sem] abbrev xY (l:List ByteArray):T := .list 1 (jJ ⟨#[]⟩) (l.map jJ)
@[go_sem] theorem intC_t (n:Int):(Cj n).map V.t = [aC n]:=rfl
@[go_sem] theorem strC_t (n:ByteArray):(jJ n).map V.t = [bT n]:=rfl
@[go_sem] theorem intC_l (n:Int):(Cj n).length=1:=rfl
@[go_sem] theorem strC_l (n:ByteArray):(jJ n).length=1:=rfl
structure RatR where
 num:Int
 den:Int
 deriving Inhabited
structure SourceR where
 kind:Int
 name:ByteArray
 pos:RatR
 speed:RatR
 smooth:Bool
 deriving Inhabited
structure ClipR where
 len:Int
 kind:Int
 a:SourceR
 b:SourceR
 off:Int
 total:Int
 param:Int
 text:ByteArray
 gain:Int
 chan:List Int
 deriving Inhabited
def RatR.c (r:RatR):List T:=[ti r.num,ti r.den]
def SourceR.c (s:SourceR):List T:=[ti s.kind,gN s.name,ti s.pos.num,ti s.pos.den,ti s.speed.num,ti s.speed.den,tbl s.smooth]
def ClipR.c (c:ClipR):List T:=[ti c.len,ti c.kind,ti c.a.kind,gN c.a.name,ti c.a.pos.num,ti c.a.pos.den,ti c.a.speed.num,ti c.a.speed.den,tbl c.a.smooth,
 ti c.b.kind,gN c.b.name,ti c.b.pos.num,ti c.b.pos.den,ti c.b.speed.num,ti c.b.speed.den,tbl c.b.smooth,ti c.off,ti c.total,ti c.param,gN c.text,ti c.gain,bY c.chan]
abbrev Zf (r:RatR):V := .agg [aC r.num,aC r.den]
abbrev wK (s:SourceR):V := .agg [aC s.kind,bT s.name,aC s.pos.num,aC s.pos.den,aC s.speed.num,aC s.speed.den,aT s.smooth]
abbrev pN (c:ClipR):V := .agg [aC c.len,aC c.kind,aC c.a.kind,bT c.a.name,aC c.a.pos.num,aC c.a.pos.den,aC c.a.speed.num,aC c.a.speed.den,aT c.a.smooth,
 aC c.b.kind,bT c.b.name,aC c.b.pos.num,aC c.b.pos.den,aC c.b.speed.num,aC c.b.speed.den,aT c.b.smooth,aC c.off,aC c.total,aC c.param,bT c.text,aC c.gain, .t (bY c.chan)]
@[go_sem] theorem RatR.ct (r:RatR):(RatR.c r).map V.t = [aC r.num,aC r.den]:=rfl
@[go_sem] theorem SourceR.ct (s:SourceR):(SourceR.c s).map V.t = [aC s.kind,bT s.name,aC s.pos.num,aC s.pos.den,aC s.speed.num,aC s.speed.den,aT s.smooth]:=rfl
@[go_sem] theorem ClipR.ct (c:ClipR):(ClipR.c c).map V.t = [aC c.len,aC c.kind,aC c.a.kind,bT c.a.name,aC c.a.pos.num,aC c.a.pos.den,aC c.a.speed.num,aC c.a.speed.den,aT c.a.smooth,
 aC c.b.kind,bT c.b.name,aC c.b.pos.num,aC c.b.pos.den,aC c.b.speed.num,aC c.b.speed.den,aT c.b.smooth,aC c.off,aC c.total,aC c.param,bT c.text,aC c.gain, .t (bY c.chan)]:=rfl
@[go_sem] theorem RatR.cl (r:RatR):(RatR.c r).length=2:=rfl
@[go_sem] theorem SourceR.cl (r:SourceR):(SourceR.c r).length=7:=rfl
@[go_sem] theorem ClipR.cl (r:ClipR):(ClipR.c r).length=22:=rfl
@[go_sem] abbrev jX (l:List ClipR):T := .list 22 (ClipR.c default) (l.map ClipR.c)
theorem aK {α : Type} [Inhabited α] {xs:List α} {k:Nat} (h:k<xs.length):xs.getD k default=xs[k]:=by simp [List.getD_eq_getElem?_getD,h]
theorem brW {B b:Bool} {A C:Prop} (h:B=b) (k:(b=true→A)∧(b=false→C)):(B=true→A)∧(B=false→C):=by rw [h];exact k
theorem nt {b:Bool} (h:(!b)=true):b=false:=by cases b<;>simp_all
theorem nf {b:Bool} (h:(!b)=false):b=true:=by cases b<;>simp_all
@[go_sem] theorem bne_f {b:Bool}:(b != false)=b:=by cases b<;>rfl
@[go_sem] theorem bne_t {b:Bool}:(b != true) = !b:=by cases b<;>rfl
def I64 (n:Int):Prop := -9223372036854775808≤n∧n≤9223372036854775807
theorem wrap64 {x:Int} (h1 : -9223372036854775808≤x) (h2:x≤9223372036854775807):IntKind.i64.wrap x=x:=by
 have e1:(2:Int) ^ IntKind.i64.bits=18446744073709551616:=by decide
 have e2:(2:Int) ^ (IntKind.i64.bits - 1)=9223372036854775808:=by decide
 unfold IntKind.wrap;simp only [IntKind.signed,e1,e2,Bool.true_and,decide_eq_true_eq];split<;>omega
theorem Jy {n:Nat} (h:n≤9223372036854775807):IntKind.i64.wrap (n:Int)=n:=wrap64 (by omega) (by omega)
theorem aZ {k:Nat} (h:k<9223372036854775807):IntKind.i64.wrap ((k:Int)+1)=(k:Int)+1:=wrap64 (by omega) (by omega)
theorem Za {x:Int} (h1 : 0≤x) (h2:x≤18446744073709551615):IntKind.u64.wrap x=x:=by
 have e1:(2:Int) ^ IntKind.u64.bits=18446744073709551616:=by decide
 unfold IntKind.wrap;simp only [IntKind.signed,e1,Bool.false_and,Bool.false_eq_true,if_false];omega
theorem Jx {x:Int} (h1 : -18446744073709551616≤x) (h2:x<0):IntKind.u64.wrap x=x+18446744073709551616:=by
 have e1:(2:Int) ^ IntKind.u64.bits=18446744073709551616:=by decide
 unfold IntKind.wrap;simp only [IntKind.signed,e1,Bool.false_and,Bool.false_eq_true,if_false];omega
structure RatR.fit (r:RatR):Prop where
 num:I64 r.num
 den:I64 r.den
structure SourceR.fit (s:SourceR):Prop where
 kind:I64 s.kind
 pos:s.pos.fit
 speed:s.speed.fit
structure ClipR.fit (c:ClipR):Prop where
 len:I64 c.len
 kind:I64 c.kind
 a:c.a.fit
 b:c.b.fit
 off:I64 c.off
 total:I64 c.total
 param:I64 c.param
 gain:I64 c.gain
def nmI (n:Int):Bool:=(decide (97≤n)&&decide (n≤122))||(decide (48≤n)&&decide (n≤57))||n==45||n==95||n==46
def lnI (n:Int):Bool:=decide (32≤n)&&decide (n≤126)
def wE (p:Int→Bool) (s:ByteArray):Bool:=s.data.toList.all fun c=>p c.toNat
def mD (s:ByteArray) (k:Nat):Int:=(s.data.toList.getD k 0).toNat
theorem Yv (s:ByteArray):s.data.toList.length=s.size:=Array.length_toList
theorem Cb {p:Int→Bool} {s:ByteArray} {k:Nat} (h:k<s.size) (hp:p (mD s k)=false):wE p s=false:=by
 have hl:k<s.data.toList.length:=by rw [Yv];exact h
 unfold mD at hp;rw [List.getD_eq_getElem?_getD,List.getElem?_eq_getElem hl] at hp;unfold wE;rw [Bool.eq_false_iff,ne_eq,List.all_eq_true];intro h';have:=h' _ (List.getElem_mem hl);simp only [Option.getD_some] at hp;rw [hp] at this;cases this
theorem xX {p:Int→Bool} {s:ByteArray} (h:∀ k,k<s.size→p (mD s k)=true):wE p s=true:=by
 unfold wE;rw [List.all_eq_true];intro c hc;obtain ⟨k,hk,rfl⟩:=List.mem_iff_getElem.1 hc;have:=h k (by rw [← Yv];exact hk);unfold mD at this;rw [List.getD_eq_getElem?_getD,List.getElem?_eq_getElem hk] at this;exact this
def bB (s:ByteArray):Bool:=decide (1≤s.size)&&decide (s.size≤32)&&wE nmI s
def jM (s:ByteArray):Bool:=decide (1≤s.size)&&decide (s.size≤64)&&wE lnI s
@[go_sem] theorem Tryz.xsz2:Tryz.prog.szT 2=some 1:=by kernel_rfl
@[go_sem] theorem Tryz.xag2:Tryz.prog.aggT 2=some false:=by kernel_rfl
@[go_sem] theorem Tryz.xze2:Tryz.prog.zeroT 2=some [Value.int IntKind.i64 0]:=by kernel_rfl
@[go_sem] theorem Tryz.xzk2:cE [Value.int IntKind.i64 0]=true:=by kernel_rfl
@[go_sem] theorem Tryz.xsz3:Tryz.prog.szT 3=some 1:=by kernel_rfl
@[go_sem] theorem Tryz.xag3:Tryz.prog.aggT 3=some false:=by kernel_rfl
@[go_sem] theorem Tryz.xby3:Tryz.prog.bytesT 3=some 8:=by kernel_rfl
@[go_sem] theorem Tryz.xze3:Tryz.prog.zeroT 3=some [Value.int IntKind.i64 0]:=by kernel_rfl
@[go_sem] theorem Tryz.xsz4:Tryz.prog.szT 4=some 1:=by kernel_rfl
@[go_sem] theorem Tryz.xag4:Tryz.prog.aggT 4=some false:=by kernel_rfl
@[go_sem] theorem Tryz.xze4:Tryz.prog.zeroT 4=some [Value.bool false]:=by kernel_rfl
@[go_sem] theorem Tryz.xzk4:cE [Value.bool false]=true:=by kernel_rfl
@[go_sem] theorem Tryz.xag5:Tryz.prog.aggT 5=some false:=by kernel_rfl
@[go_sem] theorem Tryz.xsz9:Tryz.prog.szT 9=some 1:=by kernel_rfl
@[go_sem] theorem Tryz.xag9:Tryz.prog.aggT 9=some false:=by kernel_rfl
@[go_sem] theorem Tryz.xby9:Tryz.prog.bytesT 9=some 16:=by kernel_rfl
@[go_sem] theorem Tryz.xze9:Tryz.prog.zeroT 9=some [Value.string ⟨#[]⟩]:=by kernel_rfl
@[go_sem] theorem Tryz.xzk9:cE [Value.string ⟨#[]⟩]=true:=by kernel_rfl
@[go_sem] theorem Tryz.xsz22:Tryz.prog.szT 22=some 1:=by kernel_rfl
@[go_sem] theorem Tryz.xag22:Tryz.prog.aggT 22=some false:=by kernel_rfl
@[go_sem] theorem Tryz.xel22:Tryz.prog.elemT 22=some 3:=by kernel_rfl
@[go_sem] theorem Tryz.xzk22:cE [Value.slice none 0 0]=true:=by kernel_rfl
@[go_sem] theorem Tryz.xzk24:cE [Value.slice none 0 0,Value.int IntKind.i64 0]=true:=by kernel_rfl
@[go_sem] theorem Tryz.xpl25:Tryz.prog.plT 25=some [(0,1),(1,1)]:=by kernel_rfl
@[go_sem] theorem Tryz.xze25:Tryz.prog.zeroT 25=some [Value.slice none 0 0,Value.int IntKind.i64 0]:=by kernel_rfl
@[go_sem] theorem Tryz.xfl25_0:Tryz.prog.fldT 25 0=some (0,22):=by kernel_rfl
@[go_sem] theorem Tryz.xfl25_1:Tryz.prog.fldT 25 1=some (1,3):=by kernel_rfl
@[go_sem] theorem Tryz.xsz27:Tryz.prog.szT 27=some 1:=by kernel_rfl
@[go_sem] theorem Tryz.xag27:Tryz.prog.aggT 27=some false:=by kernel_rfl
@[go_sem] theorem Tryz.xel27:Tryz.prog.elemT 27=some 103:=by kernel_rfl
@[go_sem] theorem Tryz.xby27:Tryz.prog.bytesT 27=some 24:=by kernel_rfl
@[go_sem] theorem Tryz.xze27:Tryz.prog.zeroT 27=some [Value.slice none 0 0]:=by kernel_rfl
@[go_sem] theorem Tryz.xzk29:cE [Value.int IntKind.i64 0,Value.int IntKind.i64 0]=true:=by kernel_rfl
@[go_sem] theorem Tryz.xsz30:Tryz.prog.szT 30=some 2:=by kernel_rfl
@[go_sem] theorem Tryz.xag30:Tryz.prog.aggT 30=some true:=by kernel_rfl
@[go_sem] theorem Tryz.xpl30:Tryz.prog.plT 30=some [(0,1),(1,1)]:=by kernel_rfl
@[go_sem] theorem Tryz.xze30:Tryz.prog.zeroT 30=some [Value.int IntKind.i64 0,Value.int IntKind.i64 0]:=by kernel_rfl
@[go_sem] theorem Tryz.xfl30_0:Tryz.prog.fldT 30 0=some (0,2):=by kernel_rfl
@[go_sem] theorem Tryz.xfl30_1:Tryz.prog.fldT 30 1=some (1,2):=by kernel_rfl
@[go_sem] theorem Tryz.xsz35:Tryz.prog.szT 35=some 1:=by kernel_rfl
@[go_sem] theorem Tryz.xag35:Tryz.prog.aggT 35=some false:=by kernel_rfl
@[go_sem] theorem Tryz.xel35:Tryz.prog.elemT 35=some 82:=by kernel_rfl
@[go_sem] theorem Tryz.xsz36:Tryz.prog.szT 36=some 1:=by kernel_rfl
@[go_sem] theorem Tryz.xag36:Tryz.prog.aggT 36=some false:=by kernel_rfl
@[go_sem] theorem Tryz.xel36:Tryz.prog.elemT 36=some 114:=by kernel_rfl
@[go_sem] theorem Tryz.xzk37:cE [Value.slice none 0 0,Value.slice none 0 0]=true:=by kernel_rfl
@[go_sem] theorem Tryz.xsz38:Tryz.prog.szT 38=some 2:=by kernel_rfl
@[go_sem] theorem Tryz.xag38:Tryz.prog.aggT 38=some true:=by kernel_rfl
@[go_sem] theorem Tryz.xpl38:Tryz.prog.plT 38=some [(0,1),(1,1)]:=by kernel_rfl
@[go_sem] theorem Tryz.xze38:Tryz.prog.zeroT 38=some [Value.slice none 0 0,Value.slice none 0 0]:=by kernel_rfl
@[go_sem] theorem Tryz.xfl38_0:Tryz.prog.fldT 38 0=some (0,35):=by kernel_rfl
@[go_sem] theorem Tryz.xfl38_1:Tryz.prog.fldT 38 1=some (1,36):=by kernel_rfl
@[go_sem] theorem Tryz.xsz40:Tryz.prog.szT 40=some 1:=by kernel_rfl
@[go_sem] theorem Tryz.xag40:Tryz.prog.aggT 40=some false:=by kernel_rfl
@[go_sem] theorem Tryz.xby40:Tryz.prog.bytesT 40=some 8:=by kernel_rfl
@[go_sem] theorem Tryz.xze40:Tryz.prog.zeroT 40=some [Value.int IntKind.i64 0]:=by kernel_rfl
@[go_sem] theorem Tryz.xsz48:Tryz.prog.szT 48=some 1:=by kernel_rfl
@[go_sem] theorem Tryz.xag48:Tryz.prog.aggT 48=some false:=by kernel_rfl
@[go_sem] theorem Tryz.xel48:Tryz.prog.elemT 48=some 153:=by kernel_rfl
@[go_sem] theorem Tryz.xsz49:Tryz.prog.szT 49=some 1:=by kernel_rfl
@[go_sem] theorem Tryz.xag49:Tryz.prog.aggT 49=some false:=by kernel_rfl
@[go_sem] theorem Tryz.xel49:Tryz.prog.elemT 49=some 135:=by kernel_rfl
@[go_sem] theorem Tryz.xsz51:Tryz.prog.szT 51=some 2:=by kernel_rfl
@[go_sem] theorem Tryz.xag51:Tryz.prog.aggT 51=some true:=by kernel_rfl
@[go_sem] theorem Tryz.xpl51:Tryz.prog.plT 51=some [(0,1),(1,1)]:=by kernel_rfl
@[go_sem] theorem Tryz.xze51:Tryz.prog.zeroT 51=some [Value.slice none 0 0,Value.slice none 0 0]:=by kernel_rfl
@[go_sem] theorem Tryz.xfl51_0:Tryz.prog.fldT 51 0=some (0,48):=by kernel_rfl
@[go_sem] theorem Tryz.xfl51_1:Tryz.prog.fldT 51 1=some (1,49):=by kernel_rfl
@[go_sem] theorem Tryz.xel54:Tryz.prog.elemT 54=some 51:=by kernel_rfl
@[go_sem] theorem Tryz.xel56:Tryz.prog.elemT 56=some 38:=by kernel_rfl
@[go_sem] theorem Tryz.xsz57:Tryz.prog.szT 57=some 1:=by kernel_rfl
@[go_sem] theorem Tryz.xag57:Tryz.prog.aggT 57=some false:=by kernel_rfl
@[go_sem] theorem Tryz.xel57:Tryz.prog.elemT 57=some 9:=by kernel_rfl
@[go_sem] theorem Tryz.xze57:Tryz.prog.zeroT 57=some [Value.slice none 0 0]:=by kernel_rfl
@[go_sem] theorem Tryz.xsz67:Tryz.prog.szT 67=some 1:=by kernel_rfl
@[go_sem] theorem Tryz.xag67:Tryz.prog.aggT 67=some false:=by kernel_rfl
@[go_sem] theorem Tryz.xzk68:cE [Value.int IntKind.i64 0,Value.string ⟨#[]⟩,Value.string ⟨#[]⟩,Value.string ⟨#[]⟩,Value.int IntKind.u64 0]=true:=by kernel_rfl
@[go_sem] theorem Tryz.xsz69:Tryz.prog.szT 69=some 5:=by kernel_rfl
@[go_sem] theorem Tryz.xag69:Tryz.prog.aggT 69=some true:=by kernel_rfl
@[go_sem] theorem Tryz.xby69:Tryz.prog.bytesT 69=some 64:=by kernel_rfl
@[go_sem] theorem Tryz.xpl69:Tryz.prog.plT 69=some [(0,1),(1,1),(2,1),(3,1),(4,1)]:=by kernel_rfl
@[go_sem] theorem Tryz.xze69:Tryz.prog.zeroT 69=some [Value.int IntKind.i64 0,Value.string ⟨#[]⟩,Value.string ⟨#[]⟩,Value.string ⟨#[]⟩,Value.int IntKind.u64 0]:=by kernel_rfl
@[go_sem] theorem Tryz.xfl69_0:Tryz.prog.fldT 69 0=some (0,3):=by kernel_rfl
@[go_sem] theorem Tryz.xfl69_1:Tryz.prog.fldT 69 1=some (1,9):=by kernel_rfl
@[go_sem] theorem Tryz.xfl69_2:Tryz.prog.fldT 69 2=some (2,9):=by kernel_rfl
@[go_sem] theorem Tryz.xfl69_3:Tryz.prog.fldT 69 3=some (3,9):=by kernel_rfl
@[go_sem] theorem Tryz.xfl69_4:Tryz.prog.fldT 69 4=some (4,67):=by kernel_rfl
@[go_sem] theorem Tryz.xel70:Tryz.prog.elemT 70=some 69:=by kernel_rfl
@[go_sem] theorem Tryz.xel71:Tryz.prog.elemT 71=some 140:=by kernel_rfl
@[go_sem] theorem Tryz.xel72:Tryz.prog.elemT 72=some 40:=by kernel_rfl
def Tryz.z78:List Value:=[Value.int IntKind.i64 0,Value.int IntKind.i64 0,Value.int IntKind.i64 0,Value.int IntKind.i64 0,Value.bool false,Value.int IntKind.i64 0,Value.int IntKind.i64 0]++List.replicate 128 (Value.int IntKind.u8 0)
@[go_sem] theorem Tryz.zok78:cE Tryz.z78=true:=by kernel_rfl
@[go_sem] theorem Tryz.zlen78:Tryz.z78.length=135:=by kernel_rfl
@[go_sem] theorem Tryz.xsz79:Tryz.prog.szT 79=some 135:=by kernel_rfl
@[go_sem] theorem Tryz.xag79:Tryz.prog.aggT 79=some true:=by kernel_rfl
@[go_sem] theorem Tryz.xpl79:Tryz.prog.plT 79=some [(0,1),(1,1),(2,2),(4,1),(5,1),(6,1),(7,64),(71,64)]:=by kernel_rfl
def Tryz.z79:List Value:=[Value.int IntKind.i64 0,Value.int IntKind.i64 0,Value.int IntKind.i64 0,Value.int IntKind.i64 0,Value.bool false,Value.int IntKind.i64 0,Value.int IntKind.i64 0]++List.replicate 128 (Value.int IntKind.u8 0)
@[go_sem] theorem Tryz.xze79:Tryz.prog.zeroT 79=some Tryz.z79:=by kernel_rfl
@[go_sem] theorem Tryz.zok79:cE Tryz.z79=true:=by kernel_rfl
@[go_sem] theorem Tryz.zlen79:Tryz.z79.length=135:=by kernel_rfl
@[go_sem] theorem Tryz.xfl79_2:Tryz.prog.fldT 79 2=some (2,30):=by kernel_rfl
@[go_sem] theorem Tryz.xsz80:Tryz.prog.szT 80=some 1:=by kernel_rfl
@[go_sem] theorem Tryz.xag80:Tryz.prog.aggT 80=some false:=by kernel_rfl
@[go_sem] theorem Tryz.xel80:Tryz.prog.elemT 80=some 110:=by kernel_rfl
def Tryz.z81:List Value:=[Value.string ⟨#[]⟩,Value.int IntKind.u64 0,Value.int IntKind.i64 0,Value.int IntKind.i64 0,Value.int IntKind.i64 0,Value.int IntKind.i64 0,Value.bool false,Value.int IntKind.i64 0,Value.int IntKind.i64 0]++List.replicate 128 (Value.int IntKind.u8 0) ++ [Value.int IntKind.i64 0,Value.int IntKind.i64 0,Value.int IntKind.i64 0,Value.slice none 0 0]
@[go_sem] theorem Tryz.zok81:cE Tryz.z81=true:=by kernel_rfl
@[go_sem] theorem Tryz.zlen81:Tryz.z81.length=141:=by kernel_rfl
@[go_sem] theorem Tryz.xsz82:Tryz.prog.szT 82=some 141:=by kernel_rfl
@[go_sem] theorem Tryz.xag82:Tryz.prog.aggT 82=some true:=by kernel_rfl
@[go_sem] theorem Tryz.xby82:Tryz.prog.bytesT 82=some 256:=by kernel_rfl
@[go_sem] theorem Tryz.xpl82:Tryz.prog.plT 82=some [(0,1),(1,1),(2,135),(137,1),(138,1),(139,1),(140,1)]:=by kernel_rfl
def Tryz.z82:List Value:=[Value.string ⟨#[]⟩,Value.int IntKind.u64 0,Value.int IntKind.i64 0,Value.int IntKind.i64 0,Value.int IntKind.i64 0,Value.int IntKind.i64 0,Value.bool false,Value.int IntKind.i64 0,Value.int IntKind.i64 0]++List.replicate 128 (Value.int IntKind.u8 0) ++ [Value.int IntKind.i64 0,Value.int IntKind.i64 0,Value.int IntKind.i64 0,Value.slice none 0 0]
@[go_sem] theorem Tryz.xze82:Tryz.prog.zeroT 82=some Tryz.z82:=by kernel_rfl
@[go_sem] theorem Tryz.zok82:cE Tryz.z82=true:=by kernel_rfl
@[go_sem] theorem Tryz.zlen82:Tryz.z82.length=141:=by kernel_rfl
@[go_sem] theorem Tryz.xfl82_0:Tryz.prog.fldT 82 0=some (0,9):=by kernel_rfl
@[go_sem] theorem Tryz.xfl82_1:Tryz.prog.fldT 82 1=some (1,67):=by kernel_rfl
@[go_sem] theorem Tryz.xfl82_2:Tryz.prog.fldT 82 2=some (2,79):=by kernel_rfl
@[go_sem] theorem Tryz.xfl82_3:Tryz.prog.fldT 82 3=some (137,2):=by kernel_rfl
@[go_sem] theorem Tryz.xfl82_4:Tryz.prog.fldT 82 4=some (138,3):=by kernel_rfl
@[go_sem] theorem Tryz.xfl82_5:Tryz.prog.fldT 82 5=some (139,2):=by kernel_rfl
@[go_sem] theorem Tryz.xfl82_6:Tryz.prog.fldT 82 6=some (140,80):=by kernel_rfl
@[go_sem] theorem Tryz.xzk100:cE [Value.int IntKind.i64 0,Value.string ⟨#[]⟩,Value.int IntKind.i64 0,Value.int IntKind.i64 0,Value.int IntKind.i64 0,Value.int IntKind.i64 0,Value.bool false]=true:=by kernel_rfl
@[go_sem] theorem Tryz.xsz101:Tryz.prog.szT 101=some 7:=by kernel_rfl
@[go_sem] theorem Tryz.xag101:Tryz.prog.aggT 101=some true:=by kernel_rfl
@[go_sem] theorem Tryz.xby101:Tryz.prog.bytesT 101=some 64:=by kernel_rfl
@[go_sem] theorem Tryz.xpl101:Tryz.prog.plT 101=some [(0,1),(1,1),(2,2),(4,2),(6,1)]:=by kernel_rfl
@[go_sem] theorem Tryz.xze101:Tryz.prog.zeroT 101=some [Value.int IntKind.i64 0,Value.string ⟨#[]⟩,Value.int IntKind.i64 0,Value.int IntKind.i64 0,Value.int IntKind.i64 0,Value.int IntKind.i64 0,Value.bool false]:=by kernel_rfl
@[go_sem] theorem Tryz.xfl101_0:Tryz.prog.fldT 101 0=some (0,3):=by kernel_rfl
@[go_sem] theorem Tryz.xfl101_1:Tryz.prog.fldT 101 1=some (1,9):=by kernel_rfl
@[go_sem] theorem Tryz.xfl101_2:Tryz.prog.fldT 101 2=some (2,30):=by kernel_rfl
@[go_sem] theorem Tryz.xfl101_3:Tryz.prog.fldT 101 3=some (4,30):=by kernel_rfl
@[go_sem] theorem Tryz.xfl101_4:Tryz.prog.fldT 101 4=some (6,4):=by kernel_rfl
@[go_sem] theorem Tryz.xzk102:cE [Value.int IntKind.i64 0,Value.int IntKind.i64 0,Value.int IntKind.i64 0,Value.string ⟨#[]⟩,Value.int IntKind.i64 0,Value.int IntKind.i64 0,Value.int IntKind.i64 0,Value.int IntKind.i64 0,Value.bool false,Value.int IntKind.i64 0,Value.string ⟨#[]⟩,Value.int IntKind.i64 0,Value.int IntKind.i64 0,Value.int IntKind.i64 0,Value.int IntKind.i64 0,Value.bool false,Value.int IntKind.i64 0,Value.int IntKind.i64 0,Value.int IntKind.i64 0,Value.string ⟨#[]⟩,Value.int IntKind.i64 0,Value.slice none 0 0]=true:=by kernel_rfl
@[go_sem] theorem Tryz.xsz103:Tryz.prog.szT 103=some 22:=by kernel_rfl
@[go_sem] theorem Tryz.xag103:Tryz.prog.aggT 103=some true:=by kernel_rfl
@[go_sem] theorem Tryz.xby103:Tryz.prog.bytesT 103=some 216:=by kernel_rfl
@[go_sem] theorem Tryz.xpl103:Tryz.prog.plT 103=some [(0,1),(1,1),(2,7),(9,7),(16,1),(17,1),(18,1),(19,1),(20,1),(21,1)]:=by kernel_rfl
@[go_sem] theorem Tryz.xze103:Tryz.prog.zeroT 103=some [Value.int IntKind.i64 0,Value.int IntKind.i64 0,Value.int IntKind.i64 0,Value.string ⟨#[]⟩,Value.int IntKind.i64 0,Value.int IntKind.i64 0,Value.int IntKind.i64 0,Value.int IntKind.i64 0,Value.bool false,Value.int IntKind.i64 0,Value.string ⟨#[]⟩,Value.int IntKind.i64 0,Value.int IntKind.i64 0,Value.int IntKind.i64 0,Value.int IntKind.i64 0,Value.bool false,Value.int IntKind.i64 0,Value.int IntKind.i64 0,Value.int IntKind.i64 0,Value.string ⟨#[]⟩,Value.int IntKind.i64 0,Value.slice none 0 0]:=by kernel_rfl
@[go_sem] theorem Tryz.xfl103_0:Tryz.prog.fldT 103 0=some (0,2):=by kernel_rfl
@[go_sem] theorem Tryz.xfl103_1:Tryz.prog.fldT 103 1=some (1,3):=by kernel_rfl
@[go_sem] theorem Tryz.xfl103_2:Tryz.prog.fldT 103 2=some (2,101):=by kernel_rfl
@[go_sem] theorem Tryz.xfl103_3:Tryz.prog.fldT 103 3=some (9,101):=by kernel_rfl
@[go_sem] theorem Tryz.xfl103_4:Tryz.prog.fldT 103 4=some (16,2):=by kernel_rfl
@[go_sem] theorem Tryz.xfl103_5:Tryz.prog.fldT 103 5=some (17,2):=by kernel_rfl
@[go_sem] theorem Tryz.xfl103_6:Tryz.prog.fldT 103 6=some (18,3):=by kernel_rfl
@[go_sem] theorem Tryz.xfl103_7:Tryz.prog.fldT 103 7=some (19,9):=by kernel_rfl
@[go_sem] theorem Tryz.xfl103_8:Tryz.prog.fldT 103 8=some (20,3):=by kernel_rfl
@[go_sem] theorem Tryz.xfl103_9:Tryz.prog.fldT 103 9=some (21,22):=by kernel_rfl
@[go_sem] theorem Tryz.xel107:Tryz.prog.elemT 107=some 30:=by kernel_rfl
@[go_sem] theorem Tryz.xzk109:cE [Value.int IntKind.i64 0,Value.int IntKind.i64 0,Value.slice none 0 0]=true:=by kernel_rfl
@[go_sem] theorem Tryz.xsz110:Tryz.prog.szT 110=some 3:=by kernel_rfl
@[go_sem] theorem Tryz.xag110:Tryz.prog.aggT 110=some true:=by kernel_rfl
@[go_sem] theorem Tryz.xby110:Tryz.prog.bytesT 110=some 40:=by kernel_rfl
@[go_sem] theorem Tryz.xpl110:Tryz.prog.plT 110=some [(0,1),(1,1),(2,1)]:=by kernel_rfl
@[go_sem] theorem Tryz.xze110:Tryz.prog.zeroT 110=some [Value.int IntKind.i64 0,Value.int IntKind.i64 0,Value.slice none 0 0]:=by kernel_rfl
@[go_sem] theorem Tryz.xfl110_0:Tryz.prog.fldT 110 0=some (0,2):=by kernel_rfl
@[go_sem] theorem Tryz.xfl110_1:Tryz.prog.fldT 110 1=some (1,2):=by kernel_rfl
@[go_sem] theorem Tryz.xfl110_2:Tryz.prog.fldT 110 2=some (2,57):=by kernel_rfl
@[go_sem] theorem Tryz.xsz112:Tryz.prog.szT 112=some 1:=by kernel_rfl
@[go_sem] theorem Tryz.xag112:Tryz.prog.aggT 112=some false:=by kernel_rfl
@[go_sem] theorem Tryz.xel112:Tryz.prog.elemT 112=some 27:=by kernel_rfl
@[go_sem] theorem Tryz.xze112:Tryz.prog.zeroT 112=some [Value.slice none 0 0]:=by kernel_rfl
@[go_sem] theorem Tryz.xzk113:cE [Value.string ⟨#[]⟩,Value.int IntKind.i64 0,Value.int IntKind.i64 0,Value.int IntKind.i64 0,Value.int IntKind.i64 0,Value.slice none 0 0,Value.slice none 0 0,Value.slice none 0 0,Value.int IntKind.i64 0]=true:=by kernel_rfl
@[go_sem] theorem Tryz.xsz114:Tryz.prog.szT 114=some 9:=by kernel_rfl
@[go_sem] theorem Tryz.xag114:Tryz.prog.aggT 114=some true:=by kernel_rfl
@[go_sem] theorem Tryz.xby114:Tryz.prog.bytesT 114=some 128:=by kernel_rfl
@[go_sem] theorem Tryz.xpl114:Tryz.prog.plT 114=some [(0,1),(1,2),(3,1),(4,1),(5,1),(6,1),(7,1),(8,1)]:=by kernel_rfl
@[go_sem] theorem Tryz.xze114:Tryz.prog.zeroT 114=some [Value.string ⟨#[]⟩,Value.int IntKind.i64 0,Value.int IntKind.i64 0,Value.int IntKind.i64 0,Value.int IntKind.i64 0,Value.slice none 0 0,Value.slice none 0 0,Value.slice none 0 0,Value.int IntKind.i64 0]:=by kernel_rfl
@[go_sem] theorem Tryz.xfl114_0:Tryz.prog.fldT 114 0=some (0,9):=by kernel_rfl
@[go_sem] theorem Tryz.xfl114_1:Tryz.prog.fldT 114 1=some (1,30):=by kernel_rfl
@[go_sem] theorem Tryz.xfl114_2:Tryz.prog.fldT 114 2=some (3,3):=by kernel_rfl
@[go_sem] theorem Tryz.xfl114_3:Tryz.prog.fldT 114 3=some (4,3):=by kernel_rfl
@[go_sem] theorem Tryz.xfl114_4:Tryz.prog.fldT 114 4=some (5,112):=by kernel_rfl
@[go_sem] theorem Tryz.xfl114_5:Tryz.prog.fldT 114 5=some (6,112):=by kernel_rfl
@[go_sem] theorem Tryz.xfl114_6:Tryz.prog.fldT 114 6=some (7,80):=by kernel_rfl
@[go_sem] theorem Tryz.xfl114_7:Tryz.prog.fldT 114 7=some (8,3):=by kernel_rfl
@[go_sem] theorem Tryz.xzk127:cE [Value.map none]=true:=by kernel_rfl
@[go_sem] theorem Tryz.xmt127:Tryz.prog.mapT 127=some (9,9):=by kernel_rfl
@[go_sem] theorem Tryz.xz19:Tryz.prog.zero1 9=some (Value.string ⟨#[]⟩):=by kernel_rfl
@[go_sem] theorem Tryz.xzk134:cE [Value.string ⟨#[]⟩,Value.string ⟨#[]⟩,Value.int IntKind.u64 0,Value.string ⟨#[]⟩]=true:=by kernel_rfl
@[go_sem] theorem Tryz.xsz135:Tryz.prog.szT 135=some 4:=by kernel_rfl
@[go_sem] theorem Tryz.xag135:Tryz.prog.aggT 135=some true:=by kernel_rfl
@[go_sem] theorem Tryz.xby135:Tryz.prog.bytesT 135=some 56:=by kernel_rfl
@[go_sem] theorem Tryz.xpl135:Tryz.prog.plT 135=some [(0,1),(1,1),(2,1),(3,1)]:=by kernel_rfl
@[go_sem] theorem Tryz.xze135:Tryz.prog.zeroT 135=some [Value.string ⟨#[]⟩,Value.string ⟨#[]⟩,Value.int IntKind.u64 0,Value.string ⟨#[]⟩]:=by kernel_rfl
@[go_sem] theorem Tryz.xfl135_0:Tryz.prog.fldT 135 0=some (0,9):=by kernel_rfl
@[go_sem] theorem Tryz.xfl135_1:Tryz.prog.fldT 135 1=some (1,9):=by kernel_rfl
@[go_sem] theorem Tryz.xfl135_2:Tryz.prog.fldT 135 2=some (2,67):=by kernel_rfl
@[go_sem] theorem Tryz.xfl135_3:Tryz.prog.fldT 135 3=some (3,9):=by kernel_rfl
@[go_sem] theorem Tryz.xzk139:cE [Value.string ⟨#[]⟩,Value.int IntKind.i64 0]=true:=by kernel_rfl
@[go_sem] theorem Tryz.xsz140:Tryz.prog.szT 140=some 2:=by kernel_rfl
@[go_sem] theorem Tryz.xby140:Tryz.prog.bytesT 140=some 24:=by kernel_rfl
@[go_sem] theorem Tryz.xpl140:Tryz.prog.plT 140=some [(0,1),(1,1)]:=by kernel_rfl
@[go_sem] theorem Tryz.xze140:Tryz.prog.zeroT 140=some [Value.string ⟨#[]⟩,Value.int IntKind.i64 0]:=by kernel_rfl
@[go_sem] theorem Tryz.xfl140_1:Tryz.prog.fldT 140 1=some (1,3):=by kernel_rfl
@[go_sem] theorem Tryz.xsz142:Tryz.prog.szT 142=some 1:=by kernel_rfl
@[go_sem] theorem Tryz.xag142:Tryz.prog.aggT 142=some false:=by kernel_rfl
@[go_sem] theorem Tryz.xmt142:Tryz.prog.mapT 142=some (9,82):=by kernel_rfl
@[go_sem] theorem Tryz.xz182:Tryz.prog.zero1 82=some (Value.agg #[Value.string ⟨#[]⟩,Value.int IntKind.u64 0,Value.int IntKind.i64 0,Value.int IntKind.i64 0,Value.int IntKind.i64 0,Value.int IntKind.i64 0,Value.bool false,Value.int IntKind.i64 0,Value.int IntKind.i64 0,Value.int IntKind.u8 0,Value.int IntKind.u8 0,Value.int IntKind.u8 0,Value.int IntKind.u8 0,Value.int IntKind.u8 0,Value.int IntKind.u8 0,Value.int IntKind.u8 0,Value.int IntKind.u8 0,Value.int IntKind.u8 0,Value.int IntKind.u8 0,Value.int IntKind.u8 0,Value.int IntKind.u8 0,Value.int IntKind.u8 0,Value.int IntKind.u8 0,Value.int IntKind.u8 0,Value.int IntKind.u8 0,Value.int IntKind.u8 0,Value.int IntKind.u8 0,Value.int IntKind.u8 0,Value.int IntKind.u8 0,Value.int IntKind.u8 0,Value.int IntKind.u8 0,Value.int IntKind.u8 0,Value.int IntKind.u8 0,Value.int IntKind.u8 0,Value.int IntKind.u8 0,Value.int IntKind.u8 0,Value.int IntKind.u8 0,Value.int IntKind.u8 0,Value.int IntKind.u8 0,Value.int IntKind.u8 0,Value.int IntKind.u8 0,Value.int IntKind.u8 0,Value.int IntKind.u8 0,Value.int IntKind.u8 0,Value.int IntKind.u8 0,Value.int IntKind.u8 0,Value.int IntKind.u8 0,Value.int IntKind.u8 0,Value.int IntKind.u8 0,Value.int IntKind.u8 0,Value.int IntKind.u8 0,Value.int IntKind.u8 0,Value.int IntKind.u8 0,Value.int IntKind.u8 0,Value.int IntKind.u8 0,Value.int IntKind.u8 0,Value.int IntKind.u8 0,Value.int IntKind.u8 0,Value.int IntKind.u8 0,Value.int IntKind.u8 0,Value.int IntKind.u8 0,Value.int IntKind.u8 0,Value.int IntKind.u8 0,Value.int IntKind.u8 0,Value.int IntKind.u8 0,Value.int IntKind.u8 0,Value.int IntKind.u8 0,Value.int IntKind.u8 0,Value.int IntKind.u8 0,Value.int IntKind.u8 0,Value.int IntKind.u8 0,Value.int IntKind.u8 0,Value.int IntKind.u8 0,Value.int IntKind.u8 0,Value.int IntKind.u8 0,Value.int IntKind.u8 0,Value.int IntKind.u8 0,Value.int IntKind.u8 0,Value.int IntKind.u8 0,Value.int IntKind.u8 0,Value.int IntKind.u8 0,Value.int IntKind.u8 0,Value.int IntKind.u8 0,Value.int IntKind.u8 0,Value.int IntKind.u8 0,Value.int IntKind.u8 0,Value.int IntKind.u8 0,Value.int IntKind.u8 0,Value.int IntKind.u8 0,Value.int IntKind.u8 0,Value.int IntKind.u8 0,Value.int IntKind.u8 0,Value.int IntKind.u8 0,Value.int IntKind.u8 0,Value.int IntKind.u8 0,Value.int IntKind.u8 0,Value.int IntKind.u8 0,Value.int IntKind.u8 0,Value.int IntKind.u8 0,Value.int IntKind.u8 0,Value.int IntKind.u8 0,Value.int IntKind.u8 0,Value.int IntKind.u8 0,Value.int IntKind.u8 0,Value.int IntKind.u8 0,Value.int IntKind.u8 0,Value.int IntKind.u8 0,Value.int IntKind.u8 0,Value.int IntKind.u8 0,Value.int IntKind.u8 0,Value.int IntKind.u8 0,Value.int IntKind.u8 0,Value.int IntKind.u8 0,Value.int IntKind.u8 0,Value.int IntKind.u8 0,Value.int IntKind.u8 0,Value.int IntKind.u8 0,Value.int IntKind.u8 0,Value.int IntKind.u8 0,Value.int IntKind.u8 0,Value.int IntKind.u8 0,Value.int IntKind.u8 0,Value.int IntKind.u8 0,Value.int IntKind.u8 0,Value.int IntKind.u8 0,Value.int IntKind.u8 0,Value.int IntKind.u8 0,Value.int IntKind.u8 0,Value.int IntKind.u8 0,Value.int IntKind.u8 0,Value.int IntKind.u8 0,Value.int IntKind.u8 0,Value.int IntKind.u8 0,Value.int IntKind.u8 0,Value.int IntKind.u8 0,Value.int IntKind.u8 0,Value.int IntKind.u8 0,Value.int IntKind.i64 0,Value.int IntKind.i64 0,Value.int IntKind.i64 0,Value.slice none 0 0]):=by kernel_rfl
@[go_sem] theorem Tryz.xsz143:Tryz.prog.szT 143=some 1:=by kernel_rfl
@[go_sem] theorem Tryz.xag143:Tryz.prog.aggT 143=some false:=by kernel_rfl
@[go_sem] theorem Tryz.xmt143:Tryz.prog.mapT 143=some (9,114):=by kernel_rfl
@[go_sem] theorem Tryz.xz1114:Tryz.prog.zero1 114=some (Value.agg #[Value.string ⟨#[]⟩,Value.int IntKind.i64 0,Value.int IntKind.i64 0,Value.int IntKind.i64 0,Value.int IntKind.i64 0,Value.slice none 0 0,Value.slice none 0 0,Value.slice none 0 0,Value.int IntKind.i64 0]):=by kernel_rfl
@[go_sem] theorem Tryz.xzk144:cE [Value.map none,Value.map none]=true:=by kernel_rfl
@[go_sem] theorem Tryz.xsz145:Tryz.prog.szT 145=some 2:=by kernel_rfl
@[go_sem] theorem Tryz.xag145:Tryz.prog.aggT 145=some true:=by kernel_rfl
@[go_sem] theorem Tryz.xpl145:Tryz.prog.plT 145=some [(0,1),(1,1)]:=by kernel_rfl
@[go_sem] theorem Tryz.xze145:Tryz.prog.zeroT 145=some [Value.map none,Value.map none]:=by kernel_rfl
@[go_sem] theorem Tryz.xfl145_0:Tryz.prog.fldT 145 0=some (0,142):=by kernel_rfl
@[go_sem] theorem Tryz.xfl145_1:Tryz.prog.fldT 145 1=some (1,143):=by kernel_rfl
@[go_sem] theorem Tryz.xsz148:Tryz.prog.szT 148=some 1:=by kernel_rfl
@[go_sem] theorem Tryz.xag148:Tryz.prog.aggT 148=some false:=by kernel_rfl
@[go_sem] theorem Tryz.xze148:Tryz.prog.zeroT 148=some [Value.map none]:=by kernel_rfl
@[go_sem] theorem Tryz.xmt148:Tryz.prog.mapT 148=some (9,4):=by kernel_rfl
@[go_sem] theorem Tryz.xz14:Tryz.prog.zero1 4=some (Value.bool false):=by kernel_rfl
@[go_sem] theorem Tryz.xzk152:cE [Value.string ⟨#[]⟩,Value.int IntKind.u64 0,Value.bool false]=true:=by kernel_rfl
@[go_sem] theorem Tryz.xsz153:Tryz.prog.szT 153=some 3:=by kernel_rfl
@[go_sem] theorem Tryz.xag153:Tryz.prog.aggT 153=some true:=by kernel_rfl
@[go_sem] theorem Tryz.xby153:Tryz.prog.bytesT 153=some 32:=by kernel_rfl
@[go_sem] theorem Tryz.xpl153:Tryz.prog.plT 153=some [(0,1),(1,1),(2,1)]:=by kernel_rfl
@[go_sem] theorem Tryz.xze153:Tryz.prog.zeroT 153=some [Value.string ⟨#[]⟩,Value.int IntKind.u64 0,Value.bool false]:=by kernel_rfl
@[go_sem] theorem Tryz.xfl153_0:Tryz.prog.fldT 153 0=some (0,9):=by kernel_rfl
@[go_sem] theorem Tryz.xfl153_1:Tryz.prog.fldT 153 1=some (1,67):=by kernel_rfl
@[go_sem] theorem Tryz.xfl153_2:Tryz.prog.fldT 153 2=some (2,4):=by kernel_rfl
@[go_sem] theorem Tryz.xsz160:Tryz.prog.szT 160=some 1:=by kernel_rfl
@[go_sem] theorem Tryz.xag160:Tryz.prog.aggT 160=some false:=by kernel_rfl
@[go_sem] theorem Tryz.xpl161:Tryz.prog.plT 161=some [(0,1),(1,1)]:=by kernel_rfl
@[go_sem] theorem Tryz.xze161:Tryz.prog.zeroT 161=some [Value.pointer none,Value.pointer none]:=by kernel_rfl
@[go_sem] theorem Tryz.xzk161:cE [Value.pointer none,Value.pointer none]=true:=by kernel_rfl
@[go_sem] theorem Tryz.xel168:Tryz.prog.elemT 168=some 112:=by kernel_rfl
@[go_sem] theorem Tryz.xmt218:Tryz.prog.mapT 218=some (9,3):=by kernel_rfl
@[go_sem] theorem Tryz.xz13:Tryz.prog.zero1 3=some (Value.int IntKind.i64 0):=by kernel_rfl
@[go_sem] theorem Tryz.xel228:Tryz.prog.elemT 228=some 101:=by kernel_rfl
@[go_sem] theorem Tryz.xel236:Tryz.prog.elemT 236=some 2:=by kernel_rfl
@[go_sem] theorem Tryz.xmt260:Tryz.prog.mapT 260=some (3,4):=by kernel_rfl
@[go_sem] theorem Tryz.xpl271:Tryz.prog.plT 271=some [(0,7),(7,7)]:=by kernel_rfl
@[go_sem] theorem Tryz.xze271:Tryz.prog.zeroT 271=some [Value.int IntKind.i64 0,Value.string ⟨#[]⟩,Value.int IntKind.i64 0,Value.int IntKind.i64 0,Value.int IntKind.i64 0,Value.int IntKind.i64 0,Value.bool false,Value.int IntKind.i64 0,Value.string ⟨#[]⟩,Value.int IntKind.i64 0,Value.int IntKind.i64 0,Value.int IntKind.i64 0,Value.int IntKind.i64 0,Value.bool false]:=by kernel_rfl
@[go_sem] theorem Tryz.xzk271:cE [Value.int IntKind.i64 0,Value.string ⟨#[]⟩,Value.int IntKind.i64 0,Value.int IntKind.i64 0,Value.int IntKind.i64 0,Value.int IntKind.i64 0,Value.bool false,Value.int IntKind.i64 0,Value.string ⟨#[]⟩,Value.int IntKind.i64 0,Value.int IntKind.i64 0,Value.int IntKind.i64 0,Value.int IntKind.i64 0,Value.bool false]=true:=by kernel_rfl
attribute [go_sem] Tryz.underlying0 Tryz.underlying1 Tryz.underlying2 Tryz.underlying3 Tryz.underlying4 Tryz.underlying5 Tryz.underlying6 Tryz.underlying7 Tryz.underlying8 Tryz.underlying9 Tryz.underlying10 Tryz.underlying11 Tryz.underlying12 Tryz.underlying13 Tryz.underlying14 Tryz.underlying15 Tryz.underlying16 Tryz.underlying17 Tryz.underlying18 Tryz.underlying19 Tryz.underlying20 Tryz.underlying21 Tryz.underlying22 Tryz.underlying23 Tryz.underlying24 Tryz.underlying25 Tryz.underlying26 Tryz.underlying27 Tryz.underlying28 Tryz.underlying29 Tryz.underlying30 Tryz.underlying31 Tryz.underlying32 Tryz.underlying33 Tryz.underlying34 Tryz.underlying35 Tryz.underlying36 Tryz.underlying37 Tryz.underlying38 Tryz.underlying39 Tryz.underlying40 Tryz.underlying41 Tryz.underlying42 Tryz.underlying43 Tryz.underlying44 Tryz.underlying45 Tryz.underlying46 Tryz.underlying47 Tryz.underlying48 Tryz.underlying49 Tryz.underlying50 Tryz.underlying51 Tryz.underlying52 Tryz.underlying53 Tryz.underlying54 Tryz.underlying55 Tryz.underlying56 Tryz.underlying57 Tryz.underlying58 Tryz.underlying59 Tryz.underlying60 Tryz.underlying61 Tryz.underlying62 Tryz.underlying63 Tryz.underlying64 Tryz.underlying65 Tryz.underlying66 Tryz.underlying67 Tryz.underlying68 Tryz.underlying69 Tryz.underlying70 Tryz.underlying71 Tryz.underlying72 Tryz.underlying73 Tryz.underlying74 Tryz.underlying75 Tryz.underlying76 Tryz.underlying77 Tryz.underlying78 Tryz.underlying79 Tryz.underlying80 Tryz.underlying81 Tryz.underlying82 Tryz.underlying83 Tryz.underlying84 Tryz.underlying85 Tryz.underlying86 Tryz.underlying87 Tryz.underlying88 Tryz.underlying89 Tryz.underlying90 Tryz.underlying91 Tryz.underlying92 Tryz.underlying93 Tryz.underlying94 Tryz.underlying95 Tryz.underlying96 Tryz.underlying97 Tryz.underlying98 Tryz.underlying99 Tryz.underlying100 Tryz.underlying101 Tryz.underlying102 Tryz.underlying103 Tryz.underlying104 Tryz.underlying105 Tryz.underlying106 Tryz.underlying107 Tryz.underlying108 Tryz.underlying109 Tryz.underlying110 Tryz.underlying111 Tryz.underlying112 Tryz.underlying113 Tryz.underlying114 Tryz.underlying115 Tryz.underlying116 Tryz.underlying117 Tryz.underlying118 Tryz.underlying119 Tryz.underlying120 Tryz.underlying121 Tryz.underlying122 Tryz.underlying123 Tryz.underlying124 Tryz.underlying125 Tryz.underlying126 Tryz.underlying127 Tryz.underlying128 Tryz.underlying129 Tryz.underlying130 Tryz.underlying131 Tryz.underlying132 Tryz.underlying133 Tryz.underlying134 Tryz.underlying135 Tryz.underlying136 Tryz.underlying137 Tryz.underlying138 Tryz.underlying139 Tryz.underlying140 Tryz.underlying141 Tryz.underlying142 Tryz.underlying143 Tryz.underlying144 Tryz.underlying145 Tryz.underlying146 Tryz.underlying147 Tryz.underlying148 Tryz.underlying149 Tryz.underlying150 Tryz.underlying151 Tryz.underlying152 Tryz.underlying153 Tryz.underlying154 Tryz.underlying155 Tryz.underlying156 Tryz.underlying157 Tryz.underlying158 Tryz.underlying159 Tryz.underlying160 Tryz.underlying161 Tryz.underlying162 Tryz.underlying163 Tryz.underlying164 Tryz.underlying165 Tryz.underlying166 Tryz.underlying167 Tryz.underlying168 Tryz.underlying169 Tryz.underlying170 Tryz.underlying171 Tryz.underlying172 Tryz.underlying173 Tryz.underlying174 Tryz.underlying175 Tryz.underlying176 Tryz.underlying177 Tryz.underlying178 Tryz.underlying179 Tryz.underlying180 Tryz.underlying181 Tryz.underlying182 Tryz.underlying183 Tryz.underlying184 Tryz.underlying185 Tryz.underlying186 Tryz.underlying187 Tryz.underlying188 Tryz.underlying189 Tryz.underlying190 Tryz.underlying191 Tryz.underlying192 Tryz.underlying193 Tryz.underlying194 Tryz.underlying195 Tryz.underlying196 Tryz.underlying197 Tryz.underlying198 Tryz.underlying199 Tryz.underlying200 Tryz.underlying201 Tryz.underlying202 Tryz.underlying203 Tryz.underlying204 Tryz.underlying205 Tryz.underlying206 Tryz.underlying207 Tryz.underlying208 Tryz.underlying209 Tryz.underlying210 Tryz.underlying211 Tryz.underlying212 Tryz.underlying213 Tryz.underlying214 Tryz.underlying215 Tryz.underlying216 Tryz.underlying217 Tryz.underlying218 Tryz.underlying219 Tryz.underlying220 Tryz.underlying221 Tryz.underlying222 Tryz.underlying223 Tryz.underlying224 Tryz.underlying225 Tryz.underlying226 Tryz.underlying227 Tryz.underlying228 Tryz.underlying229 Tryz.underlying230 Tryz.underlying231 Tryz.underlying232 Tryz.underlying233 Tryz.underlying234 Tryz.underlying235 Tryz.underlying236 Tryz.underlying237 Tryz.underlying238 Tryz.underlying239 Tryz.underlying240 Tryz.underlying241 Tryz.underlying242 Tryz.underlying243 Tryz.underlying244 Tryz.underlying245 Tryz.underlying246 Tryz.underlying247 Tryz.underlying248 Tryz.underlying249 Tryz.underlying250 Tryz.underlying251 Tryz.underlying252 Tryz.underlying253 Tryz.underlying254 Tryz.underlying255 Tryz.underlying256 Tryz.underlying257 Tryz.underlying258 Tryz.underlying259 Tryz.underlying260 Tryz.underlying261 Tryz.underlying262 Tryz.underlying263 Tryz.underlying264 Tryz.underlying265 Tryz.underlying266 Tryz.underlying267 Tryz.underlying268 Tryz.underlying269 Tryz.underlying270 Tryz.underlying271 Tryz.underlying272 Tryz.underlying273 Tryz.underlying274 Tryz.underlying275 Tryz.underlying276 Tryz.underlying277 Tryz.underlying278 Tryz.underlying279 Tryz.underlying280 Tryz.underlying281 Tryz.underlying282 Tryz.underlying283 Tryz.underlying284 Tryz.underlying285 Tryz.underlying286 Tryz.underlying287 Tryz.underlying288 Tryz.underlying289 Tryz.underlying290 Tryz.underlying291 Tryz.underlying292 Tryz.underlying293 Tryz.underlying294 Tryz.underlying295 Tryz.underlying296 Tryz.underlying297 Tryz.underlying298 Tryz.underlying299 Tryz.underlying300 Tryz.underlying301 Tryz.underlying302 Tryz.underlying303 Tryz.underlying304 Tryz.underlying305 Tryz.underlying306 Tryz.underlying307 Tryz.underlying308 Tryz.underlying309 Tryz.underlying310 Tryz.underlying311 Tryz.underlying312 Tryz.underlying313 Tryz.underlying314 Tryz.underlying315 Tryz.underlying316 Tryz.underlying317 Tryz.underlying318 Tryz.underlying319 Tryz.underlying320 Tryz.underlying321 Tryz.underlying322 Tryz.underlying323 Tryz.underlying324 Tryz.underlying325 Tryz.underlying326 Tryz.underlying327 Tryz.underlying328 Tryz.underlying329 Tryz.underlying330 Tryz.underlying331 Tryz.underlying332 Tryz.underlying333 Tryz.underlying334 Tryz.underlying335 Tryz.underlying336 Tryz.underlying337 Tryz.underlying338 Tryz.underlying339
@[go_sem] theorem Tryz.xio2:Tryz.prog.ioF 2=false:=by kernel_rfl
@[go_sem] theorem Tryz.xio3:Tryz.prog.ioF 3=false:=by kernel_rfl
@[go_sem] theorem Tryz.xio4:Tryz.prog.ioF 4=false:=by kernel_rfl
theorem Tryz.X4:Tryz.prog.enters 4=true:=by kernel_rfl
@[go_sem] theorem Tryz.xio5:Tryz.prog.ioF 5=false:=by kernel_rfl
@[go_sem] theorem Tryz.xio6:Tryz.prog.ioF 6=false:=by kernel_rfl
@[go_sem] theorem Tryz.xio7:Tryz.prog.ioF 7=false:=by kernel_rfl
@[go_sem] theorem Tryz.xio8:Tryz.prog.ioF 8=false:=by kernel_rfl
@[go_sem] theorem Tryz.xio9:Tryz.prog.ioF 9=false:=by kernel_rfl
@[go_sem] theorem Tryz.xio10:Tryz.prog.ioF 10=true:=by kernel_rfl
@[go_sem] theorem Tryz.xio11:Tryz.prog.ioF 11=true:=by kernel_rfl
@[go_sem] theorem Tryz.xio12:Tryz.prog.ioF 12=false:=by kernel_rfl
@[go_sem] theorem Tryz.xio13:Tryz.prog.ioF 13=false:=by kernel_rfl
theorem Tryz.X13:Tryz.prog.enters 13=true:=by kernel_rfl
@[go_sem] theorem Tryz.xio14:Tryz.prog.ioF 14=false:=by kernel_rfl
@[go_sem] theorem Tryz.xio15:Tryz.prog.ioF 15=false:=by kernel_rfl
@[go_sem] theorem Tryz.xio16:Tryz.prog.ioF 16=false:=by kernel_rfl
@[go_sem] theorem Tryz.xio17:Tryz.prog.ioF 17=true:=by kernel_rfl
theorem Tryz.X17:Tryz.prog.enters 17=true:=by kernel_rfl
@[go_sem] theorem Tryz.xio18:Tryz.prog.ioF 18=false:=by kernel_rfl
theorem Tryz.X18:Tryz.prog.enters 18=true:=by kernel_rfl
@[go_sem] theorem Tryz.xio19:Tryz.prog.ioF 19=false:=by kernel_rfl
theorem Tryz.X19:Tryz.prog.enters 19=true:=by kernel_rfl
@[go_sem] theorem Tryz.xio20:Tryz.prog.ioF 20=false:=by kernel_rfl
theorem Tryz.X20:Tryz.prog.enters 20=true:=by kernel_rfl
@[go_sem] theorem Tryz.xio21:Tryz.prog.ioF 21=false:=by kernel_rfl
theorem Tryz.X21:Tryz.prog.enters 21=true:=by kernel_rfl
@[go_sem] theorem Tryz.xio22:Tryz.prog.ioF 22=false:=by kernel_rfl
theorem Tryz.X22:Tryz.prog.enters 22=true:=by kernel_rfl
@[go_sem] theorem Tryz.xio23:Tryz.prog.ioF 23=false:=by kernel_rfl
theorem Tryz.X23:Tryz.prog.enters 23=true:=by kernel_rfl
@[go_sem] theorem Tryz.xio24:Tryz.prog.ioF 24=false:=by kernel_rfl
theorem Tryz.X24:Tryz.prog.enters 24=true:=by kernel_rfl
@[go_sem] theorem Tryz.xio25:Tryz.prog.ioF 25=false:=by kernel_rfl
theorem Tryz.X25:Tryz.prog.enters 25=true:=by kernel_rfl
@[go_sem] theorem Tryz.xio26:Tryz.prog.ioF 26=false:=by kernel_rfl
theorem Tryz.X26:Tryz.prog.enters 26=true:=by kernel_rfl
@[go_sem] theorem Tryz.xio27:Tryz.prog.ioF 27=false:=by kernel_rfl
theorem Tryz.X27:Tryz.prog.enters 27=true:=by kernel_rfl
@[go_sem] theorem Tryz.xio28:Tryz.prog.ioF 28=true:=by kernel_rfl
theorem Tryz.X28:Tryz.prog.enters 28=true:=by kernel_rfl
@[go_sem] theorem Tryz.xio29:Tryz.prog.ioF 29=false:=by kernel_rfl
theorem Tryz.X29:Tryz.prog.enters 29=true:=by kernel_rfl
@[go_sem] theorem Tryz.xio30:Tryz.prog.ioF 30=false:=by kernel_rfl
theorem Tryz.X30:Tryz.prog.enters 30=true:=by kernel_rfl
@[go_sem] theorem Tryz.xio31:Tryz.prog.ioF 31=false:=by kernel_rfl
@[go_sem] theorem Tryz.xio32:Tryz.prog.ioF 32=false:=by kernel_rfl
@[go_sem] theorem Tryz.xio33:Tryz.prog.ioF 33=false:=by kernel_rfl
@[go_sem] theorem Tryz.xio34:Tryz.prog.ioF 34=false:=by kernel_rfl
@[go_sem] theorem Tryz.xio35:Tryz.prog.ioF 35=false:=by kernel_rfl
@[go_sem] theorem Tryz.xio36:Tryz.prog.ioF 36=false:=by kernel_rfl
@[go_sem] theorem Tryz.xio37:Tryz.prog.ioF 37=true:=by kernel_rfl
theorem Tryz.X37:Tryz.prog.enters 37=true:=by kernel_rfl
@[go_sem] theorem Tryz.xio38:Tryz.prog.ioF 38=true:=by kernel_rfl
theorem Tryz.X38:Tryz.prog.enters 38=true:=by kernel_rfl
@[go_sem] theorem Tryz.xio39:Tryz.prog.ioF 39=true:=by kernel_rfl
theorem Tryz.X39:Tryz.prog.enters 39=true:=by kernel_rfl
@[go_sem] theorem Tryz.xio40:Tryz.prog.ioF 40=false:=by kernel_rfl
@[go_sem] theorem Tryz.xio41:Tryz.prog.ioF 41=false:=by kernel_rfl
theorem Tryz.X41:Tryz.prog.enters 41=true:=by kernel_rfl
@[go_sem] theorem Tryz.xio42:Tryz.prog.ioF 42=true:=by kernel_rfl
theorem Tryz.X42:Tryz.prog.enters 42=true:=by kernel_rfl
@[go_sem] theorem Tryz.xio43:Tryz.prog.ioF 43=true:=by kernel_rfl
theorem Tryz.X43:Tryz.prog.enters 43=true:=by kernel_rfl
@[go_sem] theorem Tryz.xio44:Tryz.prog.ioF 44=false:=by kernel_rfl
@[go_sem] theorem Tryz.xio45:Tryz.prog.ioF 45=false:=by kernel_rfl
theorem Tryz.X45:Tryz.prog.enters 45=true:=by kernel_rfl
@[go_sem] theorem Tryz.xio46:Tryz.prog.ioF 46=false:=by kernel_rfl
@[go_sem] theorem Tryz.xio47:Tryz.prog.ioF 47=false:=by kernel_rfl
@[go_sem] theorem Tryz.xio48:Tryz.prog.ioF 48=false:=by kernel_rfl
@[go_sem] theorem Tryz.xio49:Tryz.prog.ioF 49=false:=by kernel_rfl
@[go_sem] theorem Tryz.xio50:Tryz.prog.ioF 50=false:=by kernel_rfl
@[go_sem] theorem Tryz.xio51:Tryz.prog.ioF 51=false:=by kernel_rfl
@[go_sem] theorem Tryz.xio52:Tryz.prog.ioF 52=false:=by kernel_rfl
@[go_sem] theorem Tryz.xio53:Tryz.prog.ioF 53=false:=by kernel_rfl
@[go_sem] theorem Tryz.xio54:Tryz.prog.ioF 54=false:=by kernel_rfl
theorem Tryz.X54:Tryz.prog.enters 54=true:=by kernel_rfl
@[go_sem] theorem Tryz.xio55:Tryz.prog.ioF 55=true:=by kernel_rfl
theorem Tryz.X55:Tryz.prog.enters 55=true:=by kernel_rfl
@[go_sem] theorem Tryz.xio56:Tryz.prog.ioF 56=false:=by kernel_rfl
theorem Tryz.X56:Tryz.prog.enters 56=true:=by kernel_rfl
@[go_sem] theorem Tryz.xio57:Tryz.prog.ioF 57=false:=by kernel_rfl
theorem Tryz.X57:Tryz.prog.enters 57=true:=by kernel_rfl
@[go_sem] theorem Tryz.xio58:Tryz.prog.ioF 58=false:=by kernel_rfl
theorem Tryz.X58:Tryz.prog.enters 58=true:=by kernel_rfl
@[go_sem] theorem Tryz.xio59:Tryz.prog.ioF 59=false:=by kernel_rfl
theorem Tryz.X59:Tryz.prog.enters 59=true:=by kernel_rfl
@[go_sem] theorem Tryz.xio60:Tryz.prog.ioF 60=true:=by kernel_rfl
theorem Tryz.X60:Tryz.prog.enters 60=true:=by kernel_rfl
@[go_sem] theorem Tryz.xio61:Tryz.prog.ioF 61=false:=by kernel_rfl
theorem Tryz.X61:Tryz.prog.enters 61=true:=by kernel_rfl
@[go_sem] theorem Tryz.xio62:Tryz.prog.ioF 62=false:=by kernel_rfl
theorem Tryz.X62:Tryz.prog.enters 62=true:=by kernel_rfl
@[go_sem] theorem Tryz.xio63:Tryz.prog.ioF 63=false:=by kernel_rfl
theorem Tryz.X63:Tryz.prog.enters 63=true:=by kernel_rfl
@[go_sem] theorem Tryz.xio64:Tryz.prog.ioF 64=false:=by kernel_rfl
theorem Tryz.X64:Tryz.prog.enters 64=true:=by kernel_rfl
@[go_sem] theorem Tryz.xio65:Tryz.prog.ioF 65=false:=by kernel_rfl
theorem Tryz.X65:Tryz.prog.enters 65=true:=by kernel_rfl
@[go_sem] theorem Tryz.xio66:Tryz.prog.ioF 66=false:=by kernel_rfl
theorem Tryz.X66:Tryz.prog.enters 66=true:=by kernel_rfl
@[go_sem] theorem Tryz.xio67:Tryz.prog.ioF 67=false:=by kernel_rfl
theorem Tryz.X67:Tryz.prog.enters 67=true:=by kernel_rfl
@[go_sem] theorem Tryz.xio68:Tryz.prog.ioF 68=false:=by kernel_rfl
theorem Tryz.X68:Tryz.prog.enters 68=true:=by kernel_rfl
@[go_sem] theorem Tryz.xio69:Tryz.prog.ioF 69=false:=by kernel_rfl
theorem Tryz.X69:Tryz.prog.enters 69=true:=by kernel_rfl
@[go_sem] theorem Tryz.xio70:Tryz.prog.ioF 70=false:=by kernel_rfl
theorem Tryz.X70:Tryz.prog.enters 70=true:=by kernel_rfl
@[go_sem] theorem Tryz.xio71:Tryz.prog.ioF 71=true:=by kernel_rfl
theorem Tryz.X71:Tryz.prog.enters 71=true:=by kernel_rfl
@[go_sem] theorem Tryz.xio72:Tryz.prog.ioF 72=false:=by kernel_rfl
theorem Tryz.X72:Tryz.prog.enters 72=true:=by kernel_rfl
@[go_sem] theorem Tryz.xio73:Tryz.prog.ioF 73=true:=by kernel_rfl
theorem Tryz.X73:Tryz.prog.enters 73=true:=by kernel_rfl
@[go_sem] theorem Tryz.xio74:Tryz.prog.ioF 74=false:=by kernel_rfl
theorem Tryz.X74:Tryz.prog.enters 74=true:=by kernel_rfl
@[go_sem] theorem Tryz.xio75:Tryz.prog.ioF 75=false:=by kernel_rfl
theorem Tryz.X75:Tryz.prog.enters 75=true:=by kernel_rfl
@[go_sem] theorem Tryz.xio76:Tryz.prog.ioF 76=true:=by kernel_rfl
theorem Tryz.X76:Tryz.prog.enters 76=true:=by kernel_rfl
@[go_sem] theorem Tryz.xio77:Tryz.prog.ioF 77=true:=by kernel_rfl
theorem Tryz.X77:Tryz.prog.enters 77=true:=by kernel_rfl
@[go_sem] theorem Tryz.xio78:Tryz.prog.ioF 78=false:=by kernel_rfl
theorem Tryz.X78:Tryz.prog.enters 78=true:=by kernel_rfl
@[go_sem] theorem Tryz.xio79:Tryz.prog.ioF 79=false:=by kernel_rfl
theorem Tryz.X79:Tryz.prog.enters 79=true:=by kernel_rfl
@[go_sem] theorem Tryz.xio80:Tryz.prog.ioF 80=true:=by kernel_rfl
theorem Tryz.X80:Tryz.prog.enters 80=true:=by kernel_rfl
@[go_sem] theorem Tryz.xio81:Tryz.prog.ioF 81=true:=by kernel_rfl
theorem Tryz.X81:Tryz.prog.enters 81=true:=by kernel_rfl
@[go_sem] theorem Tryz.xio82:Tryz.prog.ioF 82=false:=by kernel_rfl
theorem Tryz.X82:Tryz.prog.enters 82=true:=by kernel_rfl
@[go_sem] theorem Tryz.xio83:Tryz.prog.ioF 83=true:=by kernel_rfl
theorem Tryz.X83:Tryz.prog.enters 83=true:=by kernel_rfl
@[go_sem] theorem Tryz.xio84:Tryz.prog.ioF 84=false:=by kernel_rfl
theorem Tryz.X84:Tryz.prog.enters 84=true:=by kernel_rfl
@[go_sem] theorem Tryz.xio85:Tryz.prog.ioF 85=false:=by kernel_rfl
theorem Tryz.X85:Tryz.prog.enters 85=true:=by kernel_rfl
@[go_sem] theorem Tryz.xio86:Tryz.prog.ioF 86=false:=by kernel_rfl
theorem Tryz.X86:Tryz.prog.enters 86=true:=by kernel_rfl
@[go_sem] theorem Tryz.xio87:Tryz.prog.ioF 87=false:=by kernel_rfl
theorem Tryz.X87:Tryz.prog.enters 87=true:=by kernel_rfl
@[go_sem] theorem Tryz.xio88:Tryz.prog.ioF 88=false:=by kernel_rfl
@[go_sem] theorem Tryz.xio89:Tryz.prog.ioF 89=false:=by kernel_rfl
@[go_sem] theorem Tryz.xio90:Tryz.prog.ioF 90=false:=by kernel_rfl
@[go_sem] theorem Tryz.xio91:Tryz.prog.ioF 91=false:=by kernel_rfl
@[go_sem] theorem Tryz.xio92:Tryz.prog.ioF 92=false:=by kernel_rfl
@[go_sem] theorem Tryz.xio93:Tryz.prog.ioF 93=false:=by kernel_rfl
@[go_sem] theorem Tryz.xio94:Tryz.prog.ioF 94=true:=by kernel_rfl
@[go_sem] theorem Tryz.xio95:Tryz.prog.ioF 95=false:=by kernel_rfl
@[go_sem] theorem Tryz.xio96:Tryz.prog.ioF 96=false:=by kernel_rfl
@[go_sem] theorem Tryz.xio97:Tryz.prog.ioF 97=false:=by kernel_rfl
@[go_sem] theorem Tryz.xio98:Tryz.prog.ioF 98=false:=by kernel_rfl
@[go_sem] theorem Tryz.xio99:Tryz.prog.ioF 99=true:=by kernel_rfl
theorem Tryz.X99:Tryz.prog.enters 99=true:=by kernel_rfl
@[go_sem] theorem Tryz.xio100:Tryz.prog.ioF 100=false:=by kernel_rfl
theorem Tryz.X100:Tryz.prog.enters 100=true:=by kernel_rfl
@[go_sem] theorem Tryz.xio101:Tryz.prog.ioF 101=false:=by kernel_rfl
@[go_sem] theorem Tryz.xio102:Tryz.prog.ioF 102=false:=by kernel_rfl
@[go_sem] theorem Tryz.xio103:Tryz.prog.ioF 103=false:=by kernel_rfl
theorem Tryz.X103:Tryz.prog.enters 103=true:=by kernel_rfl
@[go_sem] theorem Tryz.xio104:Tryz.prog.ioF 104=false:=by kernel_rfl
@[go_sem] theorem Tryz.xio105:Tryz.prog.ioF 105=false:=by kernel_rfl
@[go_sem] theorem Tryz.xio106:Tryz.prog.ioF 106=true:=by kernel_rfl
@[go_sem] theorem Tryz.xio107:Tryz.prog.ioF 107=false:=by kernel_rfl
@[go_sem] theorem Tryz.xio108:Tryz.prog.ioF 108=false:=by kernel_rfl
@[go_sem] theorem Tryz.xio109:Tryz.prog.ioF 109=false:=by kernel_rfl
@[go_sem] theorem Tryz.xio110:Tryz.prog.ioF 110=false:=by kernel_rfl
@[go_sem] theorem Tryz.xio111:Tryz.prog.ioF 111=true:=by kernel_rfl
theorem Tryz.X111:Tryz.prog.enters 111=true:=by kernel_rfl
@[go_sem] theorem Tryz.xio112:Tryz.prog.ioF 112=false:=by kernel_rfl
@[go_sem] theorem Tryz.xio113:Tryz.prog.ioF 113=false:=by kernel_rfl
@[go_sem] theorem Tryz.xio114:Tryz.prog.ioF 114=false:=by kernel_rfl
@[go_sem] theorem Tryz.xio115:Tryz.prog.ioF 115=false:=by kernel_rfl
@[go_sem] theorem Tryz.xio116:Tryz.prog.ioF 116=false:=by kernel_rfl
@[go_sem] theorem Tryz.xio117:Tryz.prog.ioF 117=false:=by kernel_rfl
@[go_sem] theorem Tryz.xio118:Tryz.prog.ioF 118=false:=by kernel_rfl
@[go_sem] theorem Tryz.xio119:Tryz.prog.ioF 119=false:=by kernel_rfl
theorem Tryz.X119:Tryz.prog.enters 119=true:=by kernel_rfl
@[go_sem] theorem Tryz.xio120:Tryz.prog.ioF 120=false:=by kernel_rfl
@[go_sem] theorem Tryz.xio121:Tryz.prog.ioF 121=true:=by kernel_rfl
@[go_sem] theorem Tryz.xio122:Tryz.prog.ioF 122=false:=by kernel_rfl
@[go_sem] theorem Tryz.xio123:Tryz.prog.ioF 123=false:=by kernel_rfl
theorem Tryz.X123:Tryz.prog.enters 123=true:=by kernel_rfl
@[go_sem] theorem Tryz.xio124:Tryz.prog.ioF 124=false:=by kernel_rfl
theorem Tryz.X124:Tryz.prog.enters 124=true:=by kernel_rfl
@[go_sem] theorem Tryz.xio125:Tryz.prog.ioF 125=false:=by kernel_rfl
theorem Tryz.X125:Tryz.prog.enters 125=true:=by kernel_rfl
@[go_sem] theorem Tryz.xio126:Tryz.prog.ioF 126=false:=by kernel_rfl
theorem Tryz.X126:Tryz.prog.enters 126=true:=by kernel_rfl
@[go_sem] theorem Tryz.xio127:Tryz.prog.ioF 127=false:=by kernel_rfl
theorem Tryz.X127:Tryz.prog.enters 127=true:=by kernel_rfl
@[go_sem] theorem Tryz.xio128:Tryz.prog.ioF 128=false:=by kernel_rfl
@[go_sem] theorem Tryz.xio129:Tryz.prog.ioF 129=false:=by kernel_rfl
@[go_sem] theorem Tryz.xio130:Tryz.prog.ioF 130=false:=by kernel_rfl
@[go_sem] theorem Tryz.xio131:Tryz.prog.ioF 131=false:=by kernel_rfl
theorem Tryz.X131:Tryz.prog.enters 131=true:=by kernel_rfl
@[go_sem] theorem Tryz.xio132:Tryz.prog.ioF 132=false:=by kernel_rfl
theorem Tryz.X132:Tryz.prog.enters 132=true:=by kernel_rfl
@[go_sem] theorem Tryz.xio133:Tryz.prog.ioF 133=false:=by kernel_rfl
theorem Tryz.X133:Tryz.prog.enters 133=true:=by kernel_rfl
@[go_sem] theorem Tryz.xio134:Tryz.prog.ioF 134=false:=by kernel_rfl
theorem Tryz.X134:Tryz.prog.enters 134=true:=by kernel_rfl
@[go_sem] theorem Tryz.xio135:Tryz.prog.ioF 135=false:=by kernel_rfl
theorem Tryz.X135:Tryz.prog.enters 135=true:=by kernel_rfl
@[go_sem] theorem Tryz.xio136:Tryz.prog.ioF 136=false:=by kernel_rfl
theorem Tryz.X136:Tryz.prog.enters 136=true:=by kernel_rfl
@[go_sem] theorem Tryz.xio137:Tryz.prog.ioF 137=false:=by kernel_rfl
theorem Tryz.X137:Tryz.prog.enters 137=true:=by kernel_rfl
@[go_sem] theorem Tryz.xio138:Tryz.prog.ioF 138=false:=by kernel_rfl
theorem Tryz.X138:Tryz.prog.enters 138=true:=by kernel_rfl
@[go_sem] theorem Tryz.xio139:Tryz.prog.ioF 139=false:=by kernel_rfl
theorem Tryz.X139:Tryz.prog.enters 139=true:=by kernel_rfl
@[go_sem] theorem Tryz.xio140:Tryz.prog.ioF 140=false:=by kernel_rfl
theorem Tryz.X140:Tryz.prog.enters 140=true:=by kernel_rfl
@[go_sem] theorem Tryz.xio141:Tryz.prog.ioF 141=false:=by kernel_rfl
theorem Tryz.X141:Tryz.prog.enters 141=true:=by kernel_rfl
@[go_sem] theorem Tryz.xio142:Tryz.prog.ioF 142=false:=by kernel_rfl
theorem Tryz.X142:Tryz.prog.enters 142=true:=by kernel_rfl
@[go_sem] theorem Tryz.xio143:Tryz.prog.ioF 143=false:=by kernel_rfl
theorem Tryz.X143:Tryz.prog.enters 143=true:=by kernel_rfl
@[go_sem] theorem Tryz.xio144:Tryz.prog.ioF 144=false:=by kernel_rfl
theorem Tryz.X144:Tryz.prog.enters 144=true:=by kernel_rfl
@[go_sem] theorem Tryz.xio145:Tryz.prog.ioF 145=false:=by kernel_rfl
theorem Tryz.X145:Tryz.prog.enters 145=true:=by kernel_rfl
@[go_sem] theorem Tryz.xio146:Tryz.prog.ioF 146=false:=by kernel_rfl
theorem Tryz.X146:Tryz.prog.enters 146=true:=by kernel_rfl
@[go_sem] theorem Tryz.xio147:Tryz.prog.ioF 147=false:=by kernel_rfl
@[go_sem] theorem Tryz.xio148:Tryz.prog.ioF 148=false:=by kernel_rfl
theorem Tryz.X148:Tryz.prog.enters 148=true:=by kernel_rfl
@[go_sem] theorem Tryz.xio149:Tryz.prog.ioF 149=false:=by kernel_rfl
theorem Tryz.X149:Tryz.prog.enters 149=true:=by kernel_rfl
@[go_sem] theorem Tryz.xio150:Tryz.prog.ioF 150=false:=by kernel_rfl
theorem Tryz.X150:Tryz.prog.enters 150=true:=by kernel_rfl
@[go_sem] theorem Tryz.xio151:Tryz.prog.ioF 151=false:=by kernel_rfl
theorem Tryz.X151:Tryz.prog.enters 151=true:=by kernel_rfl
@[go_sem] theorem Tryz.xio152:Tryz.prog.ioF 152=false:=by kernel_rfl
theorem Tryz.X152:Tryz.prog.enters 152=true:=by kernel_rfl
@[go_sem] theorem Tryz.xio153:Tryz.prog.ioF 153=true:=by kernel_rfl
theorem Tryz.X153:Tryz.prog.enters 153=true:=by kernel_rfl
@[go_sem] theorem Tryz.xio154:Tryz.prog.ioF 154=true:=by kernel_rfl
theorem Tryz.X154:Tryz.prog.enters 154=true:=by kernel_rfl
@[go_sem] theorem Tryz.xio155:Tryz.prog.ioF 155=true:=by kernel_rfl
theorem Tryz.X155:Tryz.prog.enters 155=true:=by kernel_rfl
@[go_sem] theorem Tryz.xio156:Tryz.prog.ioF 156=true:=by kernel_rfl
theorem Tryz.X156:Tryz.prog.enters 156=true:=by kernel_rfl
@[go_sem] theorem Tryz.xio157:Tryz.prog.ioF 157=false:=by kernel_rfl
theorem Tryz.X157:Tryz.prog.enters 157=true:=by kernel_rfl
@[go_sem] theorem Tryz.xio158:Tryz.prog.ioF 158=false:=by kernel_rfl
theorem Tryz.X158:Tryz.prog.enters 158=true:=by kernel_rfl
@[go_sem] theorem Tryz.xio159:Tryz.prog.ioF 159=false:=by kernel_rfl
theorem Tryz.X159:Tryz.prog.enters 159=true:=by kernel_rfl
@[go_sem] theorem Tryz.xio160:Tryz.prog.ioF 160=false:=by kernel_rfl
theorem Tryz.X160:Tryz.prog.enters 160=true:=by kernel_rfl
@[go_sem] theorem Tryz.xio161:Tryz.prog.ioF 161=false:=by kernel_rfl
theorem Tryz.X161:Tryz.prog.enters 161=true:=by kernel_rfl
@[go_sem] theorem Tryz.xio162:Tryz.prog.ioF 162=false:=by kernel_rfl
@[go_sem] theorem Tryz.xio163:Tryz.prog.ioF 163=false:=by kernel_rfl
@[go_sem] theorem Tryz.xio164:Tryz.prog.ioF 164=false:=by kernel_rfl
@[go_sem] theorem Tryz.xio165:Tryz.prog.ioF 165=false:=by kernel_rfl
@[go_sem] theorem Tryz.xio166:Tryz.prog.ioF 166=false:=by kernel_rfl
@[go_sem] theorem Tryz.xio167:Tryz.prog.ioF 167=false:=by kernel_rfl
@[go_sem] theorem Tryz.xio168:Tryz.prog.ioF 168=false:=by kernel_rfl
@[go_sem] theorem Tryz.xio169:Tryz.prog.ioF 169=false:=by kernel_rfl
@[go_sem] theorem Tryz.xio170:Tryz.prog.ioF 170=false:=by kernel_rfl
@[go_sem] theorem Tryz.xio171:Tryz.prog.ioF 171=false:=by kernel_rfl
@[go_sem] theorem Tryz.xio172:Tryz.prog.ioF 172=false:=by kernel_rfl
@[go_sem] theorem Tryz.xio173:Tryz.prog.ioF 173=true:=by kernel_rfl
@[go_sem] theorem Tryz.xio174:Tryz.prog.ioF 174=false:=by kernel_rfl
@[go_sem] theorem Tryz.xio175:Tryz.prog.ioF 175=true:=by kernel_rfl
theorem Tryz.X175:Tryz.prog.enters 175=true:=by kernel_rfl
@[go_sem] theorem Tryz.xio176:Tryz.prog.ioF 176=false:=by kernel_rfl
theorem Tryz.X176:Tryz.prog.enters 176=true:=by kernel_rfl
@[go_sem] theorem Tryz.xio177:Tryz.prog.ioF 177=false:=by kernel_rfl
theorem Tryz.X177:Tryz.prog.enters 177=true:=by kernel_rfl
@[go_sem] theorem Tryz.xio178:Tryz.prog.ioF 178=false:=by kernel_rfl
theorem Tryz.X178:Tryz.prog.enters 178=true:=by kernel_rfl
@[go_sem] theorem Tryz.xio179:Tryz.prog.ioF 179=false:=by kernel_rfl
theorem Tryz.X179:Tryz.prog.enters 179=true:=by kernel_rfl
@[go_sem] theorem Tryz.xio180:Tryz.prog.ioF 180=false:=by kernel_rfl
theorem Tryz.X180:Tryz.prog.enters 180=true:=by kernel_rfl
@[go_sem] theorem Tryz.xio181:Tryz.prog.ioF 181=false:=by kernel_rfl
@[go_sem] theorem Tryz.xio182:Tryz.prog.ioF 182=false:=by kernel_rfl
@[go_sem] theorem Tryz.xio183:Tryz.prog.ioF 183=true:=by kernel_rfl
@[go_sem] theorem Tryz.xio184:Tryz.prog.ioF 184=false:=by kernel_rfl
@[go_sem] theorem Tryz.xio185:Tryz.prog.ioF 185=false:=by kernel_rfl
@[go_sem] theorem Tryz.xio186:Tryz.prog.ioF 186=false:=by kernel_rfl
@[go_sem] theorem Tryz.xio187:Tryz.prog.ioF 187=false:=by kernel_rfl
@[go_sem] theorem Tryz.xio188:Tryz.prog.ioF 188=false:=by kernel_rfl
theorem Tryz.X188:Tryz.prog.enters 188=true:=by kernel_rfl
@[go_sem] theorem Tryz.xio189:Tryz.prog.ioF 189=true:=by kernel_rfl
theorem Tryz.X189:Tryz.prog.enters 189=true:=by kernel_rfl
@[go_sem] theorem Tryz.xio190:Tryz.prog.ioF 190=false:=by kernel_rfl
@[go_sem] theorem Tryz.xio191:Tryz.prog.ioF 191=false:=by kernel_rfl
@[go_sem] theorem Tryz.xio192:Tryz.prog.ioF 192=false:=by kernel_rfl
@[go_sem] theorem Tryz.xio193:Tryz.prog.ioF 193=false:=by kernel_rfl
theorem Tryz.X193:Tryz.prog.enters 193=true:=by kernel_rfl
@[go_sem] theorem Tryz.xio194:Tryz.prog.ioF 194=false:=by kernel_rfl
theorem Tryz.X194:Tryz.prog.enters 194=true:=by kernel_rfl
@[go_sem] theorem Tryz.xio195:Tryz.prog.ioF 195=false:=by kernel_rfl
theorem Tryz.X195:Tryz.prog.enters 195=true:=by kernel_rfl
@[go_sem] theorem Tryz.xio196:Tryz.prog.ioF 196=false:=by kernel_rfl
theorem Tryz.X196:Tryz.prog.enters 196=true:=by kernel_rfl
@[go_sem] theorem Tryz.xio197:Tryz.prog.ioF 197=false:=by kernel_rfl
theorem Tryz.X197:Tryz.prog.enters 197=true:=by kernel_rfl
@[go_sem] theorem Tryz.xio198:Tryz.prog.ioF 198=false:=by kernel_rfl
theorem Tryz.X198:Tryz.prog.enters 198=true:=by kernel_rfl
@[go_sem] theorem Tryz.xio199:Tryz.prog.ioF 199=false:=by kernel_rfl
theorem Tryz.X199:Tryz.prog.enters 199=true:=by kernel_rfl
@[go_sem] theorem Tryz.xio200:Tryz.prog.ioF 200=false:=by kernel_rfl
theorem Tryz.X200:Tryz.prog.enters 200=true:=by kernel_rfl
@[go_sem] theorem Tryz.xio201:Tryz.prog.ioF 201=false:=by kernel_rfl
theorem Tryz.X201:Tryz.prog.enters 201=true:=by kernel_rfl
@[go_sem] theorem Tryz.xio202:Tryz.prog.ioF 202=false:=by kernel_rfl
theorem Tryz.X202:Tryz.prog.enters 202=true:=by kernel_rfl
@[go_sem] theorem Tryz.xio203:Tryz.prog.ioF 203=false:=by kernel_rfl
theorem Tryz.X203:Tryz.prog.enters 203=true:=by kernel_rfl
@[go_sem] theorem Tryz.xio204:Tryz.prog.ioF 204=false:=by kernel_rfl
theorem Tryz.X204:Tryz.prog.enters 204=true:=by kernel_rfl
@[go_sem] theorem Tryz.xio205:Tryz.prog.ioF 205=false:=by kernel_rfl
theorem Tryz.X205:Tryz.prog.enters 205=true:=by kernel_rfl
@[go_sem] theorem Tryz.xio206:Tryz.prog.ioF 206=true:=by kernel_rfl
theorem Tryz.X206:Tryz.prog.enters 206=true:=by kernel_rfl
@[go_sem] theorem Tryz.xio207:Tryz.prog.ioF 207=true:=by kernel_rfl
theorem Tryz.X207:Tryz.prog.enters 207=true:=by kernel_rfl
@[go_sem] theorem Tryz.xio208:Tryz.prog.ioF 208=true:=by kernel_rfl
theorem Tryz.X208:Tryz.prog.enters 208=true:=by kernel_rfl
@[go_sem] theorem Tryz.xio209:Tryz.prog.ioF 209=true:=by kernel_rfl
theorem Tryz.X209:Tryz.prog.enters 209=true:=by kernel_rfl
@[go_sem] theorem Tryz.xio210:Tryz.prog.ioF 210=true:=by kernel_rfl
@[go_sem] theorem Tryz.xio211:Tryz.prog.ioF 211=true:=by kernel_rfl
@[go_sem] theorem Tryz.xio212:Tryz.prog.ioF 212=false:=by kernel_rfl
theorem Tryz.X212:Tryz.prog.enters 212=true:=by kernel_rfl
@[go_sem] theorem Tryz.xio213:Tryz.prog.ioF 213=false:=by kernel_rfl
theorem Tryz.X213:Tryz.prog.enters 213=true:=by kernel_rfl
@[go_sem] theorem Tryz.xio214:Tryz.prog.ioF 214=false:=by kernel_rfl
theorem Tryz.X214:Tryz.prog.enters 214=true:=by kernel_rfl
@[go_sem] theorem Tryz.xio215:Tryz.prog.ioF 215=false:=by kernel_rfl
theorem Tryz.X215:Tryz.prog.enters 215=true:=by kernel_rfl
@[go_sem] theorem Tryz.xio216:Tryz.prog.ioF 216=false:=by kernel_rfl
theorem Tryz.X216:Tryz.prog.enters 216=true:=by kernel_rfl
@[go_sem] theorem Tryz.xio217:Tryz.prog.ioF 217=false:=by kernel_rfl
theorem Tryz.X217:Tryz.prog.enters 217=true:=by kernel_rfl
@[go_sem] theorem Tryz.xio218:Tryz.prog.ioF 218=false:=by kernel_rfl
theorem Tryz.X218:Tryz.prog.enters 218=true:=by kernel_rfl
@[go_sem] theorem Tryz.xio219:Tryz.prog.ioF 219=false:=by kernel_rfl
@[go_sem] theorem Tryz.xio220:Tryz.prog.ioF 220=false:=by kernel_rfl
@[go_sem] theorem Tryz.xio221:Tryz.prog.ioF 221=false:=by kernel_rfl
@[go_sem] theorem Tryz.xio222:Tryz.prog.ioF 222=false:=by kernel_rfl
@[go_sem] theorem Tryz.xio223:Tryz.prog.ioF 223=false:=by kernel_rfl
@[go_sem] theorem Tryz.xio224:Tryz.prog.ioF 224=false:=by kernel_rfl
theorem Tryz.X224:Tryz.prog.enters 224=true:=by kernel_rfl
@[go_sem] theorem Tryz.xio225:Tryz.prog.ioF 225=false:=by kernel_rfl
@[go_sem] theorem Tryz.xio226:Tryz.prog.ioF 226=false:=by kernel_rfl
@[go_sem] theorem Tryz.xio227:Tryz.prog.ioF 227=false:=by kernel_rfl
@[go_sem] theorem Tryz.xio228:Tryz.prog.ioF 228=false:=by kernel_rfl
@[go_sem] theorem Tryz.xio229:Tryz.prog.ioF 229=false:=by kernel_rfl
@[go_sem] theorem Tryz.xio230:Tryz.prog.ioF 230=false:=by kernel_rfl
@[go_sem] theorem Tryz.xio231:Tryz.prog.ioF 231=false:=by kernel_rfl
@[go_sem] theorem Tryz.xio232:Tryz.prog.ioF 232=false:=by kernel_rfl
@[go_sem] theorem Tryz.xio233:Tryz.prog.ioF 233=false:=by kernel_rfl
@[go_sem] theorem Tryz.xio234:Tryz.prog.ioF 234=false:=by kernel_rfl
@[go_sem] theorem Tryz.xio235:Tryz.prog.ioF 235=false:=by kernel_rfl
@[go_sem] theorem Tryz.xio236:Tryz.prog.ioF 236=false:=by kernel_rfl
@[go_sem] theorem Tryz.xio237:Tryz.prog.ioF 237=false:=by kernel_rfl
@[go_sem] theorem Tryz.xio238:Tryz.prog.ioF 238=false:=by kernel_rfl
@[go_sem] theorem Tryz.xio239:Tryz.prog.ioF 239=false:=by kernel_rfl
@[go_sem] theorem Tryz.xio240:Tryz.prog.ioF 240=false:=by kernel_rfl
@[go_sem] theorem Tryz.xio241:Tryz.prog.ioF 241=false:=by kernel_rfl
@[go_sem] theorem Tryz.xio242:Tryz.prog.ioF 242=false:=by kernel_rfl
theorem Tryz.X242:Tryz.prog.enters 242=true:=by kernel_rfl
@[go_sem] theorem Tryz.xio243:Tryz.prog.ioF 243=false:=by kernel_rfl
theorem Tryz.X243:Tryz.prog.enters 243=true:=by kernel_rfl
@[go_sem] theorem Tryz.xio244:Tryz.prog.ioF 244=false:=by kernel_rfl
theorem Tryz.X244:Tryz.prog.enters 244=true:=by kernel_rfl
@[go_sem] theorem Tryz.xio245:Tryz.prog.ioF 245=true:=by kernel_rfl
theorem Tryz.X245:Tryz.prog.enters 245=true:=by kernel_rfl
@[go_sem] theorem Tryz.xio246:Tryz.prog.ioF 246=false:=by kernel_rfl
theorem Tryz.X246:Tryz.prog.enters 246=true:=by kernel_rfl
@[go_sem] theorem Tryz.xio247:Tryz.prog.ioF 247=false:=by kernel_rfl
theorem Tryz.X247:Tryz.prog.enters 247=true:=by kernel_rfl
@[go_sem] theorem Tryz.xio248:Tryz.prog.ioF 248=false:=by kernel_rfl
theorem Tryz.X248:Tryz.prog.enters 248=true:=by kernel_rfl
@[go_sem] theorem Tryz.xio249:Tryz.prog.ioF 249=false:=by kernel_rfl
@[go_sem] theorem Tryz.xio250:Tryz.prog.ioF 250=false:=by kernel_rfl
@[go_sem] theorem Tryz.xio251:Tryz.prog.ioF 251=false:=by kernel_rfl
@[go_sem] theorem Tryz.xio252:Tryz.prog.ioF 252=false:=by kernel_rfl
@[go_sem] theorem Tryz.xio253:Tryz.prog.ioF 253=true:=by kernel_rfl
@[go_sem] theorem Tryz.xio254:Tryz.prog.ioF 254=true:=by kernel_rfl
@[go_sem] theorem Tryz.xio255:Tryz.prog.ioF 255=false:=by kernel_rfl
@[go_sem] theorem Tryz.xio256:Tryz.prog.ioF 256=false:=by kernel_rfl
@[go_sem] theorem Tryz.xio257:Tryz.prog.ioF 257=false:=by kernel_rfl
@[go_sem] theorem Tryz.xio258:Tryz.prog.ioF 258=true:=by kernel_rfl
@[go_sem] theorem Tryz.xio259:Tryz.prog.ioF 259=true:=by kernel_rfl
@[go_sem] theorem Tryz.xio260:Tryz.prog.ioF 260=true:=by kernel_rfl
@[go_sem] theorem Tryz.xio261:Tryz.prog.ioF 261=false:=by kernel_rfl
@[go_sem] theorem Tryz.xio262:Tryz.prog.ioF 262=true:=by kernel_rfl
theorem Tryz.X262:Tryz.prog.enters 262=true:=by kernel_rfl
@[go_sem] theorem Tryz.xio263:Tryz.prog.ioF 263=false:=by kernel_rfl
theorem Tryz.X263:Tryz.prog.enters 263=true:=by kernel_rfl
@[go_sem] theorem Tryz.xio264:Tryz.prog.ioF 264=false:=by kernel_rfl
theorem Tryz.X264:Tryz.prog.enters 264=true:=by kernel_rfl
@[go_sem] theorem Tryz.xio265:Tryz.prog.ioF 265=false:=by kernel_rfl
theorem Tryz.X265:Tryz.prog.enters 265=true:=by kernel_rfl
@[go_sem] theorem Tryz.xio266:Tryz.prog.ioF 266=false:=by kernel_rfl
theorem Tryz.X266:Tryz.prog.enters 266=true:=by kernel_rfl
@[go_sem] theorem Tryz.xio267:Tryz.prog.ioF 267=false:=by kernel_rfl
theorem Tryz.X267:Tryz.prog.enters 267=true:=by kernel_rfl
@[go_sem] theorem Tryz.xio268:Tryz.prog.ioF 268=false:=by kernel_rfl
@[go_sem] theorem Tryz.xio269:Tryz.prog.ioF 269=true:=by kernel_rfl
@[go_sem] theorem Tryz.xio270:Tryz.prog.ioF 270=false:=by kernel_rfl
theorem Tryz.X270:Tryz.prog.enters 270=true:=by kernel_rfl
@[go_sem] theorem Tryz.xio271:Tryz.prog.ioF 271=false:=by kernel_rfl
theorem Tryz.X271:Tryz.prog.enters 271=true:=by kernel_rfl
@[go_sem] theorem Tryz.xio280:Tryz.prog.ioF 280=true:=by kernel_rfl
@[go_sem] theorem Tryz.xio281:Tryz.prog.ioF 281=true:=by kernel_rfl
@[go_sem] theorem Tryz.xio282:Tryz.prog.ioF 282=true:=by kernel_rfl
@[go_sem] theorem Tryz.xio283:Tryz.prog.ioF 283=true:=by kernel_rfl
@[go_sem] theorem Tryz.xio284:Tryz.prog.ioF 284=true:=by kernel_rfl
@[go_sem] theorem Tryz.xio289:Tryz.prog.ioF 289=true:=by kernel_rfl
theorem xW (s:ByteArray):aS Tryz.prog 124 [bT s] (aT (bB s)):=by
 refine aH Tryz.X124 Tryz.func124 rfl Tryz.ntmps124 (by rw [Tryz.results124]) (cG fun hf=>aD _ ?_);simp only [go_sem,simprocAttr,eB] at hf;have hl:s.size≤maxLen:=hf;simp only [go_sem,simprocAttr];refine ⟨fun h=>?_,fun h=>?_⟩
 ·unfold awS;simp only [go_sem,simprocAttr];have:bB s=false:=by
   simp only [bxx] at h;simp only [bB,Bool.and_eq_false_iff,decide_eq_false_iff_not];omega
  rw [this]
 ·unfold awS;simp only [go_sem,simprocAttr];refine aE (fun (k:Nat) σ => bD 15 (aC k) (aW [5,6,7,8,9,10,11,12,13] σ)) (fun k=>k≤s.size ∧ ∀ i,i<k→nmI (mD s i)=true) (fun k=>s.size - k) 0 (aA ?_) ⟨Nat.zero_le _,by omega⟩ ?_
  ·simp only [go_sem,simprocAttr]<;>rfl
  ·rintro k ⟨hk,hi⟩;refine aD _ ?_;simp only [go_sem,simprocAttr];refine ⟨fun hlt=>?_,fun hge=>?_⟩
   all_goals simp only [decide_eq_true_eq,decide_eq_false_iff_not,Int.ofNat_lt] at *
   ·unfold awS;simp only [go_sem,simprocAttr];refine ⟨⟨by omega,by omega⟩,?_⟩;refine brW (b := !nmI (mD s k)) ?_ ⟨fun hb=>?_,fun hb=>?_⟩
    ·unfold mD nmI;rw [Bool.eq_iff_iff];simp only [bxx];omega
    ·unfold awS;simp only [go_sem,simprocAttr];rw [bB,Cb hlt (by simpa using hb)];simp
    ·unfold awS;simp only [go_sem,simprocAttr];refine ⟨k+1,aA ?_,⟨hlt,fun i h2=>?_⟩,by omega⟩
     ·simp only [go_sem,simprocAttr]<;>simp [cJ hlt hl]
     ·rcases Nat.lt_or_ge i k with h3 | h3
      ·exact hi i h3
      ·rw [show i=k from by omega];simpa using hb
   ·unfold awS;simp only [go_sem,simprocAttr];rw [bB,xX (fun i h2=>hi i (by omega))];simp only [bxx] at h;simp;omega
theorem uR (s:ByteArray):aS Tryz.prog 131 [bT s] (aT (bB s)):=by
 refine aH Tryz.X131 Tryz.func131 rfl Tryz.ntmps131 (by rw [Tryz.results131]) (cG fun hf=>aD _ ?_);simp only [go_sem,simprocAttr,eB] at hf;have hl:s.size≤maxLen:=hf;simp only [go_sem,simprocAttr];refine aE (fun (k:Nat) σ => bD 3 (aC k) σ) (fun k=>k≤s.size ∧ ∀ i,i<k→nmI (mD s i)=true) (fun k=>s.size - k) 0 (aA ?_) ⟨Nat.zero_le _,by omega⟩ ?_
 ·simp only [go_sem,simprocAttr]<;>rfl
 ·rintro k ⟨hk,hi⟩;refine aD _ ?_;simp only [go_sem,simprocAttr];refine ⟨fun hlt=>?_,fun hge=>?_⟩
  all_goals simp only [decide_eq_true_eq,decide_eq_false_iff_not,Int.ofNat_lt] at *
  ·unfold awS;simp only [go_sem,simprocAttr];refine ⟨⟨by omega,by omega⟩,?_⟩;refine brW (b := !nmI (mD s k)) ?_ ⟨fun hb=>?_,fun hb=>?_⟩
   ·unfold mD nmI;rw [Bool.eq_iff_iff];simp only [bxx];omega
   ·unfold awS;simp only [go_sem,simprocAttr];rw [bB,Cb hlt (by simpa using hb)];simp
   ·unfold awS;simp only [go_sem,simprocAttr];refine ⟨k+1,aA ?_,⟨hlt,fun i h2=>?_⟩,by omega⟩
    ·simp only [go_sem,simprocAttr]<;>simp [cJ hlt hl]
    ·rcases Nat.lt_or_ge i k with h3 | h3
     ·exact hi i h3
     ·rw [show i=k from by omega];simpa using hb
  ·unfold awS;simp only [go_sem,simprocAttr];rw [bB,xX (fun i h2=>hi i (by omega)),Bool.and_true];have:(decide ((s.size:Int) ≥ 1)&&decide ((s.size:Int)≤32))=(decide (1≤s.size)&&decide (s.size≤32)):=by
    rw [Bool.eq_iff_iff];simp only [bxx];omega
   rw [this]
theorem aTx (s:ByteArray):aS Tryz.prog 178 [bT s] (aT (jM s)):=by
 refine aH Tryz.X178 Tryz.func178 rfl Tryz.ntmps178 (by rw [Tryz.results178]) (cG fun hf=>aD _ ?_);simp only [go_sem,simprocAttr,eB] at hf;have hl:s.size≤maxLen:=hf;simp only [go_sem,simprocAttr];refine ⟨fun h=>?_,fun h=>?_⟩
 ·unfold awS;simp only [go_sem,simprocAttr];have:jM s=false:=by
   simp only [bxx] at h;simp only [jM,Bool.and_eq_false_iff,decide_eq_false_iff_not];omega
  rw [this]
 ·unfold awS;simp only [go_sem,simprocAttr];refine aE (fun (k:Nat) σ => bD 14 (aC k) (aW [4,5,6,7,8,9,10,11,12] σ)) (fun k=>k≤s.size ∧ ∀ i,i<k→lnI (mD s i)=true) (fun k=>s.size - k) 0 (aA ?_) ⟨Nat.zero_le _,by omega⟩ ?_
  ·simp only [go_sem,simprocAttr]<;>rfl
  ·rintro k ⟨hk,hi⟩;refine aD _ ?_;simp only [go_sem,simprocAttr];refine ⟨fun hlt=>?_,fun hge=>?_⟩
   all_goals simp only [decide_eq_true_eq,decide_eq_false_iff_not,Int.ofNat_lt] at *
   ·unfold awS;simp only [go_sem,simprocAttr];refine ⟨⟨by omega,by omega⟩,fun _=>⟨by omega,by omega⟩,?_⟩;refine brW (b := !lnI (mD s k)) ?_ ⟨fun hb=>?_,fun hb=>?_⟩
    ·unfold mD lnI;rw [Bool.eq_iff_iff];simp only [bxx];omega
    ·unfold awS;simp only [go_sem,simprocAttr];rw [jM,Cb hlt (by simpa using hb)];simp
    ·unfold awS;simp only [go_sem,simprocAttr];refine ⟨k+1,aA ?_,⟨hlt,fun i h2=>?_⟩,by omega⟩
     ·simp only [go_sem,simprocAttr]<;>simp [cJ hlt hl]
     ·rcases Nat.lt_or_ge i k with h3 | h3
      ·exact hi i h3
      ·rw [show i=k from by omega];simpa using hb
   ·unfold awS;simp only [go_sem,simprocAttr];rw [jM,xX (fun i h2=>hi i (by omega))];simp only [bxx] at h;simp;omega
theorem aTn (s:ByteArray):aS Tryz.prog 264 [bT s] (aT (jM s)):=by
 refine aH Tryz.X264 Tryz.func264 rfl Tryz.ntmps264 (by rw [Tryz.results264]) (cG fun hf=>aD _ ?_);simp only [go_sem,simprocAttr,eB] at hf;have hl:s.size≤maxLen:=hf;simp only [go_sem,simprocAttr];refine aE (fun (k:Nat) σ => bD 3 (aC k) σ) (fun k=>k≤s.size ∧ ∀ i,i<k→lnI (mD s i)=true) (fun k=>s.size - k) 0 (aA ?_) ⟨Nat.zero_le _,by omega⟩ ?_
 ·simp only [go_sem,simprocAttr]<;>rfl
 ·rintro k ⟨hk,hi⟩;refine aD _ ?_;simp only [go_sem,simprocAttr];refine ⟨fun hlt=>?_,fun hge=>?_⟩
  all_goals simp only [decide_eq_true_eq,decide_eq_false_iff_not,Int.ofNat_lt] at *
  ·unfold awS;simp only [go_sem,simprocAttr];refine ⟨⟨by omega,by omega⟩,fun _=>⟨by omega,by omega⟩,?_⟩;refine brW (b := !lnI (mD s k)) ?_ ⟨fun hb=>?_,fun hb=>?_⟩
   ·unfold mD lnI;rw [Bool.eq_iff_iff];simp only [bxx];omega
   ·unfold awS;simp only [go_sem,simprocAttr];rw [jM,Cb hlt (by simpa using hb)];simp
   ·unfold awS;simp only [go_sem,simprocAttr];refine ⟨k+1,aA ?_,⟨hlt,fun i h2=>?_⟩,by omega⟩
    ·simp only [go_sem,simprocAttr]<;>simp [cJ hlt hl]
    ·rcases Nat.lt_or_ge i k with h3 | h3
     ·exact hi i h3
     ·rw [show i=k from by omega];simpa using hb
  ·unfold awS;simp only [go_sem,simprocAttr];rw [jM,xX (fun i h2=>hi i (by omega)),Bool.and_true];have:(decide ((s.size:Int) ≥ 1)&&decide ((s.size:Int)≤64))=(decide (1≤s.size)&&decide (s.size≤64)):=by
    rw [Bool.eq_iff_iff];simp only [bxx];omega
   rw [this]
theorem Kg {w:World} {E:Env} {a b c d e f g:V} {vs:Array Value} (h:RdVs w E [a,b,c,d,e,f,g] vs.toList):∃ x1 x2 x3 x4 x5 x6 x7,vs = #[x1,x2,x3,x4,x5,x6,x7]∧RdV w E a x1∧RdV w E b x2∧RdV w E c x3∧RdV w E d x4∧RdV w E e x5∧RdV w E f x6∧RdV w E g x7:=by
 obtain ⟨l⟩:=vs;rcases l with _ | ⟨x1,_ | ⟨x2,_ | ⟨x3,_ | ⟨x4,_ | ⟨x5,_ | ⟨x6,_ | ⟨x7,_ | ⟨x8,l⟩⟩⟩⟩⟩⟩⟩⟩<;>simp only [RdVs,and_false,and_true] at h
 exact ⟨x1,x2,x3,x4,x5,x6,x7,rfl,h⟩
theorem Vj {w:World} {E:Env} {a b:V} {vs:Array Value} (h:RdVs w E [a,b] vs.toList):∃ x1 x2,vs = #[x1,x2]∧RdV w E a x1∧RdV w E b x2:=by
 obtain ⟨l⟩:=vs;rcases l with _ | ⟨x1,_ | ⟨x2,_ | ⟨x3,l⟩⟩⟩<;>simp only [RdVs,and_false,and_true] at h
 exact ⟨x1,x2,rfl,h⟩
def RatR.eqb (s t:RatR):Bool:=s.num==t.num&&s.den==t.den
theorem aL8 (s t:RatR):EqV Tryz.prog 30 [aC s.num,aC s.den] [aC t.num,aC t.den] (s.eqb t):=by
 intro w E vs us h1 h2;obtain ⟨x1,x2,rfl,h1,h2'⟩:=Vj h1;obtain ⟨y1,y2,rfl,k1,k2⟩:=Vj h2;rw [(aG h1).1,(aG h2').1,(aG k1).1,(aG k2).1];constructor
 ·unfold Op.equal;simp [go_sem,Op.maxDepth];unfold RatR.eqb
  repeat' split
  all_goals simp_all
 ·intro p q;unfold eqGuard;simp [Tryz.eqGuardType30]
def SourceR.eqb (s t:SourceR):Bool:=s.kind==t.kind&&(s.name.toList==t.name.toList)&&s.pos.num==t.pos.num&&s.pos.den==t.pos.den&&s.speed.num==t.speed.num&&s.speed.den==t.speed.den&&(s.smooth==t.smooth)
theorem tK (s t:SourceR):EqV Tryz.prog 101 [aC s.kind,bT s.name,aC s.pos.num,aC s.pos.den,aC s.speed.num,aC s.speed.den,aT s.smooth] [aC t.kind,bT t.name,aC t.pos.num,aC t.pos.den,aC t.speed.num,aC t.speed.den,aT t.smooth] (s.eqb t):=by
 intro w E vs us h1 h2;obtain ⟨x1,x2,x3,x4,x5,x6,x7,rfl,h1,h2',h3,h4,h5,h6,h7⟩:=Kg h1;obtain ⟨y1,y2,y3,y4,y5,y6,y7,rfl,k1,k2,k3,k4,k5,k6,k7⟩:=Kg h2;rw [(aG h1).1,(aG h2').1,(aG h3).1,(aG h4).1,(aG h5).1,(aG h6).1,(aG h7).1,(aG k1).1,(aG k2).1,(aG k3).1,(aG k4).1,(aG k5).1,(aG k6).1,(aG k7).1];constructor
 ·unfold Op.equal;simp [go_sem,Op.maxDepth];unfold SourceR.eqb
  repeat' split
  all_goals simp_all
 ·intro p q;unfold eqGuard;simp [Tryz.eqGuardType101]
abbrev zSource:SourceR:=⟨0,⟨#[]⟩,⟨0,0⟩,⟨0,0⟩,false⟩
def SourceR.isZ (s:SourceR):Bool:=s.eqb zSource
theorem qQ (a b:Nat):((a:Int)).tmod (b:Int)=((a % b:Nat):Int):=by
 rw [Int.tmod_eq_emod_of_nonneg (by omega)];rfl
theorem uZ (a b:Nat):((a:Int)).tdiv (b:Int)=((a / b:Nat):Int):=by
 rw [Int.tdiv_eq_ediv_of_nonneg (by omega)];rfl
theorem cGcdU (a b:Nat):aS Tryz.prog 179 [yF a,yF b] (yF (Nat.gcd a b)):=by
 refine aH Tryz.X179 Tryz.func179 rfl Tryz.ntmps179 (by rw [Tryz.results179]) (aD _ ?_);simp only [go_sem,simprocAttr];refine aE (fun (x:Nat×Nat) σ => bD 0 (yF x.1) (bD 1 (yF x.2) σ)) (fun x=>Nat.gcd x.1 x.2=Nat.gcd a b) (fun x=>x.2) (a,b) (aA ?_) rfl ?_
 ·simp only [go_sem,simprocAttr]
 ·rintro ⟨x,y⟩ hg;simp only at hg;refine aD _ ?_;simp only [go_sem,simprocAttr];refine brW (b := !decide (y=0)) ?_ ⟨fun hb=>?_,fun hb=>?_⟩
  ·rw [Bool.eq_iff_iff];simp only [bxx];omega
  ·unfold awS;simp only [go_sem,simprocAttr];have hy:y≠0:=by simpa using hb
   refine bZ [0,1,2,3,4,5] .done rfl (by kernel_rfl) (by kernel_rfl) (by decide) ?_;simp only [go_sem,simprocAttr];refine ⟨by omega,(y,x % y),aA ?_,?_,Nat.mod_lt _ (by omega)⟩
   ·simp only [go_sem,simprocAttr,qQ]
   ·simp only;rw [← hg,Nat.gcd_comm x y,Nat.gcd_rec y x,Nat.gcd_comm]
  ·unfold awS;simp only [go_sem,simprocAttr];have hy:y=0:=by simpa using hb
   subst hy;rw [← hg,Nat.gcd_zero_right]
theorem aU2 (a b:Nat):aS Tryz.prog 224 [aC a,aC b] (aC (Nat.gcd a b)):=by
 refine aH Tryz.X224 Tryz.func224 rfl Tryz.ntmps224 (by rw [Tryz.results224]) (aD _ ?_);simp only [go_sem,simprocAttr];refine aE (fun (x:Nat×Nat) σ => bD 0 (aC x.1) (bD 1 (aC x.2) σ)) (fun x=>Nat.gcd x.1 x.2=Nat.gcd a b) (fun x=>x.2) (a,b) (aA ?_) rfl ?_
 ·simp only [go_sem,simprocAttr]
 ·rintro ⟨x,y⟩ hg;simp only at hg;refine aD _ ?_;simp only [go_sem,simprocAttr];refine brW (b := !decide (y=0)) ?_ ⟨fun hb=>?_,fun hb=>?_⟩
  ·rw [Bool.eq_iff_iff];simp only [bxx];omega
  ·unfold awS;simp only [go_sem,simprocAttr];have hy:y≠0:=by simpa using hb
   refine bZ [0,1,2,3,4,5] .done rfl (by kernel_rfl) (by kernel_rfl) (by decide) ?_;simp only [go_sem,simprocAttr];refine ⟨by omega,(y,x % y),aA ?_,?_,Nat.mod_lt _ (by omega)⟩
   ·simp only [go_sem,simprocAttr,qQ]
   ·simp only;rw [← hg,Nat.gcd_comm x y,Nat.gcd_rec y x,Nat.gcd_comm]
  ·unfold awS;simp only [go_sem,simprocAttr];have hy:y=0:=by simpa using hb
   subst hy;rw [← hg,Nat.gcd_zero_right]
theorem cRGcd (a:Int) (b:Nat) (ha : -9223372036854775807≤a) (ha2:a≤9223372036854775807):aS Tryz.prog 263 [aC a,aC b] (aC (Nat.gcd a.natAbs b)):=by
 refine aH Tryz.X263 Tryz.func263 rfl Tryz.ntmps263 (by rw [Tryz.results263]) (aD _ ?_);simp only [go_sem,simprocAttr];refine ⟨fun h=>?_,fun h=>?_⟩
 all_goals
  unfold awS;simp only [go_sem,simprocAttr];refine aE (fun (x:Nat×Nat) σ => bD 0 (aC x.1) (bD 1 (aC x.2) (aW [7,8] σ))) (fun x=>Nat.gcd x.1 x.2=Nat.gcd a.natAbs b) (fun x=>x.2) (a.natAbs,b) (aA ?_) rfl ?_
  ·simp only [bxx] at h;simp only [go_sem,simprocAttr]
   first | (rw [wrap64 (by omega) (by omega)];congr 3;omega) | (congr 3;omega)
  ·rintro ⟨x,y⟩ hg;simp only at hg;refine aD _ ?_;simp only [go_sem,simprocAttr];refine brW (b := !decide (y=0)) ?_ ⟨fun hb=>?_,fun hb=>?_⟩
   ·rw [Bool.eq_iff_iff];simp only [bxx];omega
   ·unfold awS;simp only [go_sem,simprocAttr];have hy:y≠0:=by simpa using hb
    refine bZ [0,1,2,3,4,5] .done rfl (by kernel_rfl) (by kernel_rfl) (by decide) ?_;simp only [go_sem,simprocAttr];refine ⟨by omega,(y,x % y),aA ?_,?_,Nat.mod_lt _ (by omega)⟩
    ·simp only [go_sem,simprocAttr,qQ]
    ·simp only;rw [← hg,Nat.gcd_comm x y,Nat.gcd_rec y x,Nat.gcd_comm]
   ·unfold awS;simp only [go_sem,simprocAttr];have hy:y=0:=by simpa using hb
    subst hy;rw [← hg,Nat.gcd_zero_right]
theorem aJa (n:Int) (h:I64 n):aS Tryz.prog 180 [aC n] (yF n.natAbs):=by
 obtain ⟨h1,h2⟩:=h;refine aH Tryz.X180 Tryz.func180 rfl Tryz.ntmps180 (by rw [Tryz.results180]) (aD _ ?_);simp only [go_sem,simprocAttr];refine ⟨fun h=>?_,fun h=>?_⟩
 all_goals
  simp only [bxx] at h;unfold awS;simp only [go_sem,simprocAttr]
 ·have e1:IntKind.u64.wrap n=n+18446744073709551616:=Jx (by omega) (by omega);rw [e1,Jx (by omega) (by omega)];congr 3;omega
 ·rw [Za (by omega) (by omega)];congr 3;omega
def jH (r:RatR):Bool:=decide (1≤r.den)&&decide (-9223372036854775808<r.num)&&decide (Nat.gcd r.num.natAbs r.den.natAbs=1)
theorem Dq {n:Int} (h : 0≤n):∃ k:Nat,n=k:=⟨n.toNat,by omega⟩
theorem cPRat (r:RatR) (h:r.fit):aS Tryz.prog 103 [Zf r] (aT (jH r)):=by
 obtain ⟨⟨a1,a2⟩,b1,b2⟩:=h;refine aH Tryz.X103 Tryz.func103 rfl Tryz.ntmps103 (by rw [Tryz.results103]) (aD _ ?_);simp only [go_sem,simprocAttr];refine bZ [0,1,2,3,4,5,6,7,8,9,10,11,12,13,14,15,16,17,18] .done rfl (by kernel_rfl) (by kernel_rfl) (by decide) ?_;simp only [go_sem,simprocAttr];refine ⟨_,fun _=>aJa _ ⟨a1,a2⟩,?_⟩;simp only [go_sem,simprocAttr];refine ⟨yF (Nat.gcd r.num.natAbs r.den.natAbs),fun hg=>?_,?_⟩
 ·simp only [bxx] at hg;have e1:IntKind.u64.wrap r.den=((r.den.natAbs:Nat):Int):=by rw [Za (by omega) (by omega)];omega
  rw [e1];exact cGcdU _ _
 simp only [go_sem,simprocAttr];have:(decide (r.den ≥ 1)&&decide (r.num > -9223372036854775808)&&(((Nat.gcd r.num.natAbs r.den.natAbs:Nat):Int)==1))=jH r:=by
  unfold jH;rw [Bool.eq_iff_iff];simp only [bxx];omega
 rw [this]
theorem aTm (r:RatR) (h:r.fit):aS Tryz.prog 246 [Zf r] (aT (jH r)):=by
 obtain ⟨⟨a1,a2⟩,b1,b2⟩:=h;refine aH Tryz.X246 Tryz.func246 rfl Tryz.ntmps246 (by rw [Tryz.results246]) (aD _ ?_);simp only [go_sem,simprocAttr];refine ⟨aC (Nat.gcd r.num.natAbs r.den.natAbs),fun hg=>?_,?_⟩
 ·simp only [bxx] at hg;have e1:r.den=((r.den.natAbs:Nat):Int):=by omega
  have:=cRGcd r.num r.den.natAbs (by omega) (by omega);rw [← e1] at this;exact this
 simp only [go_sem,simprocAttr];have:(decide (r.den ≥ 1)&&decide (r.num > -9223372036854775808)&&(((Nat.gcd r.num.natAbs r.den.natAbs:Nat):Int)==1))=jH r:=by
  unfold jH;rw [Bool.eq_iff_iff];simp only [bxx];omega
 rw [this]
def aGc (r:RatR) (most:Int):Bool:=jH r&&decide (r.den≤65536)&&decide (-(most*r.den)≤r.num)&&decide (r.num≤most*r.den)
theorem aN5 {m d:Int} (h0 : 0≤m) (h1:m≤1099511627776) (h2 : 1≤d) (h3:d≤65536) : 0≤m*d∧m*d≤72057594037927936:=by
 refine ⟨Int.mul_nonneg h0 (by omega),?_⟩
 calc m*d≤1099511627776*d:=Int.mul_le_mul_of_nonneg_right h1 (by omega)
  _≤1099511627776*65536:=Int.mul_le_mul_of_nonneg_left h3 (by omega)
  _=72057594037927936:=by decide
theorem aUa (r:RatR) {m:Int} (h0 : 0≤m) (h1:m≤1099511627776):(jH r&&decide (r.den≤65536)&&decide (r.num ≥ IntKind.i64.wrap (IntKind.i64.wrap (0 - m)*r.den))&&decide (r.num≤IntKind.i64.wrap (m*r.den)))=aGc r m:=by
 unfold aGc
 by_cases hv:jH r=true
 ·by_cases hd:r.den≤65536
  ·have hv':=hv;unfold jH at hv';simp only [bxx] at hv';obtain ⟨q1,q2⟩:=aN5 h0 h1 hv'.1.1 hd;have e1:IntKind.i64.wrap (0 - m) = -m:=by rw [wrap64 (by omega) (by omega)];omega
   rw [e1,Int.neg_mul,wrap64 (x := -(m*r.den)) (by omega) (by omega),wrap64 (x:=m*r.den) (by omega) (by omega)]
  ·simp [hd]
 ·simp [hv]
theorem aFt (r:RatR) (m:Int) (h:r.fit) (h0 : 0≤m) (h1:m≤1099511627776):aS Tryz.prog 218 [Zf r,aC m] (aT (aGc r m)):=by
 refine aH Tryz.X218 Tryz.func218 rfl Tryz.ntmps218 (by rw [Tryz.results218]) (aD _ ?_);simp only [go_sem,simprocAttr];refine ⟨_,cPRat r h,?_⟩;simp only [go_sem,simprocAttr];rw [aUa r h0 h1]
def jD (r:RatR) (m:Int):Bool:=decide (((r.num.natAbs:Nat):Int)≤m*r.den)
theorem Uz {n d m:Nat} (hd : 0<d):(decide (((n / d:Nat):Int)<(m:Int))||(((n / d:Nat):Int)==(m:Int))&&(((n % d:Nat):Int)==0))=decide ((n:Int)≤(m:Int)*(d:Int)):=by
 have h1:=Nat.div_add_mod n d;have h2:=Nat.mod_lt n hd;rw [Bool.eq_iff_iff];simp only [Bool.or_eq_true,Bool.and_eq_true,decide_eq_true_eq,beq_iff_eq];have e1:((n:Int)≤(m:Int)*(d:Int)) ↔ n≤m*d:=by rw [← Int.natCast_mul];omega
 rw [e1];constructor
 ·rintro (h | ⟨h,h'⟩)
  ·have h3:n / d+1≤m:=by omega
   have:=Nat.mul_le_mul_right d h3;rw [Nat.add_mul,Nat.mul_comm (n / d)] at this;omega
  ·have h3:n / d=m:=by omega
   have h4:n % d=0:=by omega
   rw [h3,h4,Nat.mul_comm d] at h1;omega
 ·intro h;have h3:n / d≤m:=by
   have:=Nat.div_le_div_right (c:=d) h;rwa [Nat.mul_div_cancel _ hd] at this
  rcases Nat.lt_or_ge (n / d) m with h4 | h4
  ·left;omega
  ·right;have h5:n / d=m:=by omega
   refine ⟨by omega,?_⟩;rw [h5,Nat.mul_comm d] at h1;omega
theorem aLf (r:RatR) (m:Nat) (h:r.fit) (hv:jH r=true):aS Tryz.prog 270 [Zf r,aC m] (aT (jD r m)):=by
 unfold jH at hv;simp only [bxx] at hv;obtain ⟨⟨a1,a2⟩,b1,b2⟩:=h;obtain ⟨d,hd⟩:=Dq (n:=r.den) (by omega);refine aH Tryz.X270 Tryz.func270 rfl Tryz.ntmps270 (by rw [Tryz.results270]) (aD _ ?_);simp only [go_sem,simprocAttr];refine ⟨fun h=>?_,fun h=>?_⟩
 all_goals
  simp only [bxx] at h;unfold awS;simp only [go_sem,simprocAttr]
 ·have e1:IntKind.i64.wrap (0 - r.num)=((r.num.natAbs:Nat):Int):=by rw [wrap64 (by omega) (by omega)];omega
  have hq:r.num.natAbs / d≤r.num.natAbs:=Nat.div_le_self _ _;rw [e1,hd,uZ,qQ,Jy (by omega),Uz (by omega)];unfold jD;rw [hd];exact ⟨by omega,fun _=>by omega,fun _=>by omega,rfl⟩
 ·have e1:r.num=((r.num.natAbs:Nat):Int):=by omega
  have hq:r.num.natAbs / d≤r.num.natAbs:=Nat.div_le_self _ _;have e2:jD r m=decide (((r.num.natAbs:Nat):Int)≤m*(d:Int)):=by unfold jD;rw [hd]
  rw [e2,e1,hd,uZ,qQ,Jy (by omega),Uz (by omega)];exact ⟨by omega,fun _=>by omega,fun _=>by omega,rfl⟩
def An (p q:Nat):Nat:=if p > 4294967296∨q > 4294967296 then 0 else if p / Nat.gcd p q > 4294967296 / q then 0 else p / Nat.gcd p q*q
theorem aAs (p q:Nat):p / Nat.gcd p q*q=Nat.lcm p q:=by
 rw [Nat.lcm,Nat.mul_comm,Nat.mul_comm p q,Nat.mul_div_assoc q (Nat.gcd_dvd_left p q)]
theorem aUd {p q:Nat} (hp : 1≤p) (hq : 1≤q) (h:Nat.lcm p q≤65536):An p q=Nat.lcm p q:=by
 have h1:p≤Nat.lcm p q:=Nat.le_of_dvd (Nat.lcm_pos hp hq) (Nat.dvd_lcm_left p q);have h2:q≤Nat.lcm p q:=Nat.le_of_dvd (Nat.lcm_pos hp hq) (Nat.dvd_lcm_right p q);have h3:p / Nat.gcd p q≤4294967296 / q:=by
  rw [Nat.le_div_iff_mul_le hq,aAs];omega
 unfold An;rw [if_neg (by omega),if_neg (by omega),aAs]
theorem aP8 {p q:Nat} (hp : 1≤p) (hq : 1≤q) (h : ¬ Nat.lcm p q≤65536):An p q=0∨65536<An p q:=by
 unfold An;split
 ·exact .inl rfl
 ·split
  ·exact .inl rfl
  ·rw [aAs];omega
theorem cBase (s:SourceR) {p q:Nat} (hp:s.pos.den=p) (hq:s.speed.den=q) (h1 : 1≤p) (h2 : 1≤q) (h3:p≤9223372036854775807) (h4:q≤9223372036854775807):aS Tryz.prog 271 [wK s] (aC (An p q)):=by
 refine aH Tryz.X271 Tryz.func271 rfl Tryz.ntmps271 (by rw [Tryz.results271]) (aD _ ?_);simp only [go_sem,simprocAttr,hp,hq];refine brW (b:=decide (p > 4294967296∨q > 4294967296)) ?_ ⟨fun hb=>?_,fun hb=>?_⟩
 ·rw [Bool.eq_iff_iff];simp only [bxx];omega
 ·unfold awS;simp only [go_sem,simprocAttr];simp only [decide_eq_true_eq] at hb;unfold An;rw [if_pos hb];rfl
 ·unfold awS;simp only [go_sem,simprocAttr];simp only [decide_eq_false_iff_not] at hb;refine bZ [0,1,2,3,4,5,6,7,8,9,10,11] .done rfl (by kernel_rfl) (by kernel_rfl) (by decide) ?_;simp only [go_sem,simprocAttr];refine ⟨_,cRGcd p q (by omega) (by omega),?_⟩;have hg : 0<Nat.gcd p q:=Nat.gcd_pos_of_pos_left _ (by omega);have hle:p / Nat.gcd p q≤p:=Nat.div_le_self _ _;have hle2 : 4294967296 / q≤4294967296:=Nat.div_le_self _ _;have hn:(p:Int).natAbs=p:=Int.natAbs_natCast p;have e2:(4294967296:Int).tdiv (q:Int)=((4294967296 / q:Nat):Int):=uZ 4294967296 q;simp only [go_sem,simprocAttr,hn,uZ,e2];rw [Jy (n:=p / Nat.gcd p q) (by omega),Jy (n:=4294967296 / q) (by omega)];refine ⟨by omega,by omega,?_⟩;refine brW (b:=decide (p / Nat.gcd p q > 4294967296 / q)) ?_ ⟨fun hb2=>?_,fun hb2=>?_⟩
  ·rw [Bool.eq_iff_iff];simp only [bxx];omega
  ·unfold awS;simp only [go_sem,simprocAttr];simp only [bxx] at hb2;unfold An;rw [if_neg (by omega),if_pos hb2];rfl
  ·unfold awS;simp only [go_sem,simprocAttr];simp only [bxx] at hb2;have h5:p / Nat.gcd p q*q≤4294967296:=(Nat.le_div_iff_mul_le (by omega)).1 (by omega);rw [← Int.natCast_mul,wrap64 (by omega) (by omega)];unfold An;rw [if_neg (by omega),if_neg (by omega)]
def fF (l:List Int):Bool:=decide (l.length≤4)&&l.all fun c=>decide (-1≤c)&&decide (c≤3)
theorem cM {α : Type} {d : α} {p : α → Bool} {l:List α} {k:Nat} (h:k<l.length) (hp:p (l.getD k d)=false):l.all p=false:=by
 rw [List.getD_eq_getElem?_getD,List.getElem?_eq_getElem h,Option.getD_some] at hp;rw [Bool.eq_false_iff,ne_eq,List.all_eq_true];intro h';have:=h' _ (List.getElem_mem h);rw [hp] at this;cases this
theorem bS {α : Type} {d : α} {p : α → Bool} {l:List α} (h:∀ k,k<l.length→p (l.getD k d)=true):l.all p=true:=by
 rw [List.all_eq_true];intro c hc;obtain ⟨k,hk,rfl⟩:=List.mem_iff_getElem.1 hc;have:=h k hk;rwa [List.getD_eq_getElem?_getD,List.getElem?_eq_getElem hk,Option.getD_some] at this
theorem upto {p:Nat→Prop} {k:Nat} (h:∀ i,i<k→p i) (hk:p k):∀ i,i<k+1→p i:=fun i hi=>by
 rcases Nat.lt_or_ge i k with h3 | h3
 ·exact h i h3
 ·rw [show i=k from by omega];exact hk
theorem cPChans (l:List Int):aS Tryz.prog 176 [.t (bY l)] (aT (fF l)):=by
 refine aH Tryz.X176 Tryz.func176 rfl Tryz.ntmps176 (by rw [Tryz.results176]) (cG fun hf=>aD _ ?_);simp only [go_sem,simprocAttr,eB] at hf;have hl:l.length≤maxLen:=by first | exact hf.1 | exact hf.1.1
 simp only [go_sem,simprocAttr];refine ⟨fun h=>?_,fun h=>?_⟩
 ·unfold awS;simp only [go_sem,simprocAttr];simp only [bxx] at h;have:fF l=false:=by simp only [fF,Bool.and_eq_false_iff,decide_eq_false_iff_not];omega
  rw [this]
 ·unfold awS;simp only [go_sem,simprocAttr];simp only [bxx] at h;refine aE (fun (k:Nat) σ => bD 10 (aC k) (aW [5,6,7] σ)) (fun k=>k≤l.length ∧ ∀ i,i<k→(decide (-1≤l.getD i 0)&&decide (l.getD i 0≤3))=true) (fun k=>l.length - k) 0 (aA ?_) ⟨Nat.zero_le _,by omega⟩ ?_
  ·simp only [go_sem,simprocAttr]<;>rfl
  ·rintro k ⟨hk,hi⟩;refine aD _ ?_;simp only [go_sem,simprocAttr];refine ⟨fun hlt=>?_,fun hge=>?_⟩
   ·simp only [bxx] at hlt;unfold awS;simp only [go_sem,simprocAttr];refine ⟨⟨by omega,by omega⟩,?_⟩;refine brW (b := !(decide (-1≤l.getD k 0)&&decide (l.getD k 0≤3))) ?_ ⟨fun hb=>?_,fun hb=>?_⟩
    ·rw [Bool.eq_iff_iff];simp only [bxx];omega
    ·unfold awS;simp only [go_sem,simprocAttr];unfold fF;rw [cM (d:=(0:Int)) (p:=fun c=>decide (-1≤c)&&decide (c≤3)) (k:=k) (by omega) (nt hb),Bool.and_false]
    ·unfold awS;simp only [go_sem,simprocAttr];refine ⟨k+1,aA ?_,⟨by omega,upto hi (nf hb)⟩,by omega⟩;simp only [go_sem,simprocAttr]<;>simp [cJ (show k<l.length by omega) hl]
   ·simp only [bxx] at hge;unfold awS;simp only [go_sem,simprocAttr];unfold fF;rw [bS (d:=(0:Int)) (p:=fun c=>decide (-1≤c)&&decide (c≤3)) (fun i h2=>hi i (by omega)),Bool.and_true,decide_eq_true (by omega:l.length≤4)]
theorem xV (k:Int):aS Tryz.prog 265 [aC k] (aT (k==2||k==3)):=by
 refine aH Tryz.X265 Tryz.func265 rfl Tryz.ntmps265 (by rw [Tryz.results265]) (aD _ ?_);simp only [go_sem,simprocAttr]
theorem uS (s:SourceR):aS Tryz.prog 217 [wK s] (aT s.isZ):=by
 refine aH Tryz.X217 Tryz.func217 rfl Tryz.ntmps217 (by rw [Tryz.results217]) (aD _ ?_);simp only [go_sem,simprocAttr];refine ⟨_,tK s zSource,?_⟩;rfl
def Md (s:SourceR):Nat:=Nat.lcm s.pos.den.natAbs s.speed.den.natAbs
def aY (s:SourceR):Bool:=s.isZ||((s.kind==1||s.kind==2)&&bB s.name&&jH s.pos&&jH s.speed&&jD s.pos 1099511627776&&jD s.speed 1024&&decide (Md s≤65536))
theorem jS {r:RatR} (h:jH r=true) : 1≤r.den:=by
 unfold jH at h;simp only [bxx] at h;exact h.1.1
theorem aFv (r:RatR) (m:Int):aGc r m=(jH r&&decide (r.den≤65536)&&jD r m):=by
 unfold aGc jD;rw [Bool.and_assoc];congr 1;rw [Bool.eq_iff_iff];simp only [bxx];omega
theorem aS6 {s:SourceR} (h1:jH s.pos=true) (h2:jH s.speed=true) (h:Md s≤65536):s.pos.den≤65536∧s.speed.den≤65536:=by
 have d1:=jS h1;have d2:=jS h2;unfold Md at h;have h3:s.pos.den.natAbs≤_:=Nat.le_of_dvd (Nat.lcm_pos (by omega) (by omega)) (Nat.dvd_lcm_left s.pos.den.natAbs s.speed.den.natAbs);have h4:s.speed.den.natAbs≤_:=Nat.le_of_dvd (Nat.lcm_pos (by omega) (by omega)) (Nat.dvd_lcm_right s.pos.den.natAbs s.speed.den.natAbs);omega
theorem aFm (s:SourceR) (h:s.fit):aS Tryz.prog 177 [wK s] (aT (aY s)):=by
 refine aH Tryz.X177 Tryz.func177 rfl Tryz.ntmps177 (by rw [Tryz.results177]) (aD _ ?_);simp only [go_sem,simprocAttr];refine ⟨_,tK s zSource,?_⟩;refine brW (b:=s.isZ) ?_ ⟨fun hb=>?_,fun hb=>?_⟩
 ·rfl
 ·unfold awS;simp only [go_sem,simprocAttr];unfold aY;rw [hb];rfl
 ·unfold awS;simp only [go_sem,simprocAttr];refine ⟨_,fun _=>xW s.name,?_⟩;simp only [go_sem,simprocAttr];refine brW (b := !((s.kind==1||s.kind==2)&&bB s.name)) ?_ ⟨fun hc=>?_,fun hc=>?_⟩
  ·(try simp only [bne]);cases (s.kind==1)<;>cases (s.kind==2)<;>cases (bB s.name)<;>rfl
  ·unfold awS;simp only [go_sem,simprocAttr];have hc':=nt hc;unfold aY;rw [hb,hc'];rfl
  ·unfold awS;simp only [go_sem,simprocAttr];have hc':=nf hc;have hd:=h.speed.den.1;refine bZ [0,1,2,3,4,5,6,7,8,9,10,11,12,13,14,15,16,17,18,19,20,21,22,23,24,25,26] .done rfl (by kernel_rfl) (by kernel_rfl) (by decide) ?_;simp only [go_sem,simprocAttr];refine ⟨_,aFt s.pos 1099511627776 h.pos (by omega) (by omega),?_⟩;simp only [go_sem,simprocAttr];refine ⟨_,fun _=>aFt s.speed 1024 h.speed (by omega) (by omega),?_⟩;simp only [go_sem,simprocAttr];refine ⟨aC (Nat.gcd s.pos.den.natAbs s.speed.den.natAbs),fun hg=>?_,?_⟩
   ·simp only [bxx,aGc] at hg;have d1:=jS hg.1.1.1.1;have d2:=jS hg.2.1.1.1;have e1:s.pos.den=((s.pos.den.natAbs:Nat):Int):=by omega
    have e2:s.speed.den=((s.speed.den.natAbs:Nat):Int):=by omega
    have:=aU2 s.pos.den.natAbs s.speed.den.natAbs;rw [← e1, ← e2] at this;exact this
   simp only [go_sem,simprocAttr];refine ⟨fun hg=>?_,?_⟩
   ·simp only [bxx,aGc] at hg;have d1:=jS hg.1.1.1.1;have : 0<Nat.gcd s.pos.den.natAbs s.speed.den.natAbs:=Nat.gcd_pos_of_pos_left _ (by omega);omega
   ·rw [aFv,aFv];have key:(jH s.pos&&decide (s.pos.den≤65536)&&jD s.pos 1099511627776&&(jH s.speed&&decide (s.speed.den≤65536)&&jD s.speed 1024)&&decide (IntKind.i64.wrap (IntKind.i64.wrap (s.pos.den.tdiv ((Nat.gcd s.pos.den.natAbs s.speed.den.natAbs:Nat):Int))*s.speed.den)≤65536))=aY s:=by
     unfold aY;rw [hb,Bool.and_eq_true] at *;rw [Bool.false_or,hc'.1,hc'.2];cases h1:jH s.pos
     ·rfl
     cases h2:jH s.speed
     ·simp
     have d1:=jS h1;have d2:=jS h2;obtain ⟨p,hp⟩:=Dq (n:=s.pos.den) (by omega);obtain ⟨q,hq⟩:=Dq (n:=s.speed.den) (by omega);have p1 : 1≤p:=by omega
     have q1 : 1≤q:=by omega
     unfold Md;have hb1:=h.pos.den.2;have hb2:=h.speed.den.2;rw [hp] at hb1;rw [hq] at hb2;simp only [hp,hq,Int.natAbs_natCast];have hle:p / Nat.gcd p q≤p:=Nat.div_le_self _ _
     by_cases hsm:p≤65536∧q≤65536
     ·have hm:p / Nat.gcd p q*q≤65536*65536:=Nat.mul_le_mul (by omega) hsm.2;have e0:IntKind.i64.wrap (IntKind.i64.wrap ((p:Int).tdiv ((Nat.gcd p q:Nat):Int))*(q:Int))=((Nat.lcm p q:Nat):Int):=by
       rw [uZ,Jy (by omega), ← Int.natCast_mul,Jy (by omega),aAs]
      have e1:decide ((p:Int)≤65536)=true:=by simp;omega
      have e2:decide ((q:Int)≤65536)=true:=by simp;omega
      have e3:decide (((Nat.lcm p q:Nat):Int)≤65536)=decide (Nat.lcm p q≤65536):=by rw [Bool.eq_iff_iff];simp only [bxx];omega
      simp only [e0,e1,e2,e3]
      (try simp only [bne]);cases (jD s.pos 1099511627776)<;>cases (jD s.speed 1024)<;>cases (decide (Nat.lcm p q≤65536))<;>rfl
     ·have e1:(decide ((p:Int)≤65536)&&decide ((q:Int)≤65536))=false:=by simp;omega
      have h3:p≤Nat.lcm p q:=Nat.le_of_dvd (Nat.lcm_pos p1 q1) (Nat.dvd_lcm_left p q);have h4:q≤Nat.lcm p q:=Nat.le_of_dvd (Nat.lcm_pos p1 q1) (Nat.dvd_lcm_right p q);have e2:decide (Nat.lcm p q≤65536)=false:=by simp;omega
      rw [e2];revert e1;generalize decide ((p:Int)≤65536)=b1;generalize decide ((q:Int)≤65536)=b2;intro e1;cases b1<;>cases b2<;>simp_all
    rw [key]
theorem fA (s:SourceR) (h:s.fit):aS Tryz.prog 266 [wK s] (aT (aY s)):=by
 refine aH Tryz.X266 Tryz.func266 rfl Tryz.ntmps266 (by rw [Tryz.results266]) (aD _ ?_);simp only [go_sem,simprocAttr];refine ⟨_,uS s,?_⟩;simp only [go_sem,simprocAttr];refine brW (b:=s.isZ) ?_ ⟨fun hb=>?_,fun hb=>?_⟩
 ·rfl
 ·unfold awS;simp only [go_sem,simprocAttr];unfold aY;rw [hb];rfl
 ·unfold awS;simp only [go_sem,simprocAttr];refine ⟨_,fun _=>uR s.name,?_⟩;simp only [go_sem,simprocAttr];refine ⟨_,fun _=>aTm s.pos h.pos,?_⟩;simp only [go_sem,simprocAttr];refine ⟨_,fun _=>aTm s.speed h.speed,?_⟩;simp only [go_sem,simprocAttr];refine brW (b := !((s.kind==1||s.kind==2)&&bB s.name&&jH s.pos&&jH s.speed)) ?_ ⟨fun hc=>?_,fun hc=>?_⟩
  ·(try simp only [bne]);cases (s.kind==1)<;>cases (s.kind==2)<;>cases (bB s.name)<;>cases (jH s.pos)<;>cases (jH s.speed)<;>rfl
  ·unfold awS;simp only [go_sem,simprocAttr];unfold aY;rw [hb,nt hc];rfl
  ·unfold awS;simp only [go_sem,simprocAttr];have hc1:=nf hc;have hc2:=hc1;simp only [Bool.and_eq_true] at hc2;refine ⟨_,aLf s.pos 1099511627776 h.pos hc2.1.2,?_⟩;simp only [go_sem,simprocAttr];refine ⟨_,fun _=>aLf s.speed 1024 h.speed hc2.2,?_⟩;simp only [go_sem,simprocAttr];refine brW (b := !(jD s.pos 1099511627776&&jD s.speed 1024)) ?_ ⟨fun hd=>?_,fun hd=>?_⟩
   ·(try simp only [bne]);cases (jD s.pos 1099511627776)<;>cases (jD s.speed 1024)<;>rfl
   ·unfold awS;simp only [go_sem,simprocAttr];have hd':=nt hd;unfold aY;rw [hb,hc1,Bool.true_and,hd'];rfl
   ·unfold awS;simp only [go_sem,simprocAttr];have d1:=jS hc2.1.2;have d2:=jS hc2.2;obtain ⟨p,hp⟩:=Dq (n:=s.pos.den) (by omega);obtain ⟨q,hq⟩:=Dq (n:=s.speed.den) (by omega);have b1:=h.pos.den.2;have b2:=h.speed.den.2;refine ⟨_,cBase s hp hq (by omega) (by omega) (by omega) (by omega),?_⟩;simp only [go_sem,simprocAttr];have e1:(decide (((An p q:Nat):Int) ≥ 1)&&decide (((An p q:Nat):Int)≤65536))=decide (Md s≤65536):=by
     have e2:Md s=Nat.lcm p q:=by unfold Md;rw [hp,hq];rfl
     rw [e2]
     by_cases hl:Nat.lcm p q≤65536
     ·rw [aUd (by omega) (by omega) hl];have:=Nat.lcm_pos (m:=p) (n:=q) (by omega) (by omega);rw [Bool.eq_iff_iff];simp only [bxx];omega
     ·have:=aP8 (p:=p) (q:=q) (by omega) (by omega) hl;rw [Bool.eq_iff_iff];simp only [bxx];omega
    rw [e1];have hd':=nf hd;unfold aY;simp only [Bool.and_eq_true] at hd';rw [hb,hc1,hd'.1,hd'.2];rfl
def emp (s:ByteArray):Bool:=s.toList==(⟨#[]⟩:ByteArray).toList
def gT (c:ClipR):Bool:=decide (0≤c.off)&&decide (c.len≤c.total)&&decide (c.total≤2147483647)&&decide (c.off≤c.total - c.len)
def dG (c:ClipR):Bool:=c.off==0&&c.total==0
def cN (c:ClipR):Bool :=
 if c.kind=0 then c.a.isZ&&c.b.isZ&&dG c&&c.param==0&&emp c.text&&c.gain==0&&c.chan.length==0
 else if c.kind=1 then c.b.isZ&&dG c&&c.param==0&&emp c.text
 else if c.kind=2 then gT c&&c.param==0&&emp c.text
 else if c.kind=3 then gT c&&decide (0≤c.param)&&decide (c.param≤3)&&emp c.text
 else if c.kind=4 then dG c&&decide (0≤c.param)&&decide (c.param≤255)&&emp c.text
 else if c.kind=5 then c.b.isZ&&dG c&&c.param==0&&jM c.text
 else false
def pK (c:ClipR):Bool:=decide (1≤c.len)&&decide (c.len≤2147483647)&&decide (0≤c.gain)&&decide (c.gain≤65536)&&fF c.chan&&aY c.a&&aY c.b
def cP (c:ClipR):Bool:=pK c&&cN c
theorem cPClip (c:ClipR) (h:c.fit):aS Tryz.prog 100 [pN c] (aT (cP c)):=by
 refine aH Tryz.X100 Tryz.func100 rfl Tryz.ntmps100 (by rw [Tryz.results100]) (aD _ ?_);simp only [go_sem,simprocAttr];refine ⟨_,fun _=>cPChans c.chan,?_⟩;simp only [go_sem,simprocAttr];refine ⟨_,fun _=>aFm c.a h.a,?_⟩;simp only [go_sem,simprocAttr];refine ⟨_,fun _=>aFm c.b h.b,?_⟩;simp only [go_sem,simprocAttr];refine brW (b := !pK c) ?_ ⟨fun hb=>?_,fun hb=>?_⟩
 ·have:pK c=(decide (1≤c.len)&&decide (c.len≤2147483647)&&decide (0≤c.gain)&&decide (c.gain≤65536)&&fF c.chan&&aY c.a&&aY c.b):=rfl;rw [this];have e1:(decide (c.len<1)||decide (c.len > 2147483647)||decide (c.gain<0)||decide (c.gain > 65536)) = !(decide (1≤c.len)&&decide (c.len≤2147483647)&&decide (0≤c.gain)&&decide (c.gain≤65536)):=by rw [Bool.eq_iff_iff];simp only [bxx];omega
  rw [e1];simp only [Bool.not_and,Bool.or_assoc]
 ·unfold awS;simp only [go_sem,simprocAttr];unfold cP;rw [nt hb];rfl
 ·unfold awS;simp only [go_sem,simprocAttr];refine ⟨_,tK c.b zSource,?_⟩;refine bZ [0,1,2,3,4,5,6,7] .done rfl (by kernel_rfl) (by kernel_rfl) (by decide) ?_;simp only [go_sem,simprocAttr];have hbo:(IntKind.i64.wrap (c.total - c.len))=c.total - c.len ∨ ¬ (0≤c.off∧c.len≤c.total∧c.total≤2147483647):=by
   have:=nf hb;unfold pK at this;simp only [bxx] at this
   by_cases hx : 0≤c.off∧c.len≤c.total∧c.total≤2147483647
   ·left;exact wrap64 (by omega) (by omega)
   ·right;exact hx
  have hsh:(decide (c.off ≥ 0)&&decide (c.total ≥ c.len)&&decide (c.total≤2147483647)&&decide (c.off≤IntKind.i64.wrap (c.total - c.len)))=gT c:=by
   unfold gT;rcases hbo with e | e
   ·rw [e];first | done | (rw [Bool.eq_iff_iff];simp only [bxx];omega)
   ·rw [Bool.eq_iff_iff];simp only [bxx];omega
  rw [hsh];have hv:cP c=cN c:=by unfold cP;rw [nf hb,Bool.true_and]
  rw [hv];refine ⟨fun hk=>?_,fun hk0=>?_⟩
  ·simp only [bxx] at hk;unfold awS;simp only [go_sem,simprocAttr];refine ⟨_,tK c.a zSource,?_⟩;unfold cN;rw [if_pos hk];have e1:(((c.chan.length:Nat):Int)==0)=(c.chan.length==0):=by rw [Bool.eq_iff_iff];simp only [bxx];omega
   rw [e1];rfl
  unfold awS;simp only [go_sem,simprocAttr];refine ⟨fun hk=>?_,fun hk1=>?_⟩
  ·simp only [bxx] at hk;unfold awS;simp only [go_sem,simprocAttr];unfold cN;rw [if_neg (by omega),if_pos hk];rfl
  unfold awS;simp only [go_sem,simprocAttr];refine ⟨fun hk=>?_,fun hk2=>?_⟩
  ·simp only [bxx] at hk;unfold awS;simp only [go_sem,simprocAttr];unfold cN;rw [if_neg (by omega),if_neg (by omega),if_pos hk];rfl
  unfold awS;simp only [go_sem,simprocAttr];refine ⟨fun hk=>?_,fun hk3=>?_⟩
  ·simp only [bxx] at hk;unfold awS;simp only [go_sem,simprocAttr];unfold cN;rw [if_neg (by omega),if_neg (by omega),if_neg (by omega),if_pos hk];rfl
  unfold awS;simp only [go_sem,simprocAttr];refine ⟨fun hk=>?_,fun hk4=>?_⟩
  ·simp only [bxx] at hk;unfold awS;simp only [go_sem,simprocAttr];unfold cN;rw [if_neg (by omega),if_neg (by omega),if_neg (by omega),if_neg (by omega),if_pos hk];rfl
  unfold awS;simp only [go_sem,simprocAttr];refine ⟨fun hk=>?_,fun hk5=>?_⟩
  ·simp only [bxx] at hk;unfold awS;simp only [go_sem,simprocAttr];refine ⟨_,fun _=>aTx c.text,?_⟩;simp only [go_sem,simprocAttr];unfold cN;rw [if_neg (by omega),if_neg (by omega),if_neg (by omega),if_neg (by omega),if_neg (by omega),if_pos hk];rfl
  unfold awS;simp only [go_sem,simprocAttr];simp only [bxx] at hk0;simp only [bxx] at hk1;simp only [bxx] at hk2;simp only [bxx] at hk3;simp only [bxx] at hk4;simp only [bxx] at hk5;unfold cN;rw [if_neg hk0,if_neg hk1,if_neg hk2,if_neg hk3,if_neg hk4,if_neg hk5]
open Go.ChangeShapes Go.WideShapes
abbrev sB := { n:Int // I64 n }
theorem wf_i64 {n:Int} (h:(Lit.int .i64 n).wf=true):I64 n:=by
 have e1:IntKind.i64.min = -9223372036854775808:=by decide
 have e2:IntKind.i64.max=9223372036854775807:=by decide
 simp only [Lit.wf,Bool.and_eq_true,decide_eq_true_eq,e1,e2] at h;exact h
theorem Xc {P:Program} {t:TypeId} (ht:P.underlying t=some (.int .i64)):Opens P t fun n:sB=>[ti n.1]:=by
 intro H enc w spare held n cs x hx;obtain ⟨b,rfl,_,hw⟩:=DataW.trod_int ht hx;exact ⟨⟨b,wf_i64 hw⟩, .lit _ rfl trivial,trivial⟩
abbrev aUs := { r:RatR // r.fit }
abbrev aBc := { s:SourceR // s.fit }
abbrev aUu := { c:ClipR // c.fit }
theorem aAd:Opens Tryz.prog 2 fun n:sB=>[ti n.1]:=Xc Tryz.underlying2
theorem Mb:Opens Tryz.prog 3 fun n:sB=>[ti n.1]:=Xc Tryz.underlying3
theorem oChan:Opens Tryz.prog 3 Cj:=Xb (k := .i64) Tryz.underlying3
theorem aAc:Opens Tryz.prog 9 fun s:ByteArray=>[.lit (.string s)]:=Ff Tryz.underlying9
theorem aRf:Opens Tryz.prog 4 fun b:Bool=>[.lit (.bool b)]:=aHc Tryz.underlying4
theorem oInts:Opens Tryz.prog 22 fun l:List Int=>[bY l]:=fW (Cj 0) Tryz.underlying22 oChan (by kernel_rfl) (fun _=>rfl) (by decide)
theorem oRat:Opens Tryz.prog 30 fun r:aUs=>r.1.c :=
 Opens.map (fun x:sB×sB×Unit=>⟨⟨x.1.1,x.2.1.1⟩,x.1.2,x.2.1.2⟩) (fun _=>rfl) (dP Tryz.underlying30 (by kernel_rfl) (aN aAd (aN aAd fG)))
theorem aKp:Opens Tryz.prog 101 fun s:aBc=>s.1.c :=
 Opens.map (fun x:sB×ByteArray×aUs×aUs×Bool×Unit=>⟨⟨x.1.1,x.2.1,x.2.2.1.1,x.2.2.2.1.1,x.2.2.2.2.1⟩,x.1.2,x.2.2.1.2,x.2.2.2.1.2⟩) (fun _=>rfl)
  (dP Tryz.underlying101 (by kernel_rfl) (aN Mb (aN aAc (aN oRat (aN oRat (aN aRf fG))))))
theorem oClip:Opens Tryz.prog 103 fun c:aUu=>c.1.c :=
 Opens.map (fun x:sB×sB×aBc×aBc×sB×sB×sB×ByteArray×sB×List Int×Unit =>
   ⟨⟨x.1.1,x.2.1.1,x.2.2.1.1,x.2.2.2.1.1,x.2.2.2.2.1.1,x.2.2.2.2.2.1.1,x.2.2.2.2.2.2.1.1,x.2.2.2.2.2.2.2.1,x.2.2.2.2.2.2.2.2.1.1,x.2.2.2.2.2.2.2.2.2.1⟩,
    x.1.2,x.2.1.2,x.2.2.1.2,x.2.2.2.1.2,x.2.2.2.2.1.2,x.2.2.2.2.2.1.2,x.2.2.2.2.2.2.1.2,x.2.2.2.2.2.2.2.2.1.2⟩) (fun _=>rfl)
  (dP Tryz.underlying103 (by kernel_rfl) (aN aAd (aN Mb (aN aKp (aN aKp (aN aAd (aN aAd (aN Mb (aN aAc (aN Mb (aN oInts fG)))))))))))
abbrev Jw := { t:List ClipR // ∀ c∈t,c.fit }
theorem oClips:Opens Tryz.prog 27 fun l:List aUu=>[.list 22 (ClipR.c default) (l.map fun c=>c.1.c)] :=
 fW (k:=22) (ClipR.c default) Tryz.underlying27 oClip (by kernel_rfl) (fun _=>rfl) (by decide)
theorem oTrack:Opens Tryz.prog 27 fun t:Jw=>[jX t.1] :=
 Opens.map (fun l:List aUu=>(⟨l.map (·.1),fun c hc=>by obtain ⟨x,_,rfl⟩:=List.mem_map.1 hc;exact x.2⟩:Jw)) (fun l=>by show [T.list 22 _ (List.map ClipR.c (List.map _ l))]=_;rw [List.map_map];rfl) oClips
theorem aInts:Ap Tryz.prog 22 fun l:List Int => .t (bY l):=aAb Tryz.underlying22 oInts
theorem aStr:Ap Tryz.prog 9 fun s:ByteArray=>bT s:=Um Tryz.underlying9
set_option maxHeartbeats 4000000
def Yq (n:Int):Bool:=decide (-1≤n)&&decide (n≤3)
theorem Vc (l:List Int):fF l=(decide (l.length≤4)&&l.all Yq):=rfl
theorem dR {s:SourceR} (h:s.isZ=true):aY s=true:=by unfold aY;rw [h];rfl
theorem qN {c:ClipR} (h:cP c=true) : 1≤c.len∧c.len≤2147483647∧0≤c.gain∧c.gain≤65536∧fF c.chan=true∧aY c.a=true∧aY c.b=true∧cN c=true:=by
 unfold cP pK at h;simp only [Bool.and_eq_true,decide_eq_true_eq] at h;obtain ⟨⟨⟨⟨⟨⟨⟨q1,q2⟩,q3⟩,q4⟩,q5⟩,q6⟩,q7⟩,q8⟩:=h;exact ⟨q1,q2,q3,q4,q5,q6,q7,q8⟩
theorem Ga {c:ClipR} (h:cN c=true) : 0≤c.kind∧c.kind≤5:=by
 by_cases hk : 0≤c.kind∧c.kind≤5
 ·exact hk
 ·unfold cN at h
  repeat rw [if_neg (by omega)] at h
  cases h
theorem aGb {l:List Int} (h:fF l=true):l.length≤4:=by
 unfold fF at h;simp only [Bool.and_eq_true,decide_eq_true_eq] at h;exact h.1
theorem Vy {c:ClipR} (h : 1≤c.len) (h2:c.len≤2147483647):(decide (c.off<0)||decide (c.total<0)||decide (c.total > 2147483647)||decide (c.off > IntKind.i64.wrap (c.total - c.len))) = !gT c:=by
 unfold gT
 by_cases hx : 0≤c.total∧c.total≤2147483647
 ·rw [wrap64 (by omega) (by omega)];rw [Bool.eq_iff_iff];simp only [bxx];omega
 ·rw [Bool.eq_iff_iff];simp only [bxx];omega
theorem uD {c:ClipR}:(c.off != 0||c.total != 0) = !dG c:=by
 unfold dG
 (try simp only [bne]);cases (c.off==0)<;>cases (c.total==0)<;>rfl
theorem Wz {n m:Int}:(decide (n<0)||decide (n > m)) = !(decide (0≤n)&&decide (n≤m)):=by rw [Bool.eq_iff_iff];simp only [bxx];omega
theorem xE {n:Int}:(decide (n<0)||decide (n > 0)) = !(n==0):=by rw [Bool.eq_iff_iff];simp only [bxx];omega
theorem gap_ref {c:ClipR}:(c.gain != 0||decide (((c.chan.length:Nat):Int) > 0)) = !(c.gain==0&&c.chan.length==0):=by rw [Bool.eq_iff_iff];simp only [bxx];omega
theorem Rk {c:ClipR} (h:c.kind=0):cN c=(c.a.isZ&&c.b.isZ&&dG c&&c.param==0&&emp c.text&&c.gain==0&&c.chan.length==0):=by unfold cN;rw [if_pos h]
theorem Xu {c:ClipR} (h:c.kind=1):cN c=(c.b.isZ&&dG c&&c.param==0&&emp c.text):=by unfold cN;rw [if_neg (by omega),if_pos h]
theorem aEa {c:ClipR} (h:c.kind=2):cN c=(gT c&&c.param==0&&emp c.text):=by unfold cN;rw [if_neg (by omega),if_neg (by omega),if_pos h]
theorem aE9 {c:ClipR} (h:c.kind=3):cN c=(gT c&&decide (0≤c.param)&&decide (c.param≤3)&&emp c.text):=by unfold cN;rw [if_neg (by omega),if_neg (by omega),if_neg (by omega),if_pos h]
theorem aE8 {c:ClipR} (h:c.kind=4):cN c=(dG c&&decide (0≤c.param)&&decide (c.param≤255)&&emp c.text):=by unfold cN;rw [if_neg (by omega),if_neg (by omega),if_neg (by omega),if_neg (by omega),if_pos h]
theorem Xt {c:ClipR} (h:c.kind=5):cN c=(c.b.isZ&&dG c&&c.param==0&&jM c.text):=by unfold cN;rw [if_neg (by omega),if_neg (by omega),if_neg (by omega),if_neg (by omega),if_neg (by omega),if_pos h]
theorem dL {b:Bool} (h:b=false):V.t (T.lit (Value.bool false))=aT b:=by rw [h]
theorem cRClip (c:ClipR) (h:c.fit):aS Tryz.prog 248 [pN c] (aT (cP c)):=by
 refine aH Tryz.X248 Tryz.func248 rfl Tryz.ntmps248 (by rw [Tryz.results248]) (aD _ ?_);simp only [go_sem,simprocAttr];refine brW (b := !(decide (1≤c.len)&&decide (c.len≤2147483647)&&(decide (0≤c.kind)&&decide (c.kind≤5))&&decide (0≤c.gain)&&decide (c.gain≤65536)&&decide (c.chan.length≤4))) ?_ ⟨fun hb=>?_,fun hb=>?_⟩
 ·rw [Bool.eq_iff_iff];simp only [bxx];omega
 ·unfold awS;have hb':=nt hb;simp only [bxx] at hb';have:cP c=false:=by
   rw [Bool.eq_false_iff];intro hv;obtain ⟨q1,q2,q3,q4,q5,q6,q7,q8⟩:=qN hv;have:=Ga q8;have:=aGb q5;omega
  simp only [go_sem,simprocAttr];rw [this]
 ·unfold awS;simp only [go_sem,simprocAttr];have hb':=nf hb;simp only [bxx] at hb';refine aE (fun (k:Nat) σ => bD 3 (aC k) (aW [7,8,9,10,11,12,13,14,15,16,17,18,19,20,21,22,23,24,25,26,27,28,29,30,31,32,33,34,35,36,37,38,39,40] σ)) (fun k=>k≤c.chan.length ∧ ∀ i,i<k→Yq (c.chan.getD i 0)=true) (fun k=>c.chan.length - k) 0 (aA ?_) ⟨Nat.zero_le _,by omega⟩ ?_
  ·simp only [go_sem,simprocAttr]<;>simp
  ·rintro k ⟨hk,hi⟩;refine aD _ ?_;simp only [go_sem,simprocAttr];refine ⟨fun hlt=>?_,fun hge=>?_⟩
   ·simp only [bxx] at hlt;unfold awS;simp only [go_sem,simprocAttr];refine ⟨⟨by omega,by omega⟩,fun _=>⟨by omega,by omega⟩,?_⟩;refine brW (b := !Yq (c.chan.getD k 0)) ?_ ⟨fun hc=>?_,fun hc=>?_⟩
    ·unfold Yq;rw [Bool.eq_iff_iff];simp only [bxx];omega
    ·unfold awS;simp only [go_sem,simprocAttr];have:cP c=false:=by
      unfold cP pK;rw [Vc,cM (d:=(0:Int)) (p:=Yq) (k:=k) (by omega) (nt hc)];simp
     rw [this]
    ·unfold awS;simp only [go_sem,simprocAttr];refine ⟨k+1,aA ?_,⟨by omega,upto hi (nf hc)⟩,by omega⟩;simp only [go_sem,simprocAttr]<;>simp [aZ (show k<9223372036854775807 by omega)]
   ·simp only [bxx] at hge;have hch:fF c.chan=true:=by
     rw [Vc,bS (d:=(0:Int)) (p:=Yq) (fun i h2=>hi i (by omega)),Bool.and_true,decide_eq_true (by omega:c.chan.length≤4)]
    unfold awS;simp only [go_sem,simprocAttr];have hv:cP c=(aY c.a&&aY c.b&&cN c):=by
     unfold cP pK;rw [hch,decide_eq_true (by omega : 1≤c.len),decide_eq_true (by omega:c.len≤2147483647),decide_eq_true (by omega : 0≤c.gain),decide_eq_true (by omega:c.gain≤65536)];rfl
    rw [hv];have hk6:c.kind=0∨c.kind=1∨c.kind=2∨c.kind=3∨c.kind=4∨c.kind=5:=by omega
    refine bZ [0,1,2,3,4,5,6,7,8,9,10,11,12] .done rfl (by kernel_rfl) (by kernel_rfl) (by decide) ?_;rcases hk6 with hk | hk | hk | hk | hk | hk
    all_goals
     simp only [go_sem,simprocAttr,hk];refine ⟨_,xV _,?_⟩;simp only [go_sem,simprocAttr]
    ·refine ⟨aT false,fun h=>h.elim,?_⟩;simp only [go_sem,simprocAttr];refine ⟨_,(by first | exact uS c.a | exact fun _=>uS c.a),?_⟩;simp only [go_sem,simprocAttr];refine ⟨aT false,fun h=>h.elim,?_⟩;simp only [go_sem,simprocAttr];refine ⟨_,(by first | exact uS c.b | exact fun _=>uS c.b),?_⟩;simp only [go_sem,simprocAttr];refine brW (b := !(c.a.isZ&&c.b.isZ)) ?_ ⟨fun hd=>?_,fun hd=>?_⟩
     ·(try simp only [bne]);cases (c.a.isZ)<;>cases (c.b.isZ)<;>rfl
     ·unfold awS;simp only [go_sem,simprocAttr];refine dL ?_;rw [Rk hk,Bool.eq_false_iff];intro hv;simp only [Bool.and_eq_true] at hv;have z:=nt hd;simp_all
     ·unfold awS;simp only [go_sem,simprocAttr];refine brW (b := !(c.gain==0&&c.chan.length==0)) ?_ ⟨fun hg=>?_,fun hg=>?_⟩
      ·exact gap_ref
      ·unfold awS;simp only [go_sem,simprocAttr];refine dL ?_;have z:=nf hd;rw [Bool.and_eq_true] at z;rw [dR z.1,dR z.2,Rk hk,z.1,z.2];have z2:=nt hg;rw [Bool.and_assoc _ (c.gain==0),z2];simp
      unfold awS;simp only [go_sem,simprocAttr];refine ⟨_,xV _,?_⟩;simp only [go_sem,simprocAttr];refine brW (b := !dG c) ?_ ⟨fun hs=>?_,fun hs=>?_⟩
      ·exact uD
      ·unfold awS;simp only [go_sem,simprocAttr];refine dL ?_;have z:=nf hd;rw [Bool.and_eq_true] at z;rw [dR z.1,dR z.2,Rk hk,z.1,z.2];rw [nt hs];simp
      unfold awS;simp only [go_sem,simprocAttr];refine brW (b := !(c.param==0)) ?_ ⟨fun hp=>?_,fun hp=>?_⟩
      ·exact xE
      ·unfold awS;simp only [go_sem,simprocAttr];refine dL ?_;have z:=nf hd;rw [Bool.and_eq_true] at z;rw [dR z.1,dR z.2,Rk hk,z.1,z.2];have z2:=nt hp;rw [z2];simp
      unfold awS;simp only [go_sem,simprocAttr];have z:=nf hd;rw [Bool.and_eq_true] at z;rw [dR z.1,dR z.2,Rk hk,z.1,z.2];have z2:=nf hp;rw [nf hs,z2];have z3:=nf hg;rw [Bool.and_eq_true] at z3;rw [z3.1,z3.2];simp [emp]
    ·refine ⟨_,(by first | exact fA _ h.a | exact fun _=>fA _ h.a),?_⟩;simp only [go_sem,simprocAttr];refine ⟨aT false,fun h=>h.elim,?_⟩;simp only [go_sem,simprocAttr];refine ⟨aT false,fun h=>h.elim,?_⟩;simp only [go_sem,simprocAttr];refine ⟨_,(by first | exact uS c.b | exact fun _=>uS c.b),?_⟩;simp only [go_sem,simprocAttr];refine brW (b := !(aY c.a&&c.b.isZ)) ?_ ⟨fun hd=>?_,fun hd=>?_⟩
     ·(try simp only [bne]);cases (aY c.a)<;>cases (c.b.isZ)<;>rfl
     ·unfold awS;simp only [go_sem,simprocAttr];refine dL ?_;rw [Xu hk,Bool.eq_false_iff];intro hv;simp only [Bool.and_eq_true] at hv;have z:=nt hd;simp_all
     ·unfold awS;simp only [go_sem,simprocAttr];refine ⟨_,xV _,?_⟩;simp only [go_sem,simprocAttr];refine brW (b := !dG c) ?_ ⟨fun hs=>?_,fun hs=>?_⟩
      ·exact uD
      ·unfold awS;simp only [go_sem,simprocAttr];refine dL ?_;have z:=nf hd;rw [Bool.and_eq_true] at z;rw [z.1,dR z.2,Xu hk,z.2];rw [nt hs];simp
      unfold awS;simp only [go_sem,simprocAttr];refine brW (b := !(c.param==0)) ?_ ⟨fun hp=>?_,fun hp=>?_⟩
      ·exact xE
      ·unfold awS;simp only [go_sem,simprocAttr];refine dL ?_;have z:=nf hd;rw [Bool.and_eq_true] at z;rw [z.1,dR z.2,Xu hk,z.2];have z2:=nt hp;rw [z2];simp
      unfold awS;simp only [go_sem,simprocAttr];have z:=nf hd;rw [Bool.and_eq_true] at z;rw [z.1,dR z.2,Xu hk,z.2];have z2:=nf hp;rw [nf hs,z2];simp [emp]
    ·refine ⟨_,(by first | exact fA _ h.a | exact fun _=>fA _ h.a),?_⟩;simp only [go_sem,simprocAttr];refine ⟨aT false,fun h=>h.elim,?_⟩;simp only [go_sem,simprocAttr];refine ⟨_,(by first | exact fA _ h.b | exact fun _=>fA _ h.b),?_⟩;simp only [go_sem,simprocAttr];refine ⟨aT false,fun h=>h.elim,?_⟩;simp only [go_sem,simprocAttr];refine brW (b := !(aY c.a&&aY c.b)) ?_ ⟨fun hd=>?_,fun hd=>?_⟩
     ·(try simp only [bne]);cases (aY c.a)<;>cases (aY c.b)<;>rfl
     ·unfold awS;simp only [go_sem,simprocAttr];refine dL ?_;have z:=nt hd;rw [z];rfl
     ·unfold awS;simp only [go_sem,simprocAttr];refine ⟨_,xV _,?_⟩;simp only [go_sem,simprocAttr];refine brW (b := !gT c) ?_ ⟨fun hs=>?_,fun hs=>?_⟩
      ·exact Vy (by omega) (by omega)
      ·unfold awS;simp only [go_sem,simprocAttr];refine dL ?_;have z:=nf hd;rw [z,aEa hk];rw [nt hs];simp
      unfold awS;simp only [go_sem,simprocAttr];refine brW (b := !(c.param==0)) ?_ ⟨fun hp=>?_,fun hp=>?_⟩
      ·exact xE
      ·unfold awS;simp only [go_sem,simprocAttr];refine dL ?_;have z:=nf hd;rw [z,aEa hk];have z2:=nt hp;rw [z2];simp
      unfold awS;simp only [go_sem,simprocAttr];have z:=nf hd;rw [z,aEa hk];have z2:=nf hp;rw [nf hs,z2];simp [emp]
    ·refine ⟨_,(by first | exact fA _ h.a | exact fun _=>fA _ h.a),?_⟩;simp only [go_sem,simprocAttr];refine ⟨aT false,fun h=>h.elim,?_⟩;simp only [go_sem,simprocAttr];refine ⟨_,(by first | exact fA _ h.b | exact fun _=>fA _ h.b),?_⟩;simp only [go_sem,simprocAttr];refine ⟨aT false,fun h=>h.elim,?_⟩;simp only [go_sem,simprocAttr];refine brW (b := !(aY c.a&&aY c.b)) ?_ ⟨fun hd=>?_,fun hd=>?_⟩
     ·(try simp only [bne]);cases (aY c.a)<;>cases (aY c.b)<;>rfl
     ·unfold awS;simp only [go_sem,simprocAttr];refine dL ?_;have z:=nt hd;rw [z];rfl
     ·unfold awS;simp only [go_sem,simprocAttr];refine ⟨_,xV _,?_⟩;simp only [go_sem,simprocAttr];refine brW (b := !gT c) ?_ ⟨fun hs=>?_,fun hs=>?_⟩
      ·exact Vy (by omega) (by omega)
      ·unfold awS;simp only [go_sem,simprocAttr];refine dL ?_;have z:=nf hd;rw [z,aE9 hk];rw [nt hs];simp
      unfold awS;simp only [go_sem,simprocAttr];refine brW (b := !(decide (0≤c.param)&&decide (c.param≤3))) ?_ ⟨fun hp=>?_,fun hp=>?_⟩
      ·exact Wz
      ·unfold awS;simp only [go_sem,simprocAttr];refine dL ?_;have z:=nf hd;rw [z,aE9 hk];have z2:=nt hp;rw [Bool.and_assoc _ (decide (0≤c.param)),z2];simp
      unfold awS;simp only [go_sem,simprocAttr];have z:=nf hd;rw [z,aE9 hk];have z2:=nf hp;rw [Bool.and_eq_true] at z2;rw [nf hs,z2.1,z2.2];simp [emp]
    ·refine ⟨_,(by first | exact fA _ h.a | exact fun _=>fA _ h.a),?_⟩;simp only [go_sem,simprocAttr];refine ⟨aT false,fun h=>h.elim,?_⟩;simp only [go_sem,simprocAttr];refine ⟨_,(by first | exact fA _ h.b | exact fun _=>fA _ h.b),?_⟩;simp only [go_sem,simprocAttr];refine ⟨aT false,fun h=>h.elim,?_⟩;simp only [go_sem,simprocAttr];refine brW (b := !(aY c.a&&aY c.b)) ?_ ⟨fun hd=>?_,fun hd=>?_⟩
     ·(try simp only [bne]);cases (aY c.a)<;>cases (aY c.b)<;>rfl
     ·unfold awS;simp only [go_sem,simprocAttr];refine dL ?_;have z:=nt hd;rw [z];rfl
     ·unfold awS;simp only [go_sem,simprocAttr];refine ⟨_,xV _,?_⟩;simp only [go_sem,simprocAttr];refine brW (b := !dG c) ?_ ⟨fun hs=>?_,fun hs=>?_⟩
      ·exact uD
      ·unfold awS;simp only [go_sem,simprocAttr];refine dL ?_;have z:=nf hd;rw [z,aE8 hk];rw [nt hs];simp
      unfold awS;simp only [go_sem,simprocAttr];refine brW (b := !(decide (0≤c.param)&&decide (c.param≤255))) ?_ ⟨fun hp=>?_,fun hp=>?_⟩
      ·exact Wz
      ·unfold awS;simp only [go_sem,simprocAttr];refine dL ?_;have z:=nf hd;rw [z,aE8 hk];have z2:=nt hp;rw [Bool.and_assoc _ (decide (0≤c.param)),z2];simp
      unfold awS;simp only [go_sem,simprocAttr];have z:=nf hd;rw [z,aE8 hk];have z2:=nf hp;rw [Bool.and_eq_true] at z2;rw [nf hs,z2.1,z2.2];simp [emp]
    ·refine ⟨_,(by first | exact fA _ h.a | exact fun _=>fA _ h.a),?_⟩;simp only [go_sem,simprocAttr];refine ⟨aT false,fun h=>h.elim,?_⟩;simp only [go_sem,simprocAttr];refine ⟨aT false,fun h=>h.elim,?_⟩;simp only [go_sem,simprocAttr];refine ⟨_,(by first | exact uS c.b | exact fun _=>uS c.b),?_⟩;simp only [go_sem,simprocAttr];refine brW (b := !(aY c.a&&c.b.isZ)) ?_ ⟨fun hd=>?_,fun hd=>?_⟩
     ·(try simp only [bne]);cases (aY c.a)<;>cases (c.b.isZ)<;>rfl
     ·unfold awS;simp only [go_sem,simprocAttr];refine dL ?_;rw [Xt hk,Bool.eq_false_iff];intro hv;simp only [Bool.and_eq_true] at hv;have z:=nt hd;simp_all
     ·unfold awS;simp only [go_sem,simprocAttr];refine ⟨_,xV _,?_⟩;simp only [go_sem,simprocAttr];refine brW (b := !dG c) ?_ ⟨fun hs=>?_,fun hs=>?_⟩
      ·exact uD
      ·unfold awS;simp only [go_sem,simprocAttr];refine dL ?_;have z:=nf hd;rw [Bool.and_eq_true] at z;rw [z.1,dR z.2,Xt hk,z.2];rw [nt hs];simp
      unfold awS;simp only [go_sem,simprocAttr];refine brW (b := !(c.param==0)) ?_ ⟨fun hp=>?_,fun hp=>?_⟩
      ·exact xE
      ·unfold awS;simp only [go_sem,simprocAttr];refine dL ?_;have z:=nf hd;rw [Bool.and_eq_true] at z;rw [z.1,dR z.2,Xt hk,z.2];have z2:=nt hp;rw [z2];simp
      unfold awS;simp only [go_sem,simprocAttr];refine ⟨_,aTn c.text,?_⟩;simp only [go_sem,simprocAttr];have z:=nf hd;rw [Bool.and_eq_true] at z;rw [z.1,dR z.2,Xt hk,z.2];have z2:=nf hp;rw [nf hs,z2];simp
def rE:List ClipR→Int
 | []=>0
 | c::l=>c.len+rE l
theorem Hg:∀ (l:List ClipR) (k:Nat),k<l.length→rE (l.take (k+1))=rE (l.take k)+(l.getD k default).len
 | [],k,h=>by simp at h
 | c::l,0,h=>by simp [rE]
 | c::l,k+1,h=>by
  have:=Hg l k (by simpa using h);simp only [List.take_succ_cons,rE,List.getD_cons_succ] at this ⊢;omega
theorem Nu:∀ (l:List ClipR),(∀ c∈l,1≤c.len∧c.len≤2147483647)→(l.length:Int)≤rE l∧rE l≤2147483647*l.length
 | [],_=>by simp [rE]
 | c::l,h=>by
  have h1:=Nu l fun d hd=>h d (by simp [hd])
  have h2:=h c (by simp);simp only [rE,List.length_cons];omega
def dD (t:List ClipR):Bool:=decide (t.length≤64)&&t.all cP&&decide (rE t≤2147483647)
def lenT (t:List ClipR):Int:=if dD t=true then rE t else 0
theorem Hd {c:ClipR} (h:cP c=true) : 1≤c.len∧c.len≤2147483647:=by
 obtain ⟨h1,h2,_⟩:=qN h;exact ⟨h1,h2⟩
theorem aP {α : Type} {l:List α} {d : α} {k:Nat} (h:k<l.length):l.getD k d∈l:=by
 rw [List.getD_eq_getElem?_getD,List.getElem?_eq_getElem h];exact List.getElem_mem h
theorem aQ6 {t:List ClipR} {k:Nat} (hk:k≤t.length) (hi:∀ i,i<k→cP (t.getD i default)=true):∀ c∈t.take k,1≤c.len∧c.len≤2147483647:=by
 intro c hc;obtain ⟨i,hi2,rfl⟩:=List.mem_iff_getElem.1 hc;have h1:i<k:=by simp at hi2;omega
 have:=Hd (hi i h1);rw [aK (by omega)] at this;simpa using this
theorem Vm {t:List ClipR} {k:Nat} (hk:k≤t.length) (h64:t.length≤64) (hi:∀ i,i<k→cP (t.getD i default)=true) : 0≤rE (t.take k)∧rE (t.take k)≤137438953408:=by
 have h1:=Nu _ (aQ6 hk hi);have:(t.take k).length=k:=by simp;omega
 omega
theorem aLk (t:List ClipR) (hfit:∀ c∈t,c.fit):aS Tryz.prog 45 [.t (jX t)] (aT (dD t)):=by
 refine aH Tryz.X45 Tryz.func45 rfl Tryz.ntmps45 (by rw [Tryz.results45]) (aD _ ?_);simp only [go_sem,simprocAttr];refine ⟨fun h=>?_,fun h=>?_⟩
 ·simp only [bxx] at h;unfold awS;simp only [go_sem,simprocAttr];unfold dD;rw [decide_eq_false (by omega : ¬ t.length≤64)];rfl
 ·simp only [bxx] at h;unfold awS;simp only [go_sem,simprocAttr];refine aE (fun (k:Nat) σ => bD 3 (aC (rE (t.take k))) (bD 11 (aC k) (aW [6,7,8] σ))) (fun k=>k≤t.length ∧ ∀ i,i<k→cP (t.getD i default)=true) (fun k=>t.length - k) 0 (aA ?_) ⟨Nat.zero_le _,by omega⟩ ?_
  ·simp only [go_sem,simprocAttr]<;>simp [rE]
  ·rintro k ⟨hk,hi⟩;have hr:=Vm hk (by omega) hi;refine aD _ ?_;simp only [go_sem,simprocAttr];refine ⟨fun hlt=>?_,fun hge=>?_⟩
   ·simp only [bxx] at hlt;have hkl:k<t.length:=by omega
    unfold awS;simp only [go_sem,simprocAttr];refine ⟨⟨by omega,by omega⟩,_,cPClip _ (hfit _ (aP hkl)),?_⟩;simp only [go_sem,simprocAttr];refine brW (b := !cP (t.getD k default)) ?_ ⟨fun hb=>?_,fun hb=>?_⟩
    ·rfl
    ·unfold awS;simp only [go_sem,simprocAttr];unfold dD;rw [cM (d:=default) (p:=cP) (k:=k) hkl (nt hb),Bool.and_false];rfl
    ·have hl:=Hd (nf hb);unfold awS;simp only [go_sem,simprocAttr];refine ⟨k+1,aA ?_,⟨by omega,upto hi (nf hb)⟩,by omega⟩;simp only [go_sem,simprocAttr];rw [wrap64 (x:=rE (t.take k)+(t.getD k default).len) (by omega) (by omega),Hg t k hkl];simp [aZ (show k<9223372036854775807 by omega)]
   ·simp only [bxx] at hge;unfold awS;simp only [go_sem,simprocAttr];unfold dD;rw [bS (d:=default) (p:=cP) (fun i h2=>hi i (by omega)),decide_eq_true (by omega:t.length≤64),List.take_of_length_le (by omega)];rfl
theorem aLh (t:List ClipR) (hfit:∀ c∈t,c.fit):aS Tryz.prog 214 [.t (jX t)] (aT (dD t)):=by
 refine aH Tryz.X214 Tryz.func214 rfl Tryz.ntmps214 (by rw [Tryz.results214]) (aD _ ?_);simp only [go_sem,simprocAttr];refine ⟨fun h=>?_,fun h=>?_⟩
 ·simp only [bxx] at h;unfold awS;simp only [go_sem,simprocAttr];unfold dD;rw [decide_eq_false (by omega : ¬ t.length≤64)];rfl
 ·simp only [bxx] at h;unfold awS;simp only [go_sem,simprocAttr];refine aE (fun (k:Nat) σ => bD 3 (aC (rE (t.take k))) (bD 4 (aC k) (aW [5,6,7] σ))) (fun k=>k≤t.length ∧ ∀ i,i<k→cP (t.getD i default)=true) (fun k=>t.length - k) 0 (aA ?_) ⟨Nat.zero_le _,by omega⟩ ?_
  ·simp only [go_sem,simprocAttr]<;>simp [rE]
  ·rintro k ⟨hk,hi⟩;have hr:=Vm hk (by omega) hi;refine aD _ ?_;simp only [go_sem,simprocAttr];refine ⟨fun hlt=>?_,fun hge=>?_⟩
   ·simp only [bxx] at hlt;have hkl:k<t.length:=by omega
    unfold awS;simp only [go_sem,simprocAttr];refine ⟨⟨by omega,by omega⟩,_,cRClip _ (hfit _ (aP hkl)),?_⟩;simp only [go_sem,simprocAttr];refine brW (b := !cP (t.getD k default)) ?_ ⟨fun hb=>?_,fun hb=>?_⟩
    ·rfl
    ·unfold awS;simp only [go_sem,simprocAttr];unfold dD;rw [cM (d:=default) (p:=cP) (k:=k) hkl (nt hb),Bool.and_false];rfl
    ·have hl:=Hd (nf hb);unfold awS;simp only [go_sem,simprocAttr];refine ⟨⟨by omega,by omega⟩,k+1,aA ?_,⟨by omega,upto hi (nf hb)⟩,by omega⟩;simp only [go_sem,simprocAttr];rw [wrap64 (x:=rE (t.take k)+(t.getD k default).len) (by omega) (by omega),Hg t k hkl];simp [aZ (show k<9223372036854775807 by omega)]
   ·simp only [bxx] at hge;unfold awS;simp only [go_sem,simprocAttr];unfold dD;rw [bS (d:=default) (p:=cP) (fun i h2=>hi i (by omega)),decide_eq_true (by omega:t.length≤64),List.take_of_length_le (by omega)];rfl
def aRn:List V→List V→Prop
 | [],[]=>True
 | x::xs,y::ys=>(x=y∨(x = .t (.lit (.slice none 0 0)) ∧ ∃ k d,y = .t (.list k d [])))∧aRn xs ys
 | _,_=>False
theorem aDr {w:World} {E:Env}:∀ {xs ys:List V} {vs:List Value},aRn xs ys→RdVs w E xs vs→RdVs w E ys vs
 | [],[],_,_,h=>h
 | x::xs,y::ys,[],_,h=>by simp only [RdVs] at h
 | x::xs,y::ys,v::vs,hn,h=>by
  simp only [RdVs] at h ⊢;refine ⟨?_,aDr hn.2 h.2⟩;rcases hn.1 with rfl | ⟨rfl,k,d,rfl⟩
  ·exact h.1
  ·have h1:=h.1;simp only [RdV] at h1 ⊢;cases h1;exact .list _ _ _ none 0 (Nat.zero_le _) (Nat.zero_le _) (fun _=>rfl) (by simp) (by simp) (by simp)
 | [],_::_,_,hn,_=>hn.elim
 | _::_,[],_,hn,_=>hn.elim
def asTs:List T→List T→Prop
 | [],[]=>True
 | x::xs,y::ys=>(x=y∨(x = .lit (.slice none 0 0) ∧ ∃ k d,y = .list k d []))∧asTs xs ys
 | _,_=>False
def asRows:List (List T)→List (List T)→Prop
 | [],[]=>True
 | x::xs,y::ys=>asTs x y∧asRows xs ys
 | _,_=>False
def AsVs (xs ys:List V):Prop := ∀ (w:World) (E:Env) (vs:List Value),RdVs w E xs vs→RdVs w E ys vs
theorem wB {P:Program} {f:FuncId} {args args':List V} {r:V} (ha:AsVs args' args) (h:aS P f args r):aS P f args' r :=
 ⟨h.1,fun w S vs hS hv=>h.2 w S vs hS (ha _ _ _ hv)⟩
theorem AsVs.cons {x y:V} {xs ys:List V} (h1:∀ (w:World) (E:Env) v,RdV w E x v→RdV w E y v) (h2:AsVs xs ys):AsVs (x::xs) (y::ys):=by
 intro w E vs h;cases vs with
 | nil=>simp only [RdVs] at h
 | cons v vs =>
  simp only [RdVs] at h ⊢;exact ⟨h1 _ _ _ h.1,h2 _ _ _ h.2⟩
theorem AsVs.nil:AsVs [] []:=fun _ _ _ h=>h
theorem pL {x:V}:∀ (w:World) (E:Env) v,RdV w E x v→RdV w E x v:=fun _ _ _ h=>h
theorem as_agg {xs ys:List V} (ha:aRn xs ys):∀ (w:World) (E:Env) v,RdV w E (.agg xs) v→RdV w E (.agg ys) v:=by
 intro w E v h;simp only [RdV] at h ⊢;obtain ⟨vs,rfl,q1,q2⟩:=h;exact ⟨vs,rfl,aDr ha q1,q2⟩
theorem cR {r x:V} {h:Heap} (e:x.lend h=r) (hp:r.pure=true):Cq r x h:=⟨by rw [e];exact hp,fun w E v hv=>by rw [e] at hv;exact hv⟩
theorem Wt {k:Nat} {d:List T} {h:Heap}:Cq (.t (.list k d [])) (.t (.lit (.slice none 0 0))) h:=by
 refine ⟨rfl,fun w E v hv=>?_⟩;have e:V.lend h (.t (.lit (.slice none 0 0))) = .t (.lit (.slice none 0 0)):=rfl;rw [e] at hv;simp only [RdV] at hv ⊢;cases hv;exact .list _ _ _ none 0 (Nat.zero_le _) (Nat.zero_le _) (fun _=>rfl) (by simp) (by simp) (by simp)
theorem Mu {P:Program} {f:FuncId} {cs args cs':List V} {r r':V} (ha:∀ (w:World) (E:Env) v,RdV w E r v→RdV w E r' v) (h:wH P f cs args r cs'):wH P f cs args r' cs' :=
 ⟨h.1,fun w S b ty cells vs h1 h2 h3 h4 h5 h6=>(h.2 w S b ty cells vs h1 h2 h3 h4 h5 h6).mono fun e w' ⟨v,S',ty',cells',k0,k1,k2,k3,k4,k5⟩=>⟨v,S',ty',cells',k0,k1,k2,k3,ha _ _ _ k4,k5⟩⟩
structure CueR where
 frm:Int
 upto:Int
 lines:List ByteArray
 deriving Inhabited
structure CueR.fit (c:CueR):Prop where
 frm:I64 c.frm
 upto:I64 c.upto
abbrev vcue (c:CueR):V := .agg [aC c.frm,aC c.upto, .t (xY c.lines)]
def CueR.c (c:CueR):List T:=[ti c.frm,ti c.upto,xY c.lines]
@[go_sem] theorem CueR.ct (c:CueR):(CueR.c c).map V.t = [aC c.frm,aC c.upto, .t (xY c.lines)]:=rfl
@[go_sem] theorem CueR.cl (c:CueR):(CueR.c c).length=3:=rfl
@[go_sem] abbrev gC (l:List CueR):T := .list 3 (CueR.c default) (l.map CueR.c)
structure SeqR where
 w:Int
 h:Int
 rate:RatR
 inter:Bool
 bits:Int
 buf:Int
 q:Nat→Int
 deriving Inhabited
structure SeqR.fit (s:SeqR):Prop where
 w:I64 s.w
 h:I64 s.h
 rate:s.rate.fit
 bits:I64 s.bits
 buf:I64 s.buf
def aH7 (q:Nat→Int):List T:=(List.range 128).map fun i => .lit (.int .u8 (q i))
def SeqR.c (s:SeqR):List T:=[ti s.w,ti s.h,ti s.rate.num,ti s.rate.den,tbl s.inter,ti s.bits,ti s.buf]++aH7 s.q
structure MediumR where
 name:ByteArray
 sum:Int
 seq:SeqR
 frames:Int
 channels:Int
 samples:Int
 cues:List CueR
 deriving Inhabited
structure MediumR.fit (m:MediumR):Prop where
 seq:m.seq.fit
 frames:I64 m.frames
 channels:I64 m.channels
 samples:I64 m.samples
 cues:∀ c∈m.cues,c.fit
def MediumR.c (m:MediumR):List T:=[gN m.name,tu m.sum]++m.seq.c ++ [ti m.frames,ti m.channels,ti m.samples,gC m.cues]
def dV (m:MediumR):List V:=(MediumR.c m).map .t
@[go_sem] theorem MediumR.ct (m:MediumR):(MediumR.c m).map V.t=dV m:=rfl
@[go_sem] theorem MediumR.cl (m:MediumR):(MediumR.c m).length=141:=rfl
@[go_sem] theorem vmed_len (m:MediumR):(dV m).length=141:=rfl
theorem aM2 (m:MediumR):(dV m).all V.isCell=true:=by
 rw [List.all_eq_true];intro x hx;unfold dV at hx;obtain ⟨t,_,rfl⟩:=List.mem_map.1 hx;rfl
attribute [go_sem] aM2
@[go_sem] theorem vmed_0 (m:MediumR):(dV m)[0]? = some (bT m.name):=rfl
@[go_sem] theorem vmed_1 (m:MediumR):(dV m)[1]? = some (yF m.sum):=rfl
@[go_sem] theorem aPw (m:MediumR):(dV m)[137]? = some (aC m.frames):=rfl
@[go_sem] theorem aPv (m:MediumR):(dV m)[138]? = some (aC m.channels):=rfl
@[go_sem] theorem aPu (m:MediumR):(dV m)[139]? = some (aC m.samples):=rfl
@[go_sem] theorem vmed_140 (m:MediumR):(dV m)[140]? = some (.t (gC m.cues)):=rfl
def aG7 (s:SeqR):List V:=(SeqR.c s).map .t
@[go_sem] theorem vseq_len (s:SeqR):(aG7 s).length=135:=rfl
theorem aPs (m:MediumR):List.take 135 (List.drop 2 (dV m))=aG7 m.seq:=rfl
theorem aM1 (m:MediumR):List.take 2 (List.drop 4 (dV m)) = [aC m.seq.rate.num,aC m.seq.rate.den]:=rfl
theorem aPt (m:MediumR):List.take 141 (List.drop 0 (dV m))=dV m:=rfl
theorem aM3 (m:MediumR):List.take 141 (dV m)=dV m:=rfl
attribute [go_sem] aPs aM1 aPt aM3
@[go_sem] theorem drop_zmed (f:Value→V):List.drop 141 (List.map f Tryz.z82) = []:=List.drop_of_length_le (by rw [List.length_map,Tryz.zlen82];exact Nat.le_refl _)
structure SequenceR where
 name:ByteArray
 rate:RatR
 w:Int
 h:Int
 video:List (List ClipR)
 sound:List (List ClipR)
 cues:List CueR
 channels:Int
 deriving Inhabited
def bL (t:List ClipR):List T:=[jX t]
@[go_sem] theorem trackC_t (t:List ClipR):(bL t).map V.t = [.t (jX t)]:=rfl
@[go_sem] theorem trackC_l (t:List ClipR):(bL t).length=1:=rfl
@[go_sem] abbrev cK (l:List (List ClipR)):T := .list 1 (bL []) (l.map bL)
def SequenceR.c (s:SequenceR):List T:=[gN s.name,ti s.rate.num,ti s.rate.den,ti s.w,ti s.h,cK s.video,cK s.sound,gC s.cues,ti s.channels]
abbrev jG (s:SequenceR):V := .agg [bT s.name,aC s.rate.num,aC s.rate.den,aC s.w,aC s.h, .t (cK s.video), .t (cK s.sound), .t (gC s.cues),aC s.channels]
@[go_sem] theorem SequenceR.ct (s:SequenceR):(SequenceR.c s).map V.t = [bT s.name,aC s.rate.num,aC s.rate.den,aC s.w,aC s.h, .t (cK s.video), .t (cK s.sound), .t (gC s.cues),aC s.channels]:=rfl
@[go_sem] theorem SequenceR.cl (s:SequenceR):(SequenceR.c s).length=9:=rfl
structure SequenceR.fit (s:SequenceR):Prop where
 rate:s.rate.fit
 w:I64 s.w
 h:I64 s.h
 video:∀ t∈s.video, ∀ c∈t,c.fit
 sound:∀ t∈s.sound, ∀ c∈t,c.fit
 cues:∀ c∈s.cues,c.fit
 channels:I64 s.channels
structure ProjR where
 media:List MediumR
 seqs:List SequenceR
 deriving Inhabited
structure ProjR.fit (p:ProjR):Prop where
 media:∀ m∈p.media,m.fit
 seqs:∀ s∈p.seqs,s.fit
@[go_sem] abbrev jW (l:List MediumR):T := .list 141 (MediumR.c default) (l.map MediumR.c)
@[go_sem] abbrev nL (l:List SequenceR):T := .list 9 (SequenceR.c default) (l.map SequenceR.c)
abbrev dT (p:ProjR):V := .agg [.t (jW p.media), .t (nL p.seqs)]
def ProjR.c (p:ProjR):List T:=[jW p.media,nL p.seqs]
def Gm (c:CueR):Bool:=decide (0≤c.frm)&&decide (c.frm<c.upto)&&decide (c.upto≤2147483647)&&decide (1≤c.lines.length)&&decide (c.lines.length≤4)
def uH (c:CueR):Bool:=Gm c&&c.lines.all jM
theorem cPCue (c:CueR) (h:c.fit):aS Tryz.prog 242 [vcue c] (aT (uH c)):=by
 obtain ⟨⟨f1,f2⟩,⟨t1,t2⟩⟩:=h;refine aH Tryz.X242 Tryz.func242 rfl Tryz.ntmps242 (by rw [Tryz.results242]) (aD _ ?_);simp only [go_sem,simprocAttr];refine brW (b := !Gm c) ?_ ⟨fun hb=>?_,fun hb=>?_⟩
 ·unfold Gm;rw [Bool.eq_iff_iff];simp only [decide_eq_true_eq,decide_eq_false_iff_not,Bool.or_eq_true,Bool.and_eq_false_iff,Bool.not_eq_eq_eq_not,Bool.not_true];omega
 ·unfold awS;simp only [go_sem,simprocAttr];unfold uH;rw [nt hb];rfl
 ·have hk:=nf hb;unfold Gm at hk;simp only [decide_eq_true_eq,Bool.and_eq_true] at hk;unfold awS;simp only [go_sem,simprocAttr];refine aE (fun (k:Nat) σ => bD 35 (aC k) σ) (fun k=>k≤c.lines.length ∧ ∀ i,i<k→jM (c.lines.getD i default)=true) (fun k=>c.lines.length - k) 0 (aA ?_) ⟨Nat.zero_le _,by omega⟩ ?_
  ·simp only [go_sem,simprocAttr]<;>simp
  ·rintro k ⟨hk1,hi⟩;refine aD _ ?_;simp only [go_sem,simprocAttr];refine ⟨fun hlt=>?_,fun hge=>?_⟩
   ·simp only [decide_eq_true_eq] at hlt;unfold awS;simp only [go_sem,simprocAttr];refine ⟨⟨by omega,by omega⟩,_,aTx _,?_⟩;simp only [go_sem];refine brW (b := !jM (c.lines.getD k default)) ?_ ⟨fun hc=>?_,fun hc=>?_⟩
    ·rfl
    ·unfold awS;simp only [go_sem,simprocAttr];unfold uH;rw [cM (d:=default) (p:=jM) (k:=k) (by omega) (nt hc),Bool.and_false]
    ·unfold awS;simp only [go_sem,simprocAttr];refine ⟨k+1,aA ?_,⟨by omega,upto hi (nf hc)⟩,by omega⟩;simp only [go_sem,simprocAttr]<;>simp [aZ (show k<9223372036854775807 by omega)]
   ·simp only [decide_eq_false_iff_not] at hge;unfold awS;simp only [go_sem,simprocAttr];unfold uH;rw [nf hb,bS (d:=default) (p:=jM) (fun i h2=>hi i (by omega))];rfl
theorem cRCue (c:CueR) (h:c.fit):aS Tryz.prog 247 [vcue c] (aT (uH c)):=by
 obtain ⟨⟨f1,f2⟩,⟨t1,t2⟩⟩:=h;refine aH Tryz.X247 Tryz.func247 rfl Tryz.ntmps247 (by rw [Tryz.results247]) (cG fun hf=>aD _ ?_);simp only [go_sem,simprocAttr,eB] at hf;have hla:c.lines.length≤maxLen:=by exact hf.2.2.1
 simp only [go_sem,simprocAttr];refine aE (fun (k:Nat) σ => bD 3 (aC k) σ) (fun k=>k≤c.lines.length ∧ ∀ i,i<k→jM (c.lines.getD i default)=true) (fun k=>c.lines.length - k) 0 (aA ?_) ⟨Nat.zero_le _,by omega⟩ ?_
 ·simp only [go_sem,simprocAttr]<;>simp
 ·rintro k ⟨hk1,hi⟩;refine aD _ ?_;simp only [go_sem,simprocAttr];refine ⟨fun hlt=>?_,fun hge=>?_⟩
  ·simp only [decide_eq_true_eq] at hlt;unfold awS;simp only [go_sem,simprocAttr];refine ⟨⟨by omega,by omega⟩,_,aTn _,?_⟩;simp only [go_sem];refine brW (b := !jM (c.lines.getD k default)) ?_ ⟨fun hc=>?_,fun hc=>?_⟩
   ·rfl
   ·unfold awS;simp only [go_sem,simprocAttr];unfold uH;rw [cM (d:=default) (p:=jM) (k:=k) (by omega) (nt hc),Bool.and_false]
   ·unfold awS;simp only [go_sem,simprocAttr];refine ⟨k+1,aA ?_,⟨by omega,upto hi (nf hc)⟩,by omega⟩;simp only [go_sem,simprocAttr]<;>simp [cJ (show k<c.lines.length by omega) hla]
  ·simp only [decide_eq_false_iff_not] at hge;unfold awS;simp only [go_sem,simprocAttr];unfold uH;rw [bS (d:=default) (p:=jM) (fun i h2=>hi i (by omega)),Bool.and_true];have:(decide (c.frm ≥ 0)&&decide (c.frm<c.upto)&&decide (c.upto≤2147483647)&&decide ((c.lines.length:Int) ≥ 1)&&decide ((c.lines.length:Int)≤4))=Gm c:=by
    unfold Gm;rw [Bool.eq_iff_iff];simp only [decide_eq_true_eq,Bool.and_eq_true];omega
   rw [this]
def mU (l:List CueR):Bool:=l.all uH
theorem aTy (l:List CueR) (h:∀ c∈l,c.fit):aS Tryz.prog 199 [.t (gC l)] (aT (mU l)):=by
 refine aH Tryz.X199 Tryz.func199 rfl Tryz.ntmps199 (by rw [Tryz.results199]) (cG fun hf=>aD _ ?_);simp only [go_sem,simprocAttr,eB] at hf;have hla:l.length≤maxLen:=hf.1;simp only [go_sem,simprocAttr];refine aE (fun (k:Nat) σ => bD 7 (aC k) σ) (fun k=>k≤l.length ∧ ∀ i,i<k→uH (l.getD i default)=true) (fun k=>l.length - k) 0 (aA ?_) ⟨Nat.zero_le _,by omega⟩ ?_
 ·simp only [go_sem,simprocAttr]<;>simp
 ·rintro k ⟨hk1,hi⟩;refine aD _ ?_;simp only [go_sem,simprocAttr];refine ⟨fun hlt=>?_,fun hge=>?_⟩
  ·simp only [decide_eq_true_eq] at hlt;unfold awS;simp only [go_sem,simprocAttr];refine ⟨⟨by omega,by omega⟩,_,cPCue _ (h _ (aP (by omega))),?_⟩;simp only [go_sem];refine brW (b := !uH (l.getD k default)) ?_ ⟨fun hc=>?_,fun hc=>?_⟩
   ·rfl
   ·unfold awS;simp only [go_sem,simprocAttr];unfold mU;rw [cM (d:=default) (p:=uH) (k:=k) (by omega) (nt hc)]
   ·unfold awS;simp only [go_sem,simprocAttr];refine ⟨k+1,aA ?_,⟨by omega,upto hi (nf hc)⟩,by omega⟩;simp only [go_sem,simprocAttr]<;>simp [cJ (show k<l.length by omega) hla]
  ·simp only [decide_eq_false_iff_not] at hge;unfold awS;simp only [go_sem,simprocAttr];unfold mU;rw [bS (d:=default) (p:=uH) (fun i h2=>hi i (by omega))]
def wZ (r:RatR):Bool:=jH r&&decide (0<r.num)
theorem aTw (r:RatR) (h:r.fit):aS Tryz.prog 196 [Zf r] (aT (wZ r)):=by
 refine aH Tryz.X196 Tryz.func196 rfl Tryz.ntmps196 (by rw [Tryz.results196]) (aD _ ?_);simp only [go_sem,simprocAttr];refine ⟨_,cPRat r h,?_⟩;simp only [go_sem,simprocAttr]<;>rfl
def Gn (n:Int):Bool:=decide (0≤n)&&decide (n≤2147483647)
theorem aLm (n:Int):aS Tryz.prog 197 [aC n] (aT (Gn n)):=by
 refine aH Tryz.X197 Tryz.func197 rfl Tryz.ntmps197 (by rw [Tryz.results197]) (aD _ ?_);simp only [go_sem,simprocAttr]<;>rfl
def tP (n:Int):Bool:=decide (0≤n)&&decide (n≤4)
theorem Lt (n:Int):aS Tryz.prog 198 [aC n] (aT (tP n)):=by
 refine aH Tryz.X198 Tryz.func198 rfl Tryz.ntmps198 (by rw [Tryz.results198]) (aD _ ?_);simp only [go_sem,simprocAttr]<;>rfl
def nP (n:Int):Bool:=decide (16≤n)&&decide (n≤64)&&decide (n % 16=0)
theorem aTu (n:Int):aS Tryz.prog 201 [aC n,aC 64] (aT (nP n)):=by
 refine aH Tryz.X201 Tryz.func201 rfl Tryz.ntmps201 (by rw [Tryz.results201]) (aD _ ?_);simp only [go_sem,↓reduceIte,Nat.reduceAdd,Nat.reduceSub];refine ⟨fun _=>by decide,?_⟩;have:(decide (n ≥ 16)&&decide (n≤64)&&n.tmod 16==0)=nP n:=by
  unfold nP
  by_cases h : 16≤n
  ·rw [Int.tmod_eq_emod_of_nonneg (by omega)];rfl
  ·simp [h]
 rw [this]
def dX (m:MediumR):Bool:=bB m.name&&wZ m.seq.rate&&Gn m.frames&&Gn m.samples&&tP m.channels&&mU m.cues
theorem cPMed (m:MediumR) (h:m.fit):aS Tryz.prog 141 [.agg (dV m)] (aT (!dX m)):=by
 refine aH Tryz.X141 Tryz.func141 rfl Tryz.ntmps141 (by rw [Tryz.results141]) (aD _ ?_);simp only [go_sem,simprocAttr];refine ⟨_,xW m.name,?_⟩;simp only [go_sem,simprocAttr];refine ⟨_,fun _=>aTw m.seq.rate h.seq.rate,?_⟩;simp only [go_sem,simprocAttr];refine ⟨_,fun _=>aLm m.frames,?_⟩;simp only [go_sem,simprocAttr];refine ⟨_,fun _=>aLm m.samples,?_⟩;simp only [go_sem,simprocAttr];refine ⟨_,fun _=>Lt m.channels,?_⟩;simp only [go_sem,simprocAttr];refine ⟨_,fun _=>aTy m.cues h.cues,?_⟩;simp only [go_sem,simprocAttr];unfold dX;simp only [Bool.not_and]
def kH (c:ClipR):Bool:=c.gain==0&&(c.chan.length:Int)==0
theorem aTv (c:ClipR):aS Tryz.prog 203 [pN c] (aT (kH c)):=by
 refine aH Tryz.X203 Tryz.func203 rfl Tryz.ntmps203 (by rw [Tryz.results203]) (aD _ ?_);simp only [go_sem,simprocAttr]<;>rfl
def uT (ch:Int) (c:ClipR):Bool:=c.kind==0||((c.kind==1||c.kind==2)&&(!c.a.smooth && !c.b.smooth&&(c.chan.length:Int)==ch))
theorem aP6 (c:ClipR) (ch:Int):aS Tryz.prog 205 [pN c,aC ch] (aT (uT ch c)):=by
 refine aH Tryz.X205 Tryz.func205 rfl Tryz.ntmps205 (by rw [Tryz.results205]) (aD _ ?_);simp only [go_sem,simprocAttr];refine ⟨fun h0=>?_,fun h0=>?_⟩
 ·unfold awS;simp only [go_sem,simprocAttr];unfold uT;rw [h0];rfl
 ·unfold awS;simp only [go_sem,simprocAttr];refine ⟨fun h1=>?_,fun h1=>?_⟩
  ·unfold awS;simp only [go_sem,simprocAttr,h1];unfold uT;rw [h0,h1];simp
  ·unfold awS;simp only [go_sem,simprocAttr];refine ⟨fun h2=>?_,fun h2=>?_⟩
   ·unfold awS;simp only [go_sem,simprocAttr];unfold uT;rw [h0,h1,h2];simp
   ·unfold awS;simp only [go_sem,simprocAttr];unfold uT;rw [h0,h1,h2];rfl
abbrev Ent:=Value×Bool×List T
def tT (k:Value) (m:Bool×List T):List Ent→List Ent
 | []=>[(k,m)]
 | e::es=>if mA k e.1=true then (k,m)::es else e::tT k m es
theorem Fc (k:Value) (m:Bool×List T):∀ es:List Ent,Cg k (mkV m) (tEs es)=tEs (tT k m es)
 | []=>rfl
 | e::es=>by
  have h:=Fc k m es;unfold tEs at h ⊢;simp only [List.map_cons,Cg,tT];split
  ·rfl
  ·rw [h];rfl
theorem aK9:∀ ts:List T,V.pures (ts.map .t)=true
 | []=>rfl
 | t::ts=>by simp only [List.map_cons,V.pures,V.pure,aK9 ts,Bool.and_self]
theorem aDt:∀ m:Bool×List T,(mkV m).pure=true
 | (true,ts)=>by simp only [mkV,V.pure,aK9]
 | (false,[])=>rfl
 | (false,[t])=>rfl
 | (false,_::_::_)=>rfl
@[go_sem] theorem aH8:∀ es:List Ent,uL (tEs es)=True
 | []=>rfl
 | e::es=>by
  have h:=aH8 es;unfold tEs at h ⊢;simp only [List.map_cons,uL,aDt,h,and_self]
@[go_sem] theorem tEs_nil:tEs [] = []:=rfl
def Cm (es:List Ent):Prop := ∀ e∈es, ∃ s:ByteArray,e.1 = .string s
theorem aMa:Cm []:=fun e h=>by cases h
theorem Vr {n:ByteArray} {m:Bool×List T}:∀ {es:List Ent},Cm es→Cm (tT (.string n) m es)
 | [],_=>fun e h=>by simp only [tT,List.mem_singleton] at h;subst h;exact ⟨n,rfl⟩
 | e0::es,h=>by
  unfold tT;split
  ·intro e he;rcases List.mem_cons.1 he with rfl | he
   ·exact ⟨n,rfl⟩
   ·exact h e (by simp [he])
  ·intro e he;rcases List.mem_cons.1 he with rfl | he
   ·exact h _ (by simp)
   ·exact Vr (fun e he=>h e (by simp [he])) e he
theorem tF {es:List Ent} (h:Cm es):qE .string es=true:=by
 induction es with
 | nil=>rfl
 | cons e es ih =>
  obtain ⟨s,hs⟩:=h e (by simp);simp only [qE,hs,gR,ih fun e he=>h e (by simp [he]),Bool.and_self]
theorem Xn {n n':ByteArray} {m:Bool×List T}:∀ {es:List Ent},Cm es→rN (.string n) (tT (.string n') m es)=if n=n' then some (mkV m) else rN (.string n) es
 | [],_=>by simp only [tT,rN,mA,decide_eq_true_eq]
 | e0::es,h=>by
  obtain ⟨s,hs⟩:=h e0 (by simp);obtain ⟨k0,m0⟩:=e0;simp only at hs;subst hs;have ih:=Xn (n:=n) (n':=n') (m:=m) (es:=es) fun e he=>h e (by simp [he])
  simp only [tT,mA,decide_eq_true_eq];split
  ·rename_i h1;subst h1;simp only [rN,mA,decide_eq_true_eq];split<;>rfl
  ·rename_i h1;simp only [rN,mA,decide_eq_true_eq,ih];split
   ·rename_i h2;subst h2;rw [if_neg (fun h=>h1 h.symm)]
   ·rfl
def kX {α : Type} (nm : α → ByteArray) (c : α → Bool×List T) (l:List α):List Ent:=l.foldl (fun es x=>tT (.string (nm x)) (c x) es) []
theorem xL {α : Type} (nm : α → ByteArray) (c : α → Bool×List T) (l:List α) (x : α):kX nm c (l ++ [x])=tT (.string (nm x)) (c x) (kX nm c l):=by
 unfold kX;rw [List.foldl_append];rfl
theorem nB {α : Type} (nm : α → ByteArray) (c : α → Bool×List T) (l:List α):Cm (kX nm c l):=by
 unfold kX;have:∀ (l:List α) (es:List Ent),Cm es→Cm (l.foldl (fun es x=>tT (.string (nm x)) (c x) es) es):=by
  intro l
  induction l with
  | nil=>intro es h;exact h
  | cons x l ih=>intro es h;exact ih _ (Vr h)
 exact this l [] aMa
theorem bE {α : Type} [Inhabited α] {l:List α} {k:Nat} (h:k<l.length):l.take (k+1)=l.take k ++ [l.getD k default]:=by
 rw [List.take_add_one,List.getElem?_eq_getElem h,aK h];rfl
theorem Qx {α : Type} [Inhabited α] (nm : α → ByteArray) (c : α → Bool×List T) {l:List α} {k:Nat} (h:k<l.length):kX nm c (l.take (k+1))=tT (.string (nm (l.getD k default))) (c (l.getD k default)) (kX nm c (l.take k)):=by
 rw [bE h,xL]
def fJ {α : Type} (nm : α → ByteArray) (n:ByteArray):List α → Option α
 | []=>none
 | x::l=>match fJ nm n l with
  | some y=>some y
  | none=>if n=nm x then some x else none
theorem Lc {α : Type} (nm : α → ByteArray) (n:ByteArray) (x : α):∀ l:List α,fJ nm n (l ++ [x])=if n=nm x then some x else fJ nm n l
 | []=>by simp only [List.nil_append,fJ]
 | y::l=>by
  simp only [List.cons_append,fJ,Lc nm n x l]
  by_cases h:n=nm x
  ·rw [if_pos h,if_pos h]
  ·rw [if_neg h,if_neg h]
theorem dZ {α : Type} {nm : α → ByteArray} {n:ByteArray}:∀ {l:List α} {x : α},fJ nm n l=some x→x∈l∧nm x=n
 | y::l,x,h=>by
  simp only [fJ] at h;split at h
  ·rename_i z hz;injection h with h;subst h;obtain ⟨h1,h2⟩:=dZ hz;exact ⟨by simp [h1],h2⟩
  ·split at h
   ·injection h with h;subst h;rename_i hn;exact ⟨by simp,hn.symm⟩
   ·cases h
theorem kC {α : Type} {nm : α → ByteArray} {n:ByteArray}:∀ {l:List α},fJ nm n l=none ↔ ∀ x∈l,nm x≠n
 | []=>by simp [fJ]
 | y::l=>by
  have ih:=kC (nm:=nm) (n:=n) (l:=l);simp only [fJ,List.mem_cons,forall_eq_or_imp];split
  ·rename_i z hz;obtain ⟨h1,h2⟩:=dZ hz;constructor
   ·intro h;cases h
   ·rintro ⟨_,h⟩;exact (h z h1 h2).elim
  ·rename_i hz;split
   ·rename_i hn;constructor
    ·intro h;cases h
    ·rintro ⟨h,_⟩;exact (h hn.symm).elim
   ·rename_i hn;exact ⟨fun _=>⟨fun h=>hn h.symm,ih.1 hz⟩,fun _=>rfl⟩
theorem zQ {α : Type} (nm : α → ByteArray) (c : α → Bool×List T) (n:ByteArray) (l:List α):rN (.string n) (kX nm c l)=(fJ nm n l).map fun x=>mkV (c x):=by
 have:∀ (r:List α),rN (.string n) (kX nm c r.reverse)=(fJ nm n r.reverse).map fun x=>mkV (c x):=by
  intro r
  induction r with
  | nil=>rfl
  | cons x r ih =>
   rw [List.reverse_cons,xL,Xn (nB nm c _),Lc,ih];split<;>rfl
 have h:=this l.reverse;rwa [List.reverse_reverse] at h
def aB0 (r:List ByteArray) (n:ByteArray):Bool:=r.any fun m=>decide (m=n)
theorem zY {r:List ByteArray} {n:ByteArray}:aB0 r n=true ↔ n∈r:=by
 unfold aB0;rw [List.any_eq_true];constructor
 ·rintro ⟨m,h1,h2⟩;rw [decide_eq_true_eq] at h2;subst h2;exact h1
 ·intro h;exact ⟨n,h,by simp⟩
def nW:List ByteArray→List ByteArray:=fun l=>l.foldl (fun r n=>if aB0 r n=true then r else r ++ [n]) []
theorem vG (l:List ByteArray) (n:ByteArray):nW (l ++ [n])=if aB0 (nW l) n=true then nW l else nW l ++ [n]:=by
 unfold nW;rw [List.foldl_append];rfl
def Dd (v:Value):ByteArray :=
 match v with
 | .string s=>s
 | _=>⟨#[]⟩
theorem aEb {n:ByteArray} {m:Bool×List T}:∀ {es:List Ent},Cm es→(tT (.string n) m es).map (fun e=>Dd e.1)=if aB0 (es.map fun e=>Dd e.1) n=true then es.map (fun e=>Dd e.1) else es.map (fun e=>Dd e.1) ++ [n]
 | [],_=>rfl
 | e0::es,h=>by
  obtain ⟨s,hs⟩:=h e0 (by simp);obtain ⟨k0,m0⟩:=e0;simp only at hs;subst hs;have ih:=aEb (n:=n) (m:=m) (es:=es) fun e he=>h e (by simp [he])
  simp only [tT,mA,decide_eq_true_eq]
  by_cases h1:n=s
  ·subst h1;rw [if_pos rfl];have:aB0 (List.map (fun e:Ent=>Dd e.1) ((Value.string n,m0)::es)) n=true:=zY.2 (by simp [Dd]);rw [if_pos this];rfl
  ·rw [if_neg h1];have h2:aB0 (List.map (fun e:Ent=>Dd e.1) ((Value.string s,m0)::es)) n=aB0 (List.map (fun e:Ent=>Dd e.1) es) n:=by
    simp only [List.map_cons,aB0,List.any_cons,Dd];rw [decide_eq_false (fun h=>h1 h.symm),Bool.false_or]
   rw [h2,List.map_cons,ih];split<;>rfl
theorem Rm {α : Type} (nm : α → ByteArray) (c : α → Bool×List T) (l:List α):(kX nm c l).map (fun e=>Dd e.1)=nW (l.map nm):=by
 have:∀ (r:List α),(kX nm c r.reverse).map (fun e=>Dd e.1)=nW (r.reverse.map nm):=by
  intro r
  induction r with
  | nil=>rfl
  | cons x r ih=>rw [List.reverse_cons,xL,aEb (nB nm c _),List.map_append,List.map_cons,List.map_nil,vG,ih]
 have h:=this l.reverse;rwa [List.reverse_reverse] at h
theorem qU {l:List ByteArray} {n:ByteArray}:n∈nW l ↔ n∈l:=by
 have:∀ (r:List ByteArray),n∈nW r.reverse ↔ n∈r.reverse:=by
  intro r
  induction r with
  | nil=>simp [nW]
  | cons x r ih =>
   rw [List.reverse_cons,vG];split
   ·rename_i h;rw [zY] at h;rw [List.mem_append,ih,List.mem_singleton];constructor
    ·exact .inl
    ·rintro (h1 | rfl)
     ·exact h1
     ·exact ih.1 h
   ·rw [List.mem_append,List.mem_append,ih]
 have h:=this l.reverse;rwa [List.reverse_reverse] at h
theorem mM (l:List ByteArray):(nW l).Nodup:=by
 have:∀ (r:List ByteArray),(nW r.reverse).Nodup:=by
  intro r
  induction r with
  | nil=>exact List.nodup_nil
  | cons x r ih =>
   rw [List.reverse_cons,vG];split
   ·exact ih
   ·rename_i h;rw [zY] at h;exact List.nodup_append.2 ⟨ih,by simp,fun a ha b hb=>by simp at hb;subst hb;exact fun e=>h (e ▸ ha)⟩
 have h:=this l.reverse;rwa [List.reverse_reverse] at h
theorem nV (l:List ByteArray):(nW l).length≤l.length:=by
 have:∀ (r:List ByteArray),(nW r.reverse).length≤r.reverse.length:=by
  intro r
  induction r with
  | nil=>exact Nat.le_refl _
  | cons x r ih =>
   rw [List.reverse_cons,vG];split<;>simp only [List.length_append,List.length_cons,List.length_nil]<;>omega
 have h:=this l.reverse;rwa [List.reverse_reverse] at h
theorem yA (l:List ByteArray):(nW l).length<l.length ↔ ¬ l.Nodup:=by
 have:∀ (r:List ByteArray),(nW r.reverse).length<r.reverse.length ↔ ¬ r.reverse.Nodup:=by
  intro r
  induction r with
  | nil=>simp [nW]
  | cons x r ih =>
   rw [List.reverse_cons,vG];have hle:=nV r.reverse;have hnd:(r.reverse ++ [x]).Nodup ↔ r.reverse.Nodup∧x ∉ r.reverse:=by
    rw [List.nodup_append];constructor
    ·rintro ⟨h1,_,h2⟩;exact ⟨h1,fun hx=>h2 x hx x (by simp) rfl⟩
    ·rintro ⟨h1,h2⟩;exact ⟨h1,by simp,fun a ha b hb=>by simp at hb;subst hb;exact fun e=>h2 (e ▸ ha)⟩
   split
   ·rename_i h;rw [zY,qU] at h;rw [hnd];simp only [List.length_append,List.length_cons,List.length_nil];exact ⟨fun _ h2=>h2.2 h,fun _=>by omega⟩
   ·rename_i h;rw [zY,qU] at h;rw [hnd];simp only [List.length_append,List.length_cons,List.length_nil];constructor
    ·intro h1 h2;exact (ih.1 (by omega)) h2.1
    ·intro h1;have:=ih.2 (fun h2=>h1 ⟨h2,h⟩);omega
 have h:=this l.reverse;rwa [List.reverse_reverse] at h
theorem Fs {α : Type} (nm : α → ByteArray) (c : α → Bool×List T) (l:List α):(kX nm c l).length=(nW (l.map nm)).length:=by
 have:=congrArg List.length (Rm nm c l);simpa using this
theorem Sm {k:Value} {m:Bool×List T} (hm:(m.1||m.2.length==1)=true):∀ {es:List Ent},tL es=true→tL (tT k m es)=true
 | [],_=>by simp only [tT,tL,List.all_cons,hm,List.all_nil,Bool.and_self]
 | e::es,h=>by
  unfold tL at h;simp only [List.all_cons,Bool.and_eq_true] at h;unfold tT;split
  ·unfold tL;simp only [List.all_cons,hm,Bool.true_and];exact h.2
  ·have:=Sm (k:=k) hm (es:=es) h.2;unfold tL at this ⊢;simp only [List.all_cons,h.1,this,Bool.and_self]
theorem rY {α : Type} (nm : α → ByteArray) (c : α → Bool×List T) (hc:∀ x,((c x).1||(c x).2.length==1)=true) (l:List α):tL (kX nm c l)=true:=by
 unfold kX;have:∀ (l:List α) (es:List Ent),tL es=true→tL (l.foldl (fun es x=>tT (.string (nm x)) (c x) es) es)=true:=by
  intro l
  induction l with
  | nil=>intro es h;exact h
  | cons x l ih=>intro es h;exact ih _ (Sm (hc x) h)
 exact this l [] rfl
def medC (m:MediumR):Bool×List T:=(true,MediumR.c m)
def seqC (s:SequenceR):Bool×List T:=(true,SequenceR.c s)
def Uv (l:List MediumR):List Ent:=kX MediumR.name medC l
def Td (l:List SequenceR):List Ent:=kX SequenceR.name seqC l
@[go_sem] theorem mkV_med (m:MediumR):mkV (medC m) = .agg (dV m):=rfl
@[go_sem] theorem mkV_seq (s:SequenceR):mkV (seqC s)=jG s:=rfl
abbrev jQ (l:List MediumR) (n:ByteArray):Option MediumR:=fJ MediumR.name n l
abbrev eH (l:List SequenceR) (n:ByteArray):Option SequenceR:=fJ SequenceR.name n l
abbrev aPy (p:ProjR):V := .agg [.t (.map (Uv p.media)), .t (.map (Td p.seqs))]
open Go.ChangeShapes Go.WideShapes
def aL3 (v:Option Value):Int :=
 match v with
 | some (.int _ b)=>b
 | _=>0
theorem aD3 {w:World} {S:Nat→Prop}:∀ l:List Int,RdTs w S (l.map fun b=>T.lit (.int .u8 b)) (l.map fun b=>Value.int .u8 b)
 | []=>trivial
 | b::l=>⟨.lit _ rfl trivial,aD3 l⟩
theorem aN3 {P:Program} {t e:TypeId} {n:Nat} (ht:P.underlying t=some (.array n e)) (he:P.underlying e=some (.int .u8)) (hk:P.cellsOf e=1) (hn:P.cellsOf t=n):Opens P t fun q:Nat→Int=>(List.range n).map fun i=>T.lit (.int .u8 (q i)):=by
 intro H enc w spare held fuel cs x hx;obtain ⟨xs,m,_,_,h1,h2,h3⟩:=DataW.trod_array ht hx;refine ⟨fun i=>aL3 cs[i]?,?_⟩;have hcs:cs=((List.range n).map fun i=>aL3 cs[i]?).map fun b=>Value.int .u8 b:=by
  refine List.ext_getElem (by simp;omega) fun i q1 q2=>?_
  have hi:i<n:=by omega
  have h4:=h3 i hi;rw [hk,Nat.mul_one,List.getElem?_eq_getElem (by omega)] at h4;obtain ⟨b,hb,_,_⟩:=DataW.trod_int he h4;have h5:cs[i]=Value.int .u8 b:=by
   have h6:=congrArg (fun l=>l[0]?) hb;simpa [List.getElem?_take,List.getElem?_drop,List.getElem?_eq_getElem q1] using h6
  simp [List.getElem?_eq_getElem q1,h5,aL3]
 have:=aD3 (w:=w) (S:=aBb w) ((List.range n).map fun i=>aL3 cs[i]?);rw [← hcs,List.map_map] at this;exact this
abbrev CueF := { c:CueR // c.fit }
abbrev SeqF := { s:SeqR // s.fit }
abbrev My := { m:MediumR // m.fit }
abbrev Ce := { s:SequenceR // s.fit }
abbrev aG1 := { p:ProjR // p.fit }
def aEd (a b:Nat→Int) (i:Nat):Int:=if i<64 then a i else b (i - 64)
theorem aH6 (a b:Nat→Int):((List.range 64).map fun i=>T.lit (.int .u8 (a i)))++(((List.range 64).map fun i=>T.lit (.int .u8 (b i))) ++ [])=aH7 (aEd a b):=by
 unfold aH7;rw [List.append_nil,show (128:Nat)=64+64 from rfl,List.range_add,List.map_append,List.map_map];refine congr (congrArg _ (List.map_congr_left fun i hi=>?_)) (List.map_congr_left fun i hi=>?_)
 ·rw [List.mem_range] at hi;unfold aEd;rw [if_pos hi]
 ·have e:aEd a b (64+i)=b i:=by
   unfold aEd;rw [if_neg (by omega),Nat.add_sub_cancel_left]
  simp only [Function.comp,e]
theorem oU64:Opens Tryz.prog 67 fun n:Int=>[T.lit (.int .u64 n)]:=Xb (k := .u64) Tryz.underlying67
theorem oQ:Opens Tryz.prog 77 fun q:Nat→Int=>(List.range 64).map fun i=>T.lit (.int .u8 (q i)):=aN3 Tryz.underlying77 Tryz.underlying5 (by kernel_rfl) (by kernel_rfl)
theorem oSeq:Opens Tryz.prog 79 fun s:SeqF=>s.1.c :=
 Opens.map (fun x:sB×sB×aUs×Bool×sB×sB×(Nat→Int)×(Nat→Int)×Unit=>⟨⟨x.1.1,x.2.1.1,x.2.2.1.1,x.2.2.2.1,x.2.2.2.2.1.1,x.2.2.2.2.2.1.1,aEd x.2.2.2.2.2.2.1 x.2.2.2.2.2.2.2.1⟩,x.1.2,x.2.1.2,x.2.2.1.2,x.2.2.2.2.1.2,x.2.2.2.2.2.1.2⟩)
  (fun x=>by unfold SeqR.c;rw [← aH6];rfl)
  (dP Tryz.underlying79 (by kernel_rfl) (aN Mb (aN Mb (aN oRat (aN aRf (aN Mb (aN Mb (aN oQ (aN oQ fG)))))))))
theorem oStrs:Opens Tryz.prog 57 fun l:List ByteArray=>[xY l]:=fW (jJ ⟨#[]⟩) Tryz.underlying57 (c:=jJ) aAc (by kernel_rfl) (fun _=>rfl) (by decide)
theorem oCue:Opens Tryz.prog 110 fun c:CueF=>c.1.c :=
 Opens.map (fun x:sB×sB×List ByteArray×Unit=>⟨⟨x.1.1,x.2.1.1,x.2.2.1⟩,x.1.2,x.2.1.2⟩) (fun _=>rfl) (dP Tryz.underlying110 (by kernel_rfl) (aN aAd (aN aAd (aN oStrs fG))))
theorem oCues:Opens Tryz.prog 80 fun l:List CueF=>[.list 3 (CueR.c default) (l.map fun c=>c.1.c)]:=fW (k:=3) (CueR.c default) Tryz.underlying80 oCue (by kernel_rfl) (fun _=>rfl) (by decide)
theorem aKn:Opens Tryz.prog 112 fun l:List Jw=>[.list 1 (bL []) (l.map fun c=>bL c.1)]:=fW (k:=1) (c:=fun t:Jw=>bL t.1) (bL []) Tryz.underlying112 oTrack (by kernel_rfl) (fun _=>rfl) (by decide)
theorem Bh {α : Type} {P : α → Prop} {l:List { x : α // P x }} {y : α} (h:y∈l.map (·.1)):P y:=by
 obtain ⟨x,_,rfl⟩:=List.mem_map.1 h;exact x.2
theorem oMedium:Opens Tryz.prog 82 fun m:My=>m.1.c :=
 Opens.map (fun x:ByteArray×Int×SeqF×sB×sB×sB×List CueF×Unit=>(⟨⟨x.1,x.2.1,x.2.2.1.1,x.2.2.2.1.1,x.2.2.2.2.1.1,x.2.2.2.2.2.1.1,x.2.2.2.2.2.2.1.map (·.1)⟩,⟨x.2.2.1.2,x.2.2.2.1.2,x.2.2.2.2.1.2,x.2.2.2.2.2.1.2,fun c hc=>Bh hc⟩⟩:My))
  (fun x=>by
   obtain ⟨n,u,s,f,c,sa,q,_⟩:=x;show MediumR.c _=_
   unfold MediumR.c gC;simp only [List.map_map];rfl)
  (dP Tryz.underlying82 (by kernel_rfl) (aN aAc (aN oU64 (aN oSeq (aN aAd (aN Mb (aN aAd (aN oCues fG))))))))
theorem aN4:Opens Tryz.prog 114 fun s:Ce=>s.1.c :=
 Opens.map (fun x:ByteArray×aUs×sB×sB×List Jw×List Jw×List CueF×sB×Unit=>(⟨⟨x.1,x.2.1.1,x.2.2.1.1,x.2.2.2.1.1,x.2.2.2.2.1.map (·.1),x.2.2.2.2.2.1.map (·.1),x.2.2.2.2.2.2.1.map (·.1),x.2.2.2.2.2.2.2.1.1⟩,⟨x.2.1.2,x.2.2.1.2,x.2.2.2.1.2,fun t ht=>Bh ht,fun t ht=>Bh ht,fun c hc=>Bh hc,x.2.2.2.2.2.2.2.1.2⟩⟩:Ce))
  (fun x=>by
   obtain ⟨n,r,w,h,v,a,q,c,_⟩:=x;show SequenceR.c _=_
   unfold SequenceR.c cK gC;simp only [List.map_map];rfl)
  (dP Tryz.underlying114 (by kernel_rfl) (aN aAc (aN oRat (aN Mb (aN Mb (aN aKn (aN aKn (aN oCues (aN Mb fG)))))))))
theorem oMedia:Opens Tryz.prog 35 fun l:List My=>[.list 141 (MediumR.c default) (l.map fun c=>c.1.c)]:=fW (k:=141) (MediumR.c default) Tryz.underlying35 oMedium (by kernel_rfl) (fun _=>rfl) (by decide)
theorem aHe:Opens Tryz.prog 36 fun l:List Ce=>[.list 9 (SequenceR.c default) (l.map fun c=>c.1.c)]:=fW (k:=9) (SequenceR.c default) Tryz.underlying36 aN4 (by kernel_rfl) (fun _=>rfl) (by decide)
theorem oProj:Opens Tryz.prog 38 fun p:aG1=>p.1.c :=
 Opens.map (fun x:List My×List Ce×Unit=>(⟨⟨x.1.map (·.1),x.2.1.map (·.1)⟩,fun m hm=>Bh hm,fun m hm=>Bh hm⟩:aG1))
  (fun x=>by
   show ProjR.c _=_
   unfold ProjR.c jW nL;simp only [List.map_map];rfl)
  (dP Tryz.underlying38 (by kernel_rfl) (aN oMedia (aN aHe fG)))
theorem aProj:Ap Tryz.prog 38 fun p:aG1=>dT p.1:=Ct Tryz.underlying38 oProj
open Go.Lib
theorem aHr:(Tryz.prog.info? 27).map (fun i=>(i.zero,i.size,i.bytes))=some (some (.slice none 0 0),1,24):=by kernel_rfl
set_option maxHeartbeats 2000000 in
theorem aGx (n:Nat) (h0 : 0<n) (hn:n≤1000000) (w:World):Calls Tryz.prog 262 #[.slice none 0 0, .int .i64 n] w fun e w' =>
  e = .returned (.slice (some ⟨w.heap.size,0,none⟩) 0 (grownCap w n 0 27))∧w'=w.drew.alloc (.cells (Builtin.zeroCells #[.slice none 0 0] n++Builtin.zeroCells #[.slice none 0 0] (grownCap w n 0 27 - n)) 27):=by
 obtain ⟨i0,hi,hz0,hz1,hz2⟩:=info_parts aHr;have h1 : ¬ ((n:Int)<0):=by omega
 have h2:Go.RowKit.wrap64 ((0:Int) - 0)=0:=by unfold Go.RowKit.wrap64;omega
 have h3:Go.RowKit.wrap64 ((n:Int) - 0)=(n:Int):=by unfold Go.RowKit.wrap64;omega
 have h4:(n:Int) > 0:=by omega
 have hrz:∀ ty,(Builtin.append_ #[112,3] ty #[.slice none 0 0, .int .i64 n]).run Tryz.prog w = .ok (.slice (some ⟨w.heap.size,0,none⟩) n (grownCap w n 0 27)) (w.drew.alloc (.cells (Builtin.zeroCells #[.slice none 0 0] n++Builtin.zeroCells #[.slice none 0 0] (grownCap w n 0 27 - n)) 27)):=fun ty =>
  run_append_nil_zeros w _ _ ty _ i0 _ .i64 .i64 Tryz.underlying112 Tryz.underlying3 hi hz0 n h0 (by omega) (by omega) (by rw [hz2];omega)
 have hGn:n≤grownCap w n 0 27:=grownCap_ge w _ _ _;obtain ⟨G,hG⟩:∃ G,G=grownCap w n 0 27:=⟨_,rfl⟩
 rw [← hG] at hrz hGn ⊢
 go_enter Tryz.func262,Tryz.ntmps262
 go_wp2_with (at_builtin;refine Lib.wpList_append_run _ rfl _ _ _ _ rfl _ _ rfl rfl _ _ (hrz _) ?_)
 all_goals (go_ret;exact ⟨rfl,rfl⟩)
set_option maxHeartbeats 2000000 in
theorem aCj (w:World):Calls Tryz.prog 262 #[.slice none 0 0, .int .i64 0] w fun e w'=>e = .returned (.slice none 0 0)∧w'=w:=by
 have h2:Go.RowKit.wrap64 ((0:Int) - 0)=0:=by unfold Go.RowKit.wrap64;omega
 go_enter Tryz.func262,Tryz.ntmps262
 go_wp2
 all_goals (go_ret;exact ⟨rfl,rfl⟩)
theorem aHt {P : Program} {σ : St} {d : Option Tmp} {f : FuncId} {n e k : Nat} {dd : List T} {K : St → Prop} (he : P.enters f = true) (hrun : ∀ w : World, Calls P f #[.slice none 0 0, .int .i64 n] w fun en w' => (n = 0 ∧ en = .returned (.slice none 0 0) ∧ w' = w) ∨
      ∃ cap cells, en = .returned (.slice (some ⟨w.heap.size, 0, none⟩) 0 cap) ∧ w' = w.drew.alloc (.cells cells e) ∧ cells.size = cap * k ∧ cap ≤ maxLen)
    (hK : K ((σ.add (.row e k dd [])).put d (.own σ.nx))) : ICall P σ d f [.t (.lit (.slice none 0 0)), aC n] K := by
  refine nD he fun E w vs hr hbd hvs => ?_
  obtain ⟨v1, v2, hv, h1, h2⟩ := aBs (vs := vs.toArray) (by simpa using hvs);rw [hv, (aG h1).1, (aG h2).1];have hrF : RelF E { σ with fr := [], df := aMs E } { tmps := #[], defers := [] } w := ⟨hr, hbd, by show RdVs w E [] []; simp only [RdVs], Mk⟩;refine (hrun w).mono ?_;rintro en w' (⟨rfl, rfl, rfl⟩ | ⟨cap, cells, rfl, rfl, hsz, hcap⟩)
  · obtain ⟨k1, k2, k3⟩ := hrF.add (hv := .slice none 0 0) (blk := .row e k dd []) (S' := E.S) (Below.refl _ _) (fun _ h => h) (fun _ h => .inl h) hr.slt (fun _ => ⟨[], World.ownsRow_nil _ 0 e k, by simp only [List.flatten_nil, RdVs], by simp, rfl⟩) (fun b hb => by cases hb) rfl rfl
    exact ⟨_, _, _, _, _, rfl, k1.rel, k1.bound, k2, k3, hK⟩
  · have hb : Below w.heap.size w (w.drew.alloc (.cells cells e)) := (Below.refl _ _).drew.alloc (Nat.le_refl _) _
    have hnew : (w.drew.alloc (.cells cells e)).heap[w.heap.size]? = some (.cells cells e (0, 0)) := World.alloc_heap_new w.drew _;obtain ⟨k1, k2, k3⟩ := hrF.add (hv := .slice (some ⟨w.heap.size, 0, none⟩) 0 cap) (blk := .row e k dd []) (S' := E.S) hb (fun _ h => h) (fun _ h => .inl h) (fun b hb' => Nat.lt_of_lt_of_le (hr.slt b hb') hb.size)
      (fun _ => ⟨[], ⟨by simp, .inr ⟨w.heap.size, cap, cells, rfl, Nat.zero_le _, hnew, Nat.zero_le _, hcap, hsz, by simp⟩⟩, by simp only [List.flatten_nil, RdVs], by simp, rfl⟩)
      (fun b hb' => by injection hb' with hb'; subst hb'; exact ⟨Nat.le_refl _, (Array.getElem?_eq_some_iff.1 hnew).1, fun hs => absurd (hr.slt _ hs) (by simp)⟩) rfl rfl
    exact ⟨_, _, _, _, _, rfl, k1.rel, k1.bound, k2, k3, hK⟩
theorem aGt (z:Array Value) (n:Nat):(Builtin.zeroCells z n).size=n*z.size:=by unfold Builtin.zeroCells;simp
theorem igrowTr {σ : St} {d:Option Tmp} {n:Nat} {K:St→Prop} (hn:n≤1000000) (dd:List T) (hK:K ((σ.add (.row 27 1 dd [])).put d (.own σ.nx))):ICall Tryz.prog σ d 262 [.t (.lit (.slice none 0 0)),aC n] K:=by
 refine aHt Tryz.X262 (fun w=>?_) hK;rcases Nat.eq_zero_or_pos n with rfl | h0
 ·exact (aCj w).mono fun e w' h => .inl ⟨rfl,h⟩
 ·refine (aGx n h0 hn w).mono ?_;rintro e w' ⟨rfl,rfl⟩;have h1:=grownCap_ge w n 0 27;refine .inr ⟨_,_,rfl,rfl,?_,grownCap_le_maxLen w n 0 _ (by unfold maxLen;omega)⟩;simp only [Array.size_append,aGt];simp;omega
end Go.Proofs.YtbfnemkngoaeeaaGreat
namespace Go.Proofs.YtbfnemkngoaeeaaGreat
open Go.Proofs Go.RowKit Go.Maps Go.Sort Go.Shelf
def Ld:Go.Shelf.Ren:=⟨fun | 7=>73 | 10=>147 | n=>n,fun | 23=>148 | 26=>9 | 3=>4 | 28=>132 | 0=>0 | 27=>131 | 33=>206 | 4=>4 | n=>n,fun | n=>n⟩
theorem keysLay:Go.Proofs.SlLaysZ.n7 Tryz.prog Ld where
 mixed:=by kernel_rfl
 f7 := ⟨"maps.Keys[map[string]bool,string,bool]", by decide, Tryz.func73.trans (congrArg some (by kernel_rfl))⟩
 f10 := ⟨"maps.Keys[map[string]bool,string,bool]$1", by decide, Tryz.func147.trans (congrArg some (by kernel_rfl))⟩
 t0:=Tryz.underlying0
 a0:=Tryz.isAgg0
 z0:=Tryz.sizeOf0
 v0:=Tryz.zeroValue0
 t4:=Tryz.underlying4
 a4:=Tryz.isAgg4
 z4:=Tryz.sizeOf4
 v4:=Tryz.zeroValue4
 t23:=Tryz.underlying148
 a23:=Tryz.isAgg148
 z23:=Tryz.sizeOf148
 v23:=Tryz.zeroValue148
 t26:=Tryz.underlying9
 a26:=Tryz.isAgg9
 z26:=Tryz.sizeOf9
 v26:=Tryz.zeroValue9
 t27:=Tryz.underlying131
 a27:=Tryz.isAgg131
 z27:=Tryz.sizeOf131
 v27:=Tryz.zeroValue131
 t28:=Tryz.underlying132
 a28:=Tryz.isAgg132
 z28:=Tryz.sizeOf132
 v28:=Tryz.zeroValue132
 t33:=Tryz.underlying206
 a33:=Tryz.isAgg206
 z33:=Tryz.sizeOf206
 v33:=Tryz.zeroValue206
def qH:Go.Shelf.Ren:=⟨fun | 6=>59 | 8=>128 | 9=>129 | 11=>190 | 13=>192 | 12=>191 | 23=>240 | 24=>241 | 14=>231 | 15=>232 | 16=>233 | 17=>234 | 18=>235 | 19=>236 | 20=>237 | 21=>238 | 22=>239 | 25=>256 | 26=>257 | 27=>258 | 28=>259 | 29=>260 | 30=>261 | 31=>269 | n=>n,fun | 26=>9 | 28=>132 | 24=>57 | 0=>0 | 3=>3 | 37=>259 | 48=>298 | 50=>67 | 4=>4 | 40=>290 | 39=>289 | 45=>295 | 5=>5 | 9=>9 | 51=>308 | 55=>312 | 57=>317 | 58=>318 | 33=>206 | n=>n,fun | n=>n⟩
theorem Vw:Go.Proofs.SlLaysZ.n6 Tryz.prog qH where
 mixed:=by kernel_rfl
 f6 := ⟨"slices.Sorted[string]", by decide, Tryz.func59.trans (congrArg some (by kernel_rfl))⟩
 f8 := ⟨"slices.Collect[string]", by decide, Tryz.func128.trans (congrArg some (by kernel_rfl))⟩
 f11 := ⟨"slices.AppendSeq[[]string,string]", by decide, Tryz.func190.trans (congrArg some (by kernel_rfl))⟩
 t0:=Tryz.underlying0
 a0:=Tryz.isAgg0
 z0:=Tryz.sizeOf0
 v0:=Tryz.zeroValue0
 t24:=Tryz.underlying57
 a24:=Tryz.isAgg57
 z24:=Tryz.sizeOf57
 v24:=Tryz.zeroValue57
 t26:=Tryz.underlying9
 a26:=Tryz.isAgg9
 z26:=Tryz.sizeOf9
 v26:=Tryz.zeroValue9
 t28:=Tryz.underlying132
 a28:=Tryz.isAgg132
 z28:=Tryz.sizeOf132
 v28:=Tryz.zeroValue132
 i26:=by kernel_rfl
def aC9:Go.Shelf.Ren:=⟨fun | 6=>129 | 8=>192 | 9=>191 | 19=>240 | 20=>241 | 21=>231 | 22=>232 | 23=>233 | 24=>234 | 25=>235 | 26=>236 | 27=>237 | 28=>238 | 29=>239 | 36=>256 | 31=>257 | 32=>258 | 37=>259 | 38=>260 | 39=>261 | 41=>269 | n=>n,fun | 27=>57 | 29=>9 | 3=>3 | 32=>259 | 26=>57 | 0=>0 | 44=>298 | 46=>67 | 4=>4 | 36=>290 | 35=>289 | 41=>295 | 5=>5 | 9=>9 | 53=>308 | 57=>312 | 63=>317 | 64=>318 | n=>n,fun | n=>n⟩
theorem aJz:Go.Proofs.SlLaysM.n6 Tryz.prog aC9 where
 mixed:=by kernel_rfl
 f6 := ⟨"slices.Sort[[]string,string]", by decide, Tryz.func129.trans (congrArg some (by kernel_rfl))⟩
 f8:=Tryz.func192.trans (congrArg some (by kernel_rfl))
 f9 := ⟨"slices.pdqsortOrdered[string]", by decide, Tryz.func191.trans (congrArg some (by kernel_rfl))⟩
 f19:=Tryz.func240.trans (congrArg some (by kernel_rfl))
 f20:=Tryz.func241.trans (congrArg some (by kernel_rfl))
 f21 := ⟨"slices.insertionSortOrdered[string]", by decide, Tryz.func231.trans (congrArg some (by kernel_rfl))⟩
 f22 := ⟨"slices.heapSortOrdered[string]", by decide, Tryz.func232.trans (congrArg some (by kernel_rfl))⟩
 f23 := ⟨"slices.breakPatternsOrdered[string]", by decide, Tryz.func233.trans (congrArg some (by kernel_rfl))⟩
 f24 := ⟨"slices.choosePivotOrdered[string]", by decide, Tryz.func234.trans (congrArg some (by kernel_rfl))⟩
 f25 := ⟨"slices.reverseRangeOrdered[string]", by decide, Tryz.func235.trans (congrArg some (by kernel_rfl))⟩
 f26 := ⟨"slices.partialInsertionSortOrdered[string]", by decide, Tryz.func236.trans (congrArg some (by kernel_rfl))⟩
 f27 := ⟨"cmp.Less[string]", by decide, Tryz.func237.trans (congrArg some (by kernel_rfl))⟩
 f28 := ⟨"slices.partitionEqualOrdered[string]", by decide, Tryz.func238.trans (congrArg some (by kernel_rfl))⟩
 f29 := ⟨"slices.partitionOrdered[string]", by decide, Tryz.func239.trans (congrArg some (by kernel_rfl))⟩
 f31:=Tryz.func257.trans (congrArg some (by kernel_rfl))
 f32:=Tryz.func258.trans (congrArg some (by kernel_rfl))
 f36 := ⟨"slices.siftDownOrdered[string]", by decide, Tryz.func256.trans (congrArg some (by kernel_rfl))⟩
 f37 := ⟨"slices.medianAdjacentOrdered[string]", by decide, Tryz.func259.trans (congrArg some (by kernel_rfl))⟩
 f38 := ⟨"slices.medianOrdered[string]", by decide, Tryz.func260.trans (congrArg some (by kernel_rfl))⟩
 f39 := ⟨"cmp.isNaN[string]", by decide, Tryz.func261.trans (congrArg some (by kernel_rfl))⟩
 f41 := ⟨"slices.order2Ordered[string]", by decide, Tryz.func269.trans (congrArg some (by kernel_rfl))⟩
 t0:=Tryz.underlying0
 a0:=Tryz.isAgg0
 z0:=Tryz.sizeOf0
 v0:=Tryz.zeroValue0
 t3:=Tryz.underlying3
 a3:=Tryz.isAgg3
 z3:=Tryz.sizeOf3
 v3:=Tryz.zeroValue3
 t4:=Tryz.underlying4
 a4:=Tryz.isAgg4
 z4:=Tryz.sizeOf4
 v4:=Tryz.zeroValue4
 t5:=Tryz.underlying5
 a5:=Tryz.isAgg5
 z5:=Tryz.sizeOf5
 v5:=Tryz.zeroValue5
 t9:=Tryz.underlying9
 a9:=Tryz.isAgg9
 z9:=Tryz.sizeOf9
 v9:=Tryz.zeroValue9
 t26:=Tryz.underlying57
 a26:=Tryz.isAgg57
 z26:=Tryz.sizeOf57
 v26:=Tryz.zeroValue57
 t27:=Tryz.underlying57
 a27:=Tryz.isAgg57
 z27:=Tryz.sizeOf57
 v27:=Tryz.zeroValue57
 t29:=Tryz.underlying9
 a29:=Tryz.isAgg9
 z29:=Tryz.sizeOf9
 v29:=Tryz.zeroValue9
 t32:=Tryz.underlying259
 a32:=Tryz.isAgg259
 z32:=Tryz.sizeOf259
 v32:=Tryz.zeroValue259
 t35:=Tryz.underlying289
 a35:=Tryz.isAgg289
 z35:=Tryz.sizeOf289
 v35:=Tryz.zeroValue289
 t36:=Tryz.underlying290
 a36:=Tryz.isAgg290
 z36:=Tryz.sizeOf290
 v36:=Tryz.zeroValue290
 t41:=Tryz.underlying295
 a41:=Tryz.isAgg295
 z41:=Tryz.sizeOf295
 v41:=Tryz.zeroValue295
 t44:=Tryz.underlying298
 a44:=Tryz.isAgg298
 z44:=Tryz.sizeOf298
 v44:=Tryz.zeroValue298
 t46:=Tryz.underlying67
 a46:=Tryz.isAgg67
 z46:=Tryz.sizeOf67
 v46:=Tryz.zeroValue67
 t53:=Tryz.underlying308
 a53:=Tryz.isAgg308
 z53:=Tryz.sizeOf308
 v53:=Tryz.zeroValue308
 t57:=Tryz.underlying312
 a57:=Tryz.isAgg312
 z57:=Tryz.sizeOf312
 v57:=Tryz.zeroValue312
 t63:=Tryz.underlying317
 a63:=Tryz.isAgg317
 z63:=Tryz.sizeOf317
 v63:=Tryz.zeroValue317
 t64:=Tryz.underlying318
 a64:=Tryz.isAgg318
 z64:=Tryz.sizeOf318
 v64:=Tryz.zeroValue318
open Go.RowKit
set_option maxRecDepth 4000
open Go.Maps Go.Sort Go.Shelf Go.WideShapes
def cV (l:List ByteArray):List ByteArray:=((l.map fun s=>s.data.toList).mergeSort leB).map fun b=>⟨b.toArray⟩
theorem Qw (l:List (List UInt8)):l.map encStr=(l.map fun b=>(⟨b.toArray⟩:ByteArray)).map Value.string:=by
 rw [List.map_map];rfl
theorem dY (l:List ByteArray):(cV l).Perm l:=by
 unfold cV;refine ((List.mergeSort_perm _ leB).map _).trans ?_;rw [List.map_map];have:((fun b:List UInt8=>(⟨b.toArray⟩:ByteArray)) ∘ fun s:ByteArray=>s.data.toList)=id:=by
  funext s;simp
 rw [this,List.map_id]
theorem uK {l l':List ByteArray} (h:l.Perm l'):cV l=cV l':=by
 unfold cV;rw [mergeSort_of_perm (h.map _)]
theorem aJy (m : Nat) : AnyZ.SortsIn Tryz.prog qH Fence.wide m :=
  ⟨fun blk off cap ss W hH hblk hsz => callsIn_wide.2 (AnyM.slices_Sort_string aJz blk off cap ss W hH hblk hsz),
   fun p cap W => callsIn_wide.2 (AnyM.slices_Sort_string_none aJz p cap W)⟩
theorem Hs {w:World} {E:Env}:∀ {es:List (Value×V)} {l:List MapEntry},RdEs w E es l→l.map (·.key)=es.map (·.1)
 | [],[],_=>rfl
 | (k,x)::es,e::l,h=>by
  unfold RdEs at h;rw [List.map_cons,List.map_cons,Hs h.2.2,h.1]
 | [],_::_,h=>h.elim
 | _::_,[],h=>h.elim
theorem aAu {k:TypeId} (hk:Tryz.prog.underlying k=some .string) {s:ByteArray} (hs:s.size≤maxLen):keyOf Tryz.prog k (.string s)=some (.string s.data.toList):=by
 unfold keyOf;rw [hk];simp only [mapKey,hk,hs,if_true]
theorem Hr {w:World} {S:Nat→Prop}:∀ {l:List ByteArray},(∀ s∈l,s.size≤maxLen)→RdTs w S (l.map fun s=>T.lit (.string s)) (l.map Value.string)
 | [],_=>trivial
 | s::l,h=>⟨.lit _ rfl (h s (by simp)),Hr fun x hx=>h x (by simp [hx])⟩
set_option maxHeartbeats 2000000 in
theorem aMh {w:World} {b0 r:Nat} {ty:TypeId} {entries:Array MapEntry} {clock:Nat} {ks:List ByteArray} (hb0:w.heap[b0]? = some (.cells #[.map (some r)] ty (0,0))) (hr0:w.heap[r]? = some (.map entries clock))
  (hbn:(∀ e∈entries.toList,e.born<clock)∧(entries.toList.map (·.born)).Nodup) (hks:entries.toList.map (·.key)=ks.map Value.string) (hnd:ks.Nodup) (hsz:∀ k∈ks,k.size≤maxLen) (hlen:ks.length≤1000000) :
  Calls Tryz.prog 59 #[.func (.func 147) #[] #[.pointer (some ⟨b0,0,none⟩)]] w fun e w' => ∃ v,e = .returned v ∧
   w'.ownsRow w.heap.size 9 1 v (cV ks).length ((cV ks).map Value.string)∧Below w.heap.size w w':=by
 have hesz:entries.size=ks.length:=by
  have:=congrArg List.length hks;simpa using this
 have hkind:Tryz.prog.underlying 9=some .string:=Tryz.underlying9;have hmem:∀ x∈entries.toList, ∃ s∈ks,x.key = .string s:=fun x hx=>by
  have h1:x.key∈entries.toList.map (·.key):=List.mem_map_of_mem hx;rw [hks,List.mem_map] at h1;obtain ⟨s,h2,h3⟩:=h1;exact ⟨s,h2,h3.symm⟩
 let R:Value→Option (DataW Unit×List MemPlace):=fun _=>some (.nil,[])
 have hstr:∀ l:List ByteArray,l.Nodup→(l.map Value.string).Nodup:=fun l h=>by
  refine List.pairwise_map.2 (h.imp fun hne e=>hne ?_);injection e
 have hF:Go.WideElems.Fit Tryz.prog 9 R entries clock:=⟨by rw [hesz];unfold maxLen;omega,⟨hbn.1,hbn.2,by rw [hks];exact hstr _ hnd⟩,fun x hx=>by
  obtain ⟨s,h1,h2⟩:=hmem x hx;exact ⟨_,Go.WideElems.rd_mk (key:=x.key) (val:=x.val) (born:=x.born) (by rw [h2];exact aAu hkind (hsz s h1)) rfl⟩⟩
 have hown:w.ownsMap Tryz.prog 9 R r ks.length (.map ((entries.toList.map (Go.WideElems.rg Tryz.prog 9 R)).foldr DataW.insert [])):=⟨entries,clock,hr0,hF,by omega,rfl⟩
 have hcell:w.cell? ⟨b0,0,none⟩=some (.map (some r)):=by simp [World.cell?,hb0]
 have hlt:b0<w.heap.size:=(Array.getElem?_eq_some_iff.1 hb0).1;have hsize:Maps.size (DataW.map ((entries.toList.map (Go.WideElems.rg Tryz.prog 9 R)).foldr DataW.insert []):DataW Unit)=ks.length:=by
  show List.length _=_
  rw [List.Perm.length_eq (sorted_perm _),List.length_map,Array.length_toList,hesz]
 have hseq:=AnyZ.keys_gives (ρ := Ld) { keysLay with } Fence.wide 2 trivial rfl (by omega) b0 r ks.length _ w hlt hcell hown;rw [hsize] at hseq;have hperm:(strKeys (DataW.map ((entries.toList.map (Go.WideElems.rg Tryz.prog 9 R)).foldr DataW.insert []):DataW Unit)).Perm (ks.map fun s=>s.data.toList):=by
  show (List.map _ _).Perm _
  refine (List.Perm.map _ (sorted_perm _)).trans ?_;rw [List.map_map];have:entries.toList.map ((fun p:Lit×DataW Unit=>strOf p.1) ∘ Go.WideElems.rg Tryz.prog 9 R)=(entries.toList.map (·.key)).map fun v=>(Dd v).data.toList:=by
   rw [List.map_map];refine List.map_congr_left fun x hx=>?_
   obtain ⟨s,h1,h2⟩:=hmem x hx;simp only [Function.comp_apply];have h3:Go.WideElems.rd Tryz.prog 9 R x=some (.string s.data.toList,DataW.nil):=Go.WideElems.rd_mk (key:=x.key) (val:=x.val) (born:=x.born) (kl := .string s.data.toList) (yv:=(DataW.nil,[])) (by rw [h2];exact aAu hkind (hsz s h1)) rfl;rw [Go.WideElems.rg_of h3,h2];rfl
  rw [this,hks,List.map_map];exact .refl _
 have hS:=AnyZ.sorted_in (ρ := qH) Vw Fence.wide 5 trivial trivial trivial trivial rfl (by omega) (aJy _) (enters_of Tryz.func129 (by kernel_rfl) rfl) 147 #[.pointer (some ⟨b0,0,none⟩)] trivial (enters_of Tryz.func147 (by kernel_rfl) rfl) _ ks.length (by unfold maxLen;omega) (by omega) w hseq;refine (callsIn_wide.1 hS).mono ?_;rintro e w' ⟨v,ss,rfl,hp,hrow,hnil,hb⟩;refine ⟨v,rfl,?_,hb⟩;have e1:ss.mergeSort leB=(ks.map fun s=>s.data.toList).mergeSort leB:=mergeSort_of_perm (hp.trans hperm);have e2:(ss.mergeSort leB).map encStr=(cV ks).map Value.string:=by
  rw [e1,Qw];rfl
 have e3:ss.length=(cV ks).length:=by
  rw [(hp.trans hperm).length_eq,(dY ks).length_eq,List.length_map]
 rw [← e3, ← e2];exact hrow
theorem Yp (es:List (Value×V)) (ks:List ByteArray) (d:List T) (hk:es.map (·.1)=ks.map Value.string) (hnd:ks.Nodup) (hsz:∀ k∈ks,k.size≤maxLen) (hlen:ks.length≤1000000) :
  CIO Tryz.prog 59 2 [(0, .box [.own 1]),(1, .map es)] [.clo 147 [.own 0]] (.t (.list 1 d ((cV ks).map fun k=>[.lit (.string k)]))) [(0, .box [.own 1]),(1, .map es)] 2:=by
 refine ⟨Tryz.X59,fun E w vs hr hbd hargs=>?_⟩;obtain ⟨hv0,hat0,b0,vs0,ty,rfl,hheap0,hrd0,hone0⟩:=hr.has 0 (.box [.own 1]) rfl;obtain ⟨hv1,hat1,r,entries,clock,rfl,hheap1,hrd1,hborn⟩:=hr.has 1 (.map es) rfl;have h0:∃ u,vs0 = #[u]∧RdV w E (.own 1) u:=by
  obtain ⟨vl⟩:=vs0
  match vl,hrd0 with
  | [u],h=>exact ⟨u,rfl,by simpa only [RdVs,and_true] using h⟩
  | [],h=>simp only [RdVs] at h
  | _::_::_,h=>simp only [RdVs,and_false] at h
 obtain ⟨u,rfl,hu⟩:=h0;simp only [RdV] at hu;have hu':=hu.2.2 _ (.inl hat1);subst hu';obtain ⟨v,rfl,hv⟩:∃ v,vs = [v]∧RdV w E (.clo 147 [.own 0]) v:=by
  match vs,hargs with
  | [v],h=>exact ⟨v,rfl,by simpa only [RdVs,and_true] using h⟩
  | [],h=>simp only [RdVs] at h
  | _::_::_,h=>simp only [RdVs,and_false] at h
 simp only [RdV] at hv;obtain ⟨cs,rfl,hcs⟩:=hv;obtain ⟨p,rfl,hp⟩:∃ p,cs = #[p]∧RdV w E (.own 0) p:=by
  obtain ⟨cl⟩:=cs
  match cl,hcs with
  | [u],h=>exact ⟨u,rfl,by simpa only [RdVs,and_true] using h⟩
  | [],h=>simp only [RdVs] at h
  | _::_::_,h=>simp only [RdVs,and_false] at h
 simp only [RdV] at hp;have hb2:=hp.2.2 _ (.inl hat0);subst hb2;refine (aMh hheap0 hheap1 hborn (by rw [Hs hrd1,hk]) hnd hsz hlen).mono ?_;rintro e w' ⟨v,rfl,hrow,hb⟩;have hnew:∀ b,aU v=some b→w.heap.size≤b∧b<w'.heap.size:=fun b hb'=>by
  rcases hrow.2 with ⟨rfl,_⟩ | ⟨g,cap,cur,rfl,h1,h2,_⟩
  ·cases hb'
  ·injection hb' with hb';subst hb';exact ⟨h1,(Array.getElem?_eq_some_iff.1 h2).1⟩
 obtain ⟨k1,k2⟩:=hr.later (S':=fun b=>E.S b∨aU v=some b) hb (fun _ h => .inl h) (fun b h=>h.imp id fun h=>(hnew b h).1) (fun b h=>h.elim (fun h=>Nat.lt_of_lt_of_le (hr.slt b h) hb.size) fun h=>(hnew b h).2);refine ⟨v,_,rfl,k1,hbd,k2,?_⟩;simp only [RdV];have hsz':∀ s∈cV ks,s.size≤maxLen:=fun s hs=>hsz s ((dY ks).mem_iff.1 hs)
 refine Ay (S:=fun _=>False) (e:=9) (cells:=(cV ks).map Value.string) ?_ ?_ ?_ (fun _ h=>h.elim) (fun b hb' => .inr hb')
 ·rw [List.length_map];exact ownsRow_base_a hrow (Nat.zero_le _)
 ·have:(List.map (fun k=>[T.lit (.string k)]) (cV ks)).flatten=(cV ks).map fun s=>T.lit (.string s):=by
   induction cV ks with
   | nil=>rfl
   | cons x l ih=>rw [List.map_cons,List.flatten_cons,ih];rfl
  rw [this];exact Hr hsz'
 ·intro x hx;obtain ⟨s,_,rfl⟩:=List.mem_map.1 hx;rfl
theorem put_med (k:Value) (m:MediumR) (es:List Ent):Cg k (.agg (dV m)) (tEs es)=tEs (tT k (medC m) es):=Fc k (medC m) es
theorem put_seq (k:Value) (s:SequenceR) (es:List Ent):Cg k (jG s) (tEs es)=tEs (tT k (seqC s) es):=Fc k (seqC s) es
theorem kinds_M (l:List MediumR):qE .string (Uv l)=true:=tF (nB _ _ _)
theorem kinds_S (l:List SequenceR):qE .string (Td l)=true:=tF (nB _ _ _)
theorem lend_M (l:List MediumR) (h:Heap) (n:Nat):pQ (aV h n) (tEs (Uv l))=some (Uv l):=Bm _ (gY h n) _ (rY _ _ (fun _=>rfl) _)
theorem lend_S (l:List SequenceR) (h:Heap) (n:Nat):pQ (aV h n) (tEs (Td l))=some (Td l):=Bm _ (gY h n) _ (rY _ _ (fun _=>rfl) _)
attribute [go_sem] kinds_M kinds_S lend_M lend_S
theorem cCat (p:ProjR) (h1:p.media.length≤16) (h2:p.seqs.length≤16):aS Tryz.prog 71 [dT p] (aPy p):=by
 refine aH Tryz.X71 Tryz.func71 rfl Tryz.ntmps71 (by rw [Tryz.results71]) (aD _ ?_);simp only [go_sem,simprocAttr];refine aE (fun (k:Nat) σ => { σ with fr := σ.fr.set 14 (aC k),h := σ.h.set 2 (.map (tEs (Uv (p.media.take k)))) }) (fun k=>k≤p.media.length) (fun k=>p.media.length - k) 0 (aA ?_) (Nat.zero_le _) ?_
 ·simp only [go_sem,simprocAttr]<;>simp [Uv,kX,tEs]
 ·intro k hk;refine aD _ ?_;simp only [go_sem,simprocAttr];refine ⟨fun hlt=>?_,fun hge=>?_⟩
  ·simp only [bxx] at hlt;unfold awS;simp only [go_sem,simprocAttr];refine ⟨⟨by omega,by omega⟩,k+1,aA ?_,by omega,by omega⟩;simp only [go_sem,simprocAttr];rw [put_med,aZ (show k<9223372036854775807 by omega)];unfold Uv;rw [Qx _ _ (show k<p.media.length by omega)];simp
  ·simp only [bxx] at hge;unfold awS;simp only [go_sem,simprocAttr];rw [List.take_of_length_le (show p.media.length≤k by omega)];refine aE (fun (k:Nat) σ => { σ with fr := σ.fr.set 27 (aC k),h := σ.h.set 3 (.map (tEs (Td (p.seqs.take k)))) }) (fun k=>k≤p.seqs.length) (fun k=>p.seqs.length - k) 0 (aA ?_) (Nat.zero_le _) ?_
   ·simp only [go_sem,simprocAttr]<;>simp [Td,kX,tEs]
   ·intro j hj;refine aD _ ?_;simp only [go_sem,simprocAttr];refine ⟨fun hlt=>?_,fun hge=>?_⟩
    ·simp only [bxx] at hlt;unfold awS;simp only [go_sem,simprocAttr];refine ⟨⟨by omega,by omega⟩,j+1,aA ?_,by omega,by omega⟩;simp only [go_sem,simprocAttr];have e1:=put_seq (.string (p.seqs.getD j default).name) (p.seqs.getD j default) (Td (p.seqs.take j));unfold jG at e1;rw [e1,aZ (show j<9223372036854775807 by omega)];unfold Td;rw [Qx _ _ (show j<p.seqs.length by omega)];simp
    ·simp only [bxx] at hge;unfold awS;simp only [go_sem,simprocAttr];rw [List.take_of_length_le (show p.seqs.length≤j by omega)]
def cQ (s:SequenceR):List ClipR:=(s.video++s.sound).flatten
theorem aU5 (s:SequenceR):aS Tryz.prog 206 [jG s] (.clo 243 [.elem 9 (SequenceR.c s) [SequenceR.c s] 0 0]):=by
 refine aH Tryz.X206 Tryz.func206 rfl Tryz.ntmps206 (by rw [Tryz.results206]) (aD _ ?_);simp only [go_sem,simprocAttr]<;>rfl
theorem Yt (d:List T) (a b:List (List ClipR)) (ha:a.length≤8) (hb:b.length≤8):aS Tryz.prog 244 [.t (.list 1 d [[cK a],[cK b]])] (.t (cK (a++b))):=by
 refine aH Tryz.X244 Tryz.func244 rfl Tryz.ntmps244 (by rw [Tryz.results244]) (aD _ ?_);simp only [go_sem,simprocAttr];have c2:((2:Nat):Int)=2:=rfl;have w1:IntKind.i64.wrap 1=1:=by decide
 have w2:IntKind.i64.wrap 2=2:=by decide
 have e0:IntKind.i64.wrap (0+(a.length:Int))=a.length:=by rw [wrap64 (by omega) (by omega)];omega
 have e0':IntKind.i64.wrap (a.length:Int)=a.length:=by rw [wrap64 (by omega) (by omega)]
 have e1:IntKind.i64.wrap ((a.length:Int)+(b.length:Int))=((a++b).length:Nat):=by rw [wrap64 (by omega) (by omega),List.length_append];omega
 have n0 : ¬ ((a.length:Int)<0):=by omega
 have n1 : ¬ ((((a++b).length:Nat):Int)<0):=by omega
 refine fP ?_;refine bG (aD _ ?_);simp only [go_sem,simprocAttr,dtf,nth,Option.getD_some,List.getElem?_cons_zero,w1,c2,e0,n0,forall_const];refine bG (aD _ ?_);simp only [go_sem,simprocAttr,dtf,nth,Option.getD_some,List.getElem?_cons_zero,List.getElem?_cons_succ,w2,c2,e1,n1,forall_const];refine bG (aD _ ?_);simp only [go_sem,simprocAttr,decide_false,forall_const];refine igrowTr (n:=(a++b).length) (by rw [List.length_append];omega) (bL []) ?_;simp only [go_sem,simprocAttr];refine fP ?_;refine bG (aD _ ?_);simp only [go_sem,simprocAttr,decide_true,nth,Option.getD_some,List.getElem?_cons_zero,w1,c2,forall_const];refine ⟨by unfold maxLen;omega,?_⟩;refine bG (aD _ ?_);simp only [go_sem,simprocAttr,decide_true,nth,Option.getD_some,List.getElem?_cons_zero,List.getElem?_cons_succ,w2,c2,forall_const];refine ⟨⟨by unfold maxLen;omega,by omega⟩,?_⟩;refine bG (aD _ ?_);simp only [go_sem,simprocAttr,decide_false,forall_const];rw [List.map_append]
