/- Proved here: Sources, clips, tracks and expressions as plain data, and how they lie in cells; conditions stand in each theorem. -/
import Derived.Test.YtbfnemkngoaeeaaGreatQ06
import Derived.Test.YtbfnemkngoaeeaaGreatQ02
import Derived.Test.YtbfnemkngoaeeaaGreatProg
set_option linter.unusedSimpArgs false
set_option linter.unusedVariables false
set_option linter.unusedSectionVars false
set_option linter.unnecessarySimpa false
namespace Go.Proofs.YtbfnemkngoaeeaaGreat
open Go.RowKit
set_option maxRecDepth 4000
theorem bxx:(∀ (p:Prop) [Decidable p],(decide p=true)=p)∧(∀ (p:Prop) [Decidable p],(decide p=false) ↔ ¬p)∧(∀ (α : Type) [BEq α] [LawfulBEq α] (a b : α),((a==b)=true) ↔ a=b)∧(∀ (α : Type) [BEq α] [LawfulBEq α] (a b : α),((a != b)=true) ↔ a≠b)∧(∀ (α : Sort 1) (a b : α),(a≠b) = ¬(a=b))∧(∀ (α : Type) [BEq α] [LawfulBEq α] (a b : α),((a==b)=false) ↔ a≠b)∧(∀ b:Bool,((!b)=true)=(b=false))∧(∀ b:Bool,(¬(b=true))=(b=false))∧(∀ b:Bool,((!b)=false)=(b=true))∧(∀ a b:Bool,((a||b)=true)=(a=true∨b=true))∧(∀ a b:Bool,((a&&b)=true)=(a=true∧b=true))∧(∀ a b:Bool,((a||b)=false)=(a=false∧b=false))∧(∀ a b:Bool,((a&&b)=false)=(a=false∨b=false))∧((false=true)=False)∧(∀ a b:Bool,((!a)=b)=(a = !b))∧((!true)=false)∧((!false)=true) :=
 ⟨fun _ _=>decide_eq_true_eq,fun _ _=>decide_eq_false_iff_not,fun _ _ _ _ _=>beq_iff_eq,fun _ _ _ _ _=>bne_iff_ne,fun _ _ _=>rfl,fun _ _ _ _ _=>beq_eq_false_iff_ne,by decide,by decide,by decide,by decide,by decide,by decide,by decide,by decide,by decide,rfl,rfl⟩
theorem dtf:(∀ h:Decidable True,@decide True h=true)∧(∀ h:Decidable False,@decide False h=false):=⟨fun h=>decide_true h,fun h=>decide_false h⟩
theorem bff:(∀ b:Bool,(b||false)=b)∧(∀ b:Bool,(false||b)=b)∧(∀ b:Bool,(b||true)=true)∧(∀ b:Bool,(true||b)=true)∧(∀ b:Bool,(b&&true)=b)∧(∀ b:Bool,(true&&b)=b)∧(∀ b:Bool,(b&&false)=false)∧(∀ b:Bool,(false&&b)=false):=⟨Bool.or_false,Bool.false_or,Bool.or_true,Bool.true_or,Bool.and_true,Bool.true_and,Bool.and_false,Bool.false_and⟩
abbrev ti (n:Int):T := .lit (.int .i64 n)
abbrev tu (n:Int):T := .lit (.int .u64 n)
abbrev eX (s:ByteArray):T := .lit (.string s)
abbrev tbl (b:Bool):T := .lit (.bool b)
abbrev dB (n:Int):V := .t (.lit (.int .u64 n))
def Be (n:Int):List T:=[ti n]
def Ms (s:ByteArray):List T:=[eX s]
@[go_sem] abbrev bN (l:List Int):T := .list 1 (Be 0) (l.map Be)
@[go_sem] abbrev uU (l:List ByteArray):T := .list 1 (Ms ⟨#[]⟩) (l.map Ms)
@[go_sem] theorem intC_t (n:Int):(Be n).map V.t = [aC n]:=rfl
@[go_sem] theorem strC_t (n:ByteArray):(Ms n).map V.t = [bP n]:=rfl
@[go_sem] theorem intC_l (n:Int):(Be n).length=1:=rfl
@[go_sem] theorem strC_l (n:ByteArray):(Ms n).length=1:=rfl
structure RatR where
 num:Int
 den:Int
 deriving Inhabited
structure SourceR where
 kind:Int
 name:ByteArray
 pos:RatR
 speed:RatR
 smooth:Bool
 deriving Inhabited
structure ClipR where
 len:Int
 kind:Int
 a:SourceR
 b:SourceR
 off:Int
 total:Int
 param:Int
 text:ByteArray
 gain:Int
 chan:List Int
 deriving Inhabited
def RatR.c (r:RatR):List T:=[ti r.num,ti r.den]
def SourceR.c (s:SourceR):List T:=[ti s.kind,eX s.name,ti s.pos.num,ti s.pos.den,ti s.speed.num,ti s.speed.den,tbl s.smooth]
def ClipR.c (c:ClipR):List T:=[ti c.len,ti c.kind,ti c.a.kind,eX c.a.name,ti c.a.pos.num,ti c.a.pos.den,ti c.a.speed.num,ti c.a.speed.den,tbl c.a.smooth,
 ti c.b.kind,eX c.b.name,ti c.b.pos.num,ti c.b.pos.den,ti c.b.speed.num,ti c.b.speed.den,tbl c.b.smooth,ti c.off,ti c.total,ti c.param,eX c.text,ti c.gain,bN c.chan]
abbrev uK (r:RatR):V := .agg [aC r.num,aC r.den]
abbrev mM (s:SourceR):V := .agg [aC s.kind,bP s.name,aC s.pos.num,aC s.pos.den,aC s.speed.num,aC s.speed.den,aP s.smooth]
abbrev fH (c:ClipR):V := .agg [aC c.len,aC c.kind,aC c.a.kind,bP c.a.name,aC c.a.pos.num,aC c.a.pos.den,aC c.a.speed.num,aC c.a.speed.den,aP c.a.smooth,
 aC c.b.kind,bP c.b.name,aC c.b.pos.num,aC c.b.pos.den,aC c.b.speed.num,aC c.b.speed.den,aP c.b.smooth,aC c.off,aC c.total,aC c.param,bP c.text,aC c.gain, .t (bN c.chan)]
@[go_sem] theorem RatR.ct (r:RatR):(RatR.c r).map V.t = [aC r.num,aC r.den]:=rfl
@[go_sem] theorem SourceR.ct (s:SourceR):(SourceR.c s).map V.t = [aC s.kind,bP s.name,aC s.pos.num,aC s.pos.den,aC s.speed.num,aC s.speed.den,aP s.smooth]:=rfl
@[go_sem] theorem ClipR.ct (c:ClipR):(ClipR.c c).map V.t = [aC c.len,aC c.kind,aC c.a.kind,bP c.a.name,aC c.a.pos.num,aC c.a.pos.den,aC c.a.speed.num,aC c.a.speed.den,aP c.a.smooth,
 aC c.b.kind,bP c.b.name,aC c.b.pos.num,aC c.b.pos.den,aC c.b.speed.num,aC c.b.speed.den,aP c.b.smooth,aC c.off,aC c.total,aC c.param,bP c.text,aC c.gain, .t (bN c.chan)]:=rfl
@[go_sem] theorem RatR.cl (r:RatR):(RatR.c r).length=2:=rfl
@[go_sem] theorem SourceR.cl (r:SourceR):(SourceR.c r).length=7:=rfl
@[go_sem] theorem ClipR.cl (r:ClipR):(ClipR.c r).length=22:=rfl
@[go_sem] abbrev dD (l:List ClipR):T := .list 22 (ClipR.c default) (l.map ClipR.c)
theorem aU {α : Type} [Inhabited α] {xs:List α} {k:Nat} (h:k<xs.length):xs.getD k default=xs[k]:=by simp [List.getD_eq_getElem?_getD,h]
theorem brW {B b:Bool} {A C:Prop} (h:B=b) (k:(b=true→A)∧(b=false→C)):(B=true→A)∧(B=false→C):=by rw [h];exact k
theorem nt {b:Bool} (h:(!b)=true):b=false:=by cases b<;>simp_all
theorem nf {b:Bool} (h:(!b)=false):b=true:=by cases b<;>simp_all
@[go_sem] theorem bne_f {b:Bool}:(b != false)=b:=by cases b<;>rfl
@[go_sem] theorem bne_t {b:Bool}:(b != true) = !b:=by cases b<;>rfl
def I64 (n:Int):Prop := -9223372036854775808≤n∧n≤9223372036854775807
theorem wrap64 {x:Int} (h1 : -9223372036854775808≤x) (h2:x≤9223372036854775807):IntKind.i64.wrap x=x:=by
 have e1:(2:Int) ^ IntKind.i64.bits=18446744073709551616:=by decide
 have e2:(2:Int) ^ (IntKind.i64.bits - 1)=9223372036854775808:=by decide
 unfold IntKind.wrap;simp only [IntKind.signed,if_true,e1,e2,Bool.true_and,decide_eq_true_eq];split<;>omega
theorem fV {n:Nat} (h:n≤9223372036854775807):IntKind.i64.wrap (n:Int)=n:=wrap64 (by omega) (by omega)
theorem bJ {k:Nat} (h:k<9223372036854775807):IntKind.i64.wrap ((k:Int)+1)=(k:Int)+1:=wrap64 (by omega) (by omega)
theorem Sb {x:Int} (h1 : 0≤x) (h2:x≤18446744073709551615):IntKind.u64.wrap x=x:=by
 have e1:(2:Int) ^ IntKind.u64.bits=18446744073709551616:=by decide
 unfold IntKind.wrap;simp only [IntKind.signed,e1,Bool.false_and,Bool.false_eq_true,if_false];omega
theorem uP {x:Int} (h1 : -18446744073709551616≤x) (h2:x<0):IntKind.u64.wrap x=x+18446744073709551616:=by
 have e1:(2:Int) ^ IntKind.u64.bits=18446744073709551616:=by decide
 unfold IntKind.wrap;simp only [IntKind.signed,e1,Bool.false_and,Bool.false_eq_true,if_false];omega
structure RatR.fit (r:RatR):Prop where
 num:I64 r.num
 den:I64 r.den
structure SourceR.fit (s:SourceR):Prop where
 kind:I64 s.kind
 pos:s.pos.fit
 speed:s.speed.fit
structure ClipR.fit (c:ClipR):Prop where
 len:I64 c.len
 kind:I64 c.kind
 a:c.a.fit
 b:c.b.fit
 off:I64 c.off
 total:I64 c.total
 param:I64 c.param
 gain:I64 c.gain
def nmI (n:Int):Bool:=(decide (97≤n)&&decide (n≤122))||(decide (48≤n)&&decide (n≤57))||n==45||n==95||n==46
def lnI (n:Int):Bool:=decide (32≤n)&&decide (n≤126)
def sT (p:Int→Bool) (s:ByteArray):Bool:=s.data.toList.all fun c=>p c.toNat
def gU (s:ByteArray) (k:Nat):Int:=(s.data.toList.getD k 0).toNat
theorem Rs (s:ByteArray):s.data.toList.length=s.size:=Array.length_toList
theorem xY {p:Int→Bool} {s:ByteArray} {k:Nat} (h:k<s.size) (hp:p (gU s k)=false):sT p s=false:=by
 have hl:k<s.data.toList.length:=by rw [Rs];exact h
 unfold gU at hp;rw [List.getD_eq_getElem?_getD,List.getElem?_eq_getElem hl] at hp;unfold sT;rw [Bool.eq_false_iff,ne_eq,List.all_eq_true];intro h';have:=h' _ (List.getElem_mem hl);simp only [Option.getD_some] at hp;rw [hp] at this;cases this
theorem tX {p:Int→Bool} {s:ByteArray} (h:∀ k,k<s.size→p (gU s k)=true):sT p s=true:=by
 unfold sT;rw [List.all_eq_true];intro c hc;obtain ⟨k,hk,rfl⟩:=List.mem_iff_getElem.1 hc;have:=h k (by rw [← Rs];exact hk);unfold gU at this;rw [List.getD_eq_getElem?_getD,List.getElem?_eq_getElem hk] at this;exact this
def cG (s:ByteArray):Bool:=decide (1≤s.size)&&decide (s.size≤32)&&sT nmI s
def fS (s:ByteArray):Bool:=decide (1≤s.size)&&decide (s.size≤64)&&sT lnI s
open Go.RowKit
@[go_sem] theorem Tryz.xsz2:Tryz.prog.szT 2=some 1:=by kernel_rfl
@[go_sem] theorem Tryz.xag2:Tryz.prog.aggT 2=some false:=by kernel_rfl
@[go_sem] theorem Tryz.xze2:Tryz.prog.zeroT 2=some [Value.int IntKind.i64 0]:=by kernel_rfl
@[go_sem] theorem Tryz.xzk2:bX [Value.int IntKind.i64 0]=true:=by kernel_rfl
@[go_sem] theorem Tryz.xsz3:Tryz.prog.szT 3=some 1:=by kernel_rfl
@[go_sem] theorem Tryz.xag3:Tryz.prog.aggT 3=some false:=by kernel_rfl
@[go_sem] theorem Tryz.xby3:Tryz.prog.bytesT 3=some 8:=by kernel_rfl
@[go_sem] theorem Tryz.xze3:Tryz.prog.zeroT 3=some [Value.int IntKind.i64 0]:=by kernel_rfl
@[go_sem] theorem Tryz.xsz4:Tryz.prog.szT 4=some 1:=by kernel_rfl
@[go_sem] theorem Tryz.xag4:Tryz.prog.aggT 4=some false:=by kernel_rfl
@[go_sem] theorem Tryz.xze4:Tryz.prog.zeroT 4=some [Value.bool false]:=by kernel_rfl
@[go_sem] theorem Tryz.xzk4:bX [Value.bool false]=true:=by kernel_rfl
@[go_sem] theorem Tryz.xag5:Tryz.prog.aggT 5=some false:=by kernel_rfl
@[go_sem] theorem Tryz.xsz9:Tryz.prog.szT 9=some 1:=by kernel_rfl
@[go_sem] theorem Tryz.xag9:Tryz.prog.aggT 9=some false:=by kernel_rfl
@[go_sem] theorem Tryz.xby9:Tryz.prog.bytesT 9=some 16:=by kernel_rfl
@[go_sem] theorem Tryz.xze9:Tryz.prog.zeroT 9=some [Value.string ⟨#[]⟩]:=by kernel_rfl
@[go_sem] theorem Tryz.xzk9:bX [Value.string ⟨#[]⟩]=true:=by kernel_rfl
@[go_sem] theorem Tryz.xsz22:Tryz.prog.szT 22=some 1:=by kernel_rfl
@[go_sem] theorem Tryz.xag22:Tryz.prog.aggT 22=some false:=by kernel_rfl
@[go_sem] theorem Tryz.xel22:Tryz.prog.elemT 22=some 3:=by kernel_rfl
@[go_sem] theorem Tryz.xzk22:bX [Value.slice none 0 0]=true:=by kernel_rfl
@[go_sem] theorem Tryz.xzk24:bX [Value.slice none 0 0,Value.int IntKind.i64 0]=true:=by kernel_rfl
@[go_sem] theorem Tryz.xpl25:Tryz.prog.plT 25=some [(0,1),(1,1)]:=by kernel_rfl
@[go_sem] theorem Tryz.xze25:Tryz.prog.zeroT 25=some [Value.slice none 0 0,Value.int IntKind.i64 0]:=by kernel_rfl
@[go_sem] theorem Tryz.xfl25_0:Tryz.prog.fldT 25 0=some (0,22):=by kernel_rfl
@[go_sem] theorem Tryz.xfl25_1:Tryz.prog.fldT 25 1=some (1,3):=by kernel_rfl
@[go_sem] theorem Tryz.xel26:Tryz.prog.elemT 26=some 103:=by kernel_rfl
@[go_sem] theorem Tryz.xsz27:Tryz.prog.szT 27=some 1:=by kernel_rfl
@[go_sem] theorem Tryz.xag27:Tryz.prog.aggT 27=some false:=by kernel_rfl
@[go_sem] theorem Tryz.xel27:Tryz.prog.elemT 27=some 103:=by kernel_rfl
@[go_sem] theorem Tryz.xby27:Tryz.prog.bytesT 27=some 24:=by kernel_rfl
@[go_sem] theorem Tryz.xze27:Tryz.prog.zeroT 27=some [Value.slice none 0 0]:=by kernel_rfl
@[go_sem] theorem Tryz.xzk29:bX [Value.int IntKind.i64 0,Value.int IntKind.i64 0]=true:=by kernel_rfl
@[go_sem] theorem Tryz.xsz30:Tryz.prog.szT 30=some 2:=by kernel_rfl
@[go_sem] theorem Tryz.xag30:Tryz.prog.aggT 30=some true:=by kernel_rfl
@[go_sem] theorem Tryz.xpl30:Tryz.prog.plT 30=some [(0,1),(1,1)]:=by kernel_rfl
@[go_sem] theorem Tryz.xze30:Tryz.prog.zeroT 30=some [Value.int IntKind.i64 0,Value.int IntKind.i64 0]:=by kernel_rfl
@[go_sem] theorem Tryz.xfl30_0:Tryz.prog.fldT 30 0=some (0,2):=by kernel_rfl
@[go_sem] theorem Tryz.xfl30_1:Tryz.prog.fldT 30 1=some (1,2):=by kernel_rfl
@[go_sem] theorem Tryz.xsz35:Tryz.prog.szT 35=some 1:=by kernel_rfl
@[go_sem] theorem Tryz.xag35:Tryz.prog.aggT 35=some false:=by kernel_rfl
@[go_sem] theorem Tryz.xel35:Tryz.prog.elemT 35=some 82:=by kernel_rfl
@[go_sem] theorem Tryz.xsz36:Tryz.prog.szT 36=some 1:=by kernel_rfl
@[go_sem] theorem Tryz.xag36:Tryz.prog.aggT 36=some false:=by kernel_rfl
@[go_sem] theorem Tryz.xel36:Tryz.prog.elemT 36=some 114:=by kernel_rfl
@[go_sem] theorem Tryz.xzk37:bX [Value.slice none 0 0,Value.slice none 0 0]=true:=by kernel_rfl
@[go_sem] theorem Tryz.xsz38:Tryz.prog.szT 38=some 2:=by kernel_rfl
@[go_sem] theorem Tryz.xag38:Tryz.prog.aggT 38=some true:=by kernel_rfl
@[go_sem] theorem Tryz.xpl38:Tryz.prog.plT 38=some [(0,1),(1,1)]:=by kernel_rfl
@[go_sem] theorem Tryz.xze38:Tryz.prog.zeroT 38=some [Value.slice none 0 0,Value.slice none 0 0]:=by kernel_rfl
@[go_sem] theorem Tryz.xfl38_0:Tryz.prog.fldT 38 0=some (0,35):=by kernel_rfl
@[go_sem] theorem Tryz.xfl38_1:Tryz.prog.fldT 38 1=some (1,36):=by kernel_rfl
@[go_sem] theorem Tryz.xsz40:Tryz.prog.szT 40=some 1:=by kernel_rfl
@[go_sem] theorem Tryz.xag40:Tryz.prog.aggT 40=some false:=by kernel_rfl
@[go_sem] theorem Tryz.xze40:Tryz.prog.zeroT 40=some [Value.int IntKind.i64 0]:=by kernel_rfl
@[go_sem] theorem Tryz.xsz57:Tryz.prog.szT 57=some 1:=by kernel_rfl
@[go_sem] theorem Tryz.xag57:Tryz.prog.aggT 57=some false:=by kernel_rfl
@[go_sem] theorem Tryz.xel57:Tryz.prog.elemT 57=some 9:=by kernel_rfl
@[go_sem] theorem Tryz.xsz67:Tryz.prog.szT 67=some 1:=by kernel_rfl
@[go_sem] theorem Tryz.xag67:Tryz.prog.aggT 67=some false:=by kernel_rfl
def Tryz.z78:List Value:=[Value.int IntKind.i64 0,Value.int IntKind.i64 0,Value.int IntKind.i64 0,Value.int IntKind.i64 0,Value.bool false,Value.int IntKind.i64 0,Value.int IntKind.i64 0]++List.replicate 128 (Value.int IntKind.u8 0)
@[go_sem] theorem Tryz.zok78:bX Tryz.z78=true:=by kernel_rfl
@[go_sem] theorem Tryz.zlen78:Tryz.z78.length=135:=by kernel_rfl
@[go_sem] theorem Tryz.xsz79:Tryz.prog.szT 79=some 135:=by kernel_rfl
@[go_sem] theorem Tryz.xag79:Tryz.prog.aggT 79=some true:=by kernel_rfl
@[go_sem] theorem Tryz.xpl79:Tryz.prog.plT 79=some [(0,1),(1,1),(2,2),(4,1),(5,1),(6,1),(7,64),(71,64)]:=by kernel_rfl
def Tryz.z79:List Value:=[Value.int IntKind.i64 0,Value.int IntKind.i64 0,Value.int IntKind.i64 0,Value.int IntKind.i64 0,Value.bool false,Value.int IntKind.i64 0,Value.int IntKind.i64 0]++List.replicate 128 (Value.int IntKind.u8 0)
@[go_sem] theorem Tryz.xze79:Tryz.prog.zeroT 79=some Tryz.z79:=by kernel_rfl
@[go_sem] theorem Tryz.zok79:bX Tryz.z79=true:=by kernel_rfl
@[go_sem] theorem Tryz.zlen79:Tryz.z79.length=135:=by kernel_rfl
@[go_sem] theorem Tryz.xfl79_2:Tryz.prog.fldT 79 2=some (2,30):=by kernel_rfl
@[go_sem] theorem Tryz.xsz80:Tryz.prog.szT 80=some 1:=by kernel_rfl
@[go_sem] theorem Tryz.xag80:Tryz.prog.aggT 80=some false:=by kernel_rfl
@[go_sem] theorem Tryz.xel80:Tryz.prog.elemT 80=some 110:=by kernel_rfl
def Tryz.z81:List Value:=[Value.string ⟨#[]⟩,Value.int IntKind.u64 0,Value.int IntKind.i64 0,Value.int IntKind.i64 0,Value.int IntKind.i64 0,Value.int IntKind.i64 0,Value.bool false,Value.int IntKind.i64 0,Value.int IntKind.i64 0]++List.replicate 128 (Value.int IntKind.u8 0) ++ [Value.int IntKind.i64 0,Value.int IntKind.i64 0,Value.int IntKind.i64 0,Value.slice none 0 0]
@[go_sem] theorem Tryz.zok81:bX Tryz.z81=true:=by kernel_rfl
@[go_sem] theorem Tryz.zlen81:Tryz.z81.length=141:=by kernel_rfl
@[go_sem] theorem Tryz.xsz82:Tryz.prog.szT 82=some 141:=by kernel_rfl
@[go_sem] theorem Tryz.xag82:Tryz.prog.aggT 82=some true:=by kernel_rfl
@[go_sem] theorem Tryz.xby82:Tryz.prog.bytesT 82=some 256:=by kernel_rfl
@[go_sem] theorem Tryz.xpl82:Tryz.prog.plT 82=some [(0,1),(1,1),(2,135),(137,1),(138,1),(139,1),(140,1)]:=by kernel_rfl
def Tryz.z82:List Value:=[Value.string ⟨#[]⟩,Value.int IntKind.u64 0,Value.int IntKind.i64 0,Value.int IntKind.i64 0,Value.int IntKind.i64 0,Value.int IntKind.i64 0,Value.bool false,Value.int IntKind.i64 0,Value.int IntKind.i64 0]++List.replicate 128 (Value.int IntKind.u8 0) ++ [Value.int IntKind.i64 0,Value.int IntKind.i64 0,Value.int IntKind.i64 0,Value.slice none 0 0]
@[go_sem] theorem Tryz.xze82:Tryz.prog.zeroT 82=some Tryz.z82:=by kernel_rfl
@[go_sem] theorem Tryz.zok82:bX Tryz.z82=true:=by kernel_rfl
@[go_sem] theorem Tryz.zlen82:Tryz.z82.length=141:=by kernel_rfl
@[go_sem] theorem Tryz.xfl82_0:Tryz.prog.fldT 82 0=some (0,9):=by kernel_rfl
@[go_sem] theorem Tryz.xfl82_1:Tryz.prog.fldT 82 1=some (1,67):=by kernel_rfl
@[go_sem] theorem Tryz.xfl82_2:Tryz.prog.fldT 82 2=some (2,79):=by kernel_rfl
@[go_sem] theorem Tryz.xfl82_3:Tryz.prog.fldT 82 3=some (137,2):=by kernel_rfl
@[go_sem] theorem Tryz.xfl82_4:Tryz.prog.fldT 82 4=some (138,3):=by kernel_rfl
@[go_sem] theorem Tryz.xfl82_5:Tryz.prog.fldT 82 5=some (139,2):=by kernel_rfl
@[go_sem] theorem Tryz.xfl82_6:Tryz.prog.fldT 82 6=some (140,80):=by kernel_rfl
@[go_sem] theorem Tryz.xsz83:Tryz.prog.szT 83=some 2:=by kernel_rfl
@[go_sem] theorem Tryz.xag83:Tryz.prog.aggT 83=some true:=by kernel_rfl
@[go_sem] theorem Tryz.xpl83:Tryz.prog.plT 83=some [(0,1),(1,1)]:=by kernel_rfl
@[go_sem] theorem Tryz.xze83:Tryz.prog.zeroT 83=some [Value.string ⟨#[]⟩,Value.string ⟨#[]⟩]:=by kernel_rfl
@[go_sem] theorem Tryz.xzk83:bX [Value.string ⟨#[]⟩,Value.string ⟨#[]⟩]=true:=by kernel_rfl
@[go_sem] theorem Tryz.xel84:Tryz.prog.elemT 84=some 83:=by kernel_rfl
@[go_sem] theorem Tryz.xzk100:bX [Value.int IntKind.i64 0,Value.string ⟨#[]⟩,Value.int IntKind.i64 0,Value.int IntKind.i64 0,Value.int IntKind.i64 0,Value.int IntKind.i64 0,Value.bool false]=true:=by kernel_rfl
@[go_sem] theorem Tryz.xsz101:Tryz.prog.szT 101=some 7:=by kernel_rfl
@[go_sem] theorem Tryz.xag101:Tryz.prog.aggT 101=some true:=by kernel_rfl
@[go_sem] theorem Tryz.xby101:Tryz.prog.bytesT 101=some 64:=by kernel_rfl
@[go_sem] theorem Tryz.xpl101:Tryz.prog.plT 101=some [(0,1),(1,1),(2,2),(4,2),(6,1)]:=by kernel_rfl
@[go_sem] theorem Tryz.xze101:Tryz.prog.zeroT 101=some [Value.int IntKind.i64 0,Value.string ⟨#[]⟩,Value.int IntKind.i64 0,Value.int IntKind.i64 0,Value.int IntKind.i64 0,Value.int IntKind.i64 0,Value.bool false]:=by kernel_rfl
@[go_sem] theorem Tryz.xfl101_0:Tryz.prog.fldT 101 0=some (0,3):=by kernel_rfl
@[go_sem] theorem Tryz.xfl101_1:Tryz.prog.fldT 101 1=some (1,9):=by kernel_rfl
@[go_sem] theorem Tryz.xfl101_2:Tryz.prog.fldT 101 2=some (2,30):=by kernel_rfl
@[go_sem] theorem Tryz.xfl101_3:Tryz.prog.fldT 101 3=some (4,30):=by kernel_rfl
@[go_sem] theorem Tryz.xfl101_4:Tryz.prog.fldT 101 4=some (6,4):=by kernel_rfl
@[go_sem] theorem Tryz.xzk102:bX [Value.int IntKind.i64 0,Value.int IntKind.i64 0,Value.int IntKind.i64 0,Value.string ⟨#[]⟩,Value.int IntKind.i64 0,Value.int IntKind.i64 0,Value.int IntKind.i64 0,Value.int IntKind.i64 0,Value.bool false,Value.int IntKind.i64 0,Value.string ⟨#[]⟩,Value.int IntKind.i64 0,Value.int IntKind.i64 0,Value.int IntKind.i64 0,Value.int IntKind.i64 0,Value.bool false,Value.int IntKind.i64 0,Value.int IntKind.i64 0,Value.int IntKind.i64 0,Value.string ⟨#[]⟩,Value.int IntKind.i64 0,Value.slice none 0 0]=true:=by kernel_rfl
@[go_sem] theorem Tryz.xsz103:Tryz.prog.szT 103=some 22:=by kernel_rfl
@[go_sem] theorem Tryz.xag103:Tryz.prog.aggT 103=some true:=by kernel_rfl
@[go_sem] theorem Tryz.xby103:Tryz.prog.bytesT 103=some 216:=by kernel_rfl
@[go_sem] theorem Tryz.xpl103:Tryz.prog.plT 103=some [(0,1),(1,1),(2,7),(9,7),(16,1),(17,1),(18,1),(19,1),(20,1),(21,1)]:=by kernel_rfl
@[go_sem] theorem Tryz.xze103:Tryz.prog.zeroT 103=some [Value.int IntKind.i64 0,Value.int IntKind.i64 0,Value.int IntKind.i64 0,Value.string ⟨#[]⟩,Value.int IntKind.i64 0,Value.int IntKind.i64 0,Value.int IntKind.i64 0,Value.int IntKind.i64 0,Value.bool false,Value.int IntKind.i64 0,Value.string ⟨#[]⟩,Value.int IntKind.i64 0,Value.int IntKind.i64 0,Value.int IntKind.i64 0,Value.int IntKind.i64 0,Value.bool false,Value.int IntKind.i64 0,Value.int IntKind.i64 0,Value.int IntKind.i64 0,Value.string ⟨#[]⟩,Value.int IntKind.i64 0,Value.slice none 0 0]:=by kernel_rfl
@[go_sem] theorem Tryz.xfl103_0:Tryz.prog.fldT 103 0=some (0,2):=by kernel_rfl
@[go_sem] theorem Tryz.xfl103_1:Tryz.prog.fldT 103 1=some (1,3):=by kernel_rfl
@[go_sem] theorem Tryz.xfl103_2:Tryz.prog.fldT 103 2=some (2,101):=by kernel_rfl
@[go_sem] theorem Tryz.xfl103_3:Tryz.prog.fldT 103 3=some (9,101):=by kernel_rfl
@[go_sem] theorem Tryz.xfl103_4:Tryz.prog.fldT 103 4=some (16,2):=by kernel_rfl
@[go_sem] theorem Tryz.xfl103_5:Tryz.prog.fldT 103 5=some (17,2):=by kernel_rfl
@[go_sem] theorem Tryz.xfl103_6:Tryz.prog.fldT 103 6=some (18,3):=by kernel_rfl
@[go_sem] theorem Tryz.xfl103_7:Tryz.prog.fldT 103 7=some (19,9):=by kernel_rfl
@[go_sem] theorem Tryz.xfl103_8:Tryz.prog.fldT 103 8=some (20,3):=by kernel_rfl
@[go_sem] theorem Tryz.xfl103_9:Tryz.prog.fldT 103 9=some (21,22):=by kernel_rfl
@[go_sem] theorem Tryz.xel107:Tryz.prog.elemT 107=some 30:=by kernel_rfl
@[go_sem] theorem Tryz.xzk109:bX [Value.int IntKind.i64 0,Value.int IntKind.i64 0,Value.slice none 0 0]=true:=by kernel_rfl
@[go_sem] theorem Tryz.xsz110:Tryz.prog.szT 110=some 3:=by kernel_rfl
@[go_sem] theorem Tryz.xag110:Tryz.prog.aggT 110=some true:=by kernel_rfl
@[go_sem] theorem Tryz.xby110:Tryz.prog.bytesT 110=some 40:=by kernel_rfl
@[go_sem] theorem Tryz.xpl110:Tryz.prog.plT 110=some [(0,1),(1,1),(2,1)]:=by kernel_rfl
@[go_sem] theorem Tryz.xze110:Tryz.prog.zeroT 110=some [Value.int IntKind.i64 0,Value.int IntKind.i64 0,Value.slice none 0 0]:=by kernel_rfl
@[go_sem] theorem Tryz.xfl110_0:Tryz.prog.fldT 110 0=some (0,2):=by kernel_rfl
@[go_sem] theorem Tryz.xfl110_1:Tryz.prog.fldT 110 1=some (1,2):=by kernel_rfl
@[go_sem] theorem Tryz.xfl110_2:Tryz.prog.fldT 110 2=some (2,57):=by kernel_rfl
@[go_sem] theorem Tryz.xsz112:Tryz.prog.szT 112=some 1:=by kernel_rfl
@[go_sem] theorem Tryz.xag112:Tryz.prog.aggT 112=some false:=by kernel_rfl
@[go_sem] theorem Tryz.xel112:Tryz.prog.elemT 112=some 27:=by kernel_rfl
@[go_sem] theorem Tryz.xze112:Tryz.prog.zeroT 112=some [Value.slice none 0 0]:=by kernel_rfl
@[go_sem] theorem Tryz.xzk113:bX [Value.string ⟨#[]⟩,Value.int IntKind.i64 0,Value.int IntKind.i64 0,Value.int IntKind.i64 0,Value.int IntKind.i64 0,Value.slice none 0 0,Value.slice none 0 0,Value.slice none 0 0,Value.int IntKind.i64 0]=true:=by kernel_rfl
@[go_sem] theorem Tryz.xsz114:Tryz.prog.szT 114=some 9:=by kernel_rfl
@[go_sem] theorem Tryz.xag114:Tryz.prog.aggT 114=some true:=by kernel_rfl
@[go_sem] theorem Tryz.xby114:Tryz.prog.bytesT 114=some 128:=by kernel_rfl
@[go_sem] theorem Tryz.xpl114:Tryz.prog.plT 114=some [(0,1),(1,2),(3,1),(4,1),(5,1),(6,1),(7,1),(8,1)]:=by kernel_rfl
@[go_sem] theorem Tryz.xze114:Tryz.prog.zeroT 114=some [Value.string ⟨#[]⟩,Value.int IntKind.i64 0,Value.int IntKind.i64 0,Value.int IntKind.i64 0,Value.int IntKind.i64 0,Value.slice none 0 0,Value.slice none 0 0,Value.slice none 0 0,Value.int IntKind.i64 0]:=by kernel_rfl
@[go_sem] theorem Tryz.xfl114_0:Tryz.prog.fldT 114 0=some (0,9):=by kernel_rfl
@[go_sem] theorem Tryz.xfl114_1:Tryz.prog.fldT 114 1=some (1,30):=by kernel_rfl
@[go_sem] theorem Tryz.xfl114_2:Tryz.prog.fldT 114 2=some (3,3):=by kernel_rfl
@[go_sem] theorem Tryz.xfl114_3:Tryz.prog.fldT 114 3=some (4,3):=by kernel_rfl
@[go_sem] theorem Tryz.xfl114_4:Tryz.prog.fldT 114 4=some (5,112):=by kernel_rfl
@[go_sem] theorem Tryz.xfl114_5:Tryz.prog.fldT 114 5=some (6,112):=by kernel_rfl
@[go_sem] theorem Tryz.xfl114_6:Tryz.prog.fldT 114 6=some (7,80):=by kernel_rfl
@[go_sem] theorem Tryz.xfl114_7:Tryz.prog.fldT 114 7=some (8,3):=by kernel_rfl
@[go_sem] theorem Tryz.xzk127:bX [Value.map none]=true:=by kernel_rfl
@[go_sem] theorem Tryz.xsz142:Tryz.prog.szT 142=some 1:=by kernel_rfl
@[go_sem] theorem Tryz.xag142:Tryz.prog.aggT 142=some false:=by kernel_rfl
@[go_sem] theorem Tryz.xmt142:Tryz.prog.mapT 142=some (9,82):=by kernel_rfl
@[go_sem] theorem Tryz.xz182:Tryz.prog.zero1 82=some (Value.agg #[Value.string ⟨#[]⟩,Value.int IntKind.u64 0,Value.int IntKind.i64 0,Value.int IntKind.i64 0,Value.int IntKind.i64 0,Value.int IntKind.i64 0,Value.bool false,Value.int IntKind.i64 0,Value.int IntKind.i64 0,Value.int IntKind.u8 0,Value.int IntKind.u8 0,Value.int IntKind.u8 0,Value.int IntKind.u8 0,Value.int IntKind.u8 0,Value.int IntKind.u8 0,Value.int IntKind.u8 0,Value.int IntKind.u8 0,Value.int IntKind.u8 0,Value.int IntKind.u8 0,Value.int IntKind.u8 0,Value.int IntKind.u8 0,Value.int IntKind.u8 0,Value.int IntKind.u8 0,Value.int IntKind.u8 0,Value.int IntKind.u8 0,Value.int IntKind.u8 0,Value.int IntKind.u8 0,Value.int IntKind.u8 0,Value.int IntKind.u8 0,Value.int IntKind.u8 0,Value.int IntKind.u8 0,Value.int IntKind.u8 0,Value.int IntKind.u8 0,Value.int IntKind.u8 0,Value.int IntKind.u8 0,Value.int IntKind.u8 0,Value.int IntKind.u8 0,Value.int IntKind.u8 0,Value.int IntKind.u8 0,Value.int IntKind.u8 0,Value.int IntKind.u8 0,Value.int IntKind.u8 0,Value.int IntKind.u8 0,Value.int IntKind.u8 0,Value.int IntKind.u8 0,Value.int IntKind.u8 0,Value.int IntKind.u8 0,Value.int IntKind.u8 0,Value.int IntKind.u8 0,Value.int IntKind.u8 0,Value.int IntKind.u8 0,Value.int IntKind.u8 0,Value.int IntKind.u8 0,Value.int IntKind.u8 0,Value.int IntKind.u8 0,Value.int IntKind.u8 0,Value.int IntKind.u8 0,Value.int IntKind.u8 0,Value.int IntKind.u8 0,Value.int IntKind.u8 0,Value.int IntKind.u8 0,Value.int IntKind.u8 0,Value.int IntKind.u8 0,Value.int IntKind.u8 0,Value.int IntKind.u8 0,Value.int IntKind.u8 0,Value.int IntKind.u8 0,Value.int IntKind.u8 0,Value.int IntKind.u8 0,Value.int IntKind.u8 0,Value.int IntKind.u8 0,Value.int IntKind.u8 0,Value.int IntKind.u8 0,Value.int IntKind.u8 0,Value.int IntKind.u8 0,Value.int IntKind.u8 0,Value.int IntKind.u8 0,Value.int IntKind.u8 0,Value.int IntKind.u8 0,Value.int IntKind.u8 0,Value.int IntKind.u8 0,Value.int IntKind.u8 0,Value.int IntKind.u8 0,Value.int IntKind.u8 0,Value.int IntKind.u8 0,Value.int IntKind.u8 0,Value.int IntKind.u8 0,Value.int IntKind.u8 0,Value.int IntKind.u8 0,Value.int IntKind.u8 0,Value.int IntKind.u8 0,Value.int IntKind.u8 0,Value.int IntKind.u8 0,Value.int IntKind.u8 0,Value.int IntKind.u8 0,Value.int IntKind.u8 0,Value.int IntKind.u8 0,Value.int IntKind.u8 0,Value.int IntKind.u8 0,Value.int IntKind.u8 0,Value.int IntKind.u8 0,Value.int IntKind.u8 0,Value.int IntKind.u8 0,Value.int IntKind.u8 0,Value.int IntKind.u8 0,Value.int IntKind.u8 0,Value.int IntKind.u8 0,Value.int IntKind.u8 0,Value.int IntKind.u8 0,Value.int IntKind.u8 0,Value.int IntKind.u8 0,Value.int IntKind.u8 0,Value.int IntKind.u8 0,Value.int IntKind.u8 0,Value.int IntKind.u8 0,Value.int IntKind.u8 0,Value.int IntKind.u8 0,Value.int IntKind.u8 0,Value.int IntKind.u8 0,Value.int IntKind.u8 0,Value.int IntKind.u8 0,Value.int IntKind.u8 0,Value.int IntKind.u8 0,Value.int IntKind.u8 0,Value.int IntKind.u8 0,Value.int IntKind.u8 0,Value.int IntKind.u8 0,Value.int IntKind.u8 0,Value.int IntKind.u8 0,Value.int IntKind.u8 0,Value.int IntKind.u8 0,Value.int IntKind.u8 0,Value.int IntKind.u8 0,Value.int IntKind.u8 0,Value.int IntKind.u8 0,Value.int IntKind.u8 0,Value.int IntKind.u8 0,Value.int IntKind.i64 0,Value.int IntKind.i64 0,Value.int IntKind.i64 0,Value.slice none 0 0]):=by kernel_rfl
@[go_sem] theorem Tryz.xsz143:Tryz.prog.szT 143=some 1:=by kernel_rfl
@[go_sem] theorem Tryz.xag143:Tryz.prog.aggT 143=some false:=by kernel_rfl
@[go_sem] theorem Tryz.xmt143:Tryz.prog.mapT 143=some (9,114):=by kernel_rfl
@[go_sem] theorem Tryz.xz1114:Tryz.prog.zero1 114=some (Value.agg #[Value.string ⟨#[]⟩,Value.int IntKind.i64 0,Value.int IntKind.i64 0,Value.int IntKind.i64 0,Value.int IntKind.i64 0,Value.slice none 0 0,Value.slice none 0 0,Value.slice none 0 0,Value.int IntKind.i64 0]):=by kernel_rfl
@[go_sem] theorem Tryz.xzk144:bX [Value.map none,Value.map none]=true:=by kernel_rfl
@[go_sem] theorem Tryz.xsz145:Tryz.prog.szT 145=some 2:=by kernel_rfl
@[go_sem] theorem Tryz.xag145:Tryz.prog.aggT 145=some true:=by kernel_rfl
@[go_sem] theorem Tryz.xpl145:Tryz.prog.plT 145=some [(0,1),(1,1)]:=by kernel_rfl
@[go_sem] theorem Tryz.xze145:Tryz.prog.zeroT 145=some [Value.map none,Value.map none]:=by kernel_rfl
@[go_sem] theorem Tryz.xfl145_0:Tryz.prog.fldT 145 0=some (0,142):=by kernel_rfl
@[go_sem] theorem Tryz.xfl145_1:Tryz.prog.fldT 145 1=some (1,143):=by kernel_rfl
@[go_sem] theorem Tryz.xsz148:Tryz.prog.szT 148=some 1:=by kernel_rfl
@[go_sem] theorem Tryz.xag148:Tryz.prog.aggT 148=some false:=by kernel_rfl
@[go_sem] theorem Tryz.xze148:Tryz.prog.zeroT 148=some [Value.map none]:=by kernel_rfl
@[go_sem] theorem Tryz.xmt148:Tryz.prog.mapT 148=some (9,4):=by kernel_rfl
@[go_sem] theorem Tryz.xz14:Tryz.prog.zero1 4=some (Value.bool false):=by kernel_rfl
@[go_sem] theorem Tryz.xsz160:Tryz.prog.szT 160=some 1:=by kernel_rfl
@[go_sem] theorem Tryz.xag160:Tryz.prog.aggT 160=some false:=by kernel_rfl
@[go_sem] theorem Tryz.xpl161:Tryz.prog.plT 161=some [(0,1),(1,1)]:=by kernel_rfl
@[go_sem] theorem Tryz.xze161:Tryz.prog.zeroT 161=some [Value.pointer none,Value.pointer none]:=by kernel_rfl
@[go_sem] theorem Tryz.xzk161:bX [Value.pointer none,Value.pointer none]=true:=by kernel_rfl
@[go_sem] theorem Tryz.xel168:Tryz.prog.elemT 168=some 112:=by kernel_rfl
@[go_sem] theorem Tryz.xmt218:Tryz.prog.mapT 218=some (9,3):=by kernel_rfl
@[go_sem] theorem Tryz.xz13:Tryz.prog.zero1 3=some (Value.int IntKind.i64 0):=by kernel_rfl
@[go_sem] theorem Tryz.xel228:Tryz.prog.elemT 228=some 101:=by kernel_rfl
@[go_sem] theorem Tryz.xel236:Tryz.prog.elemT 236=some 2:=by kernel_rfl
@[go_sem] theorem Tryz.xmt260:Tryz.prog.mapT 260=some (3,4):=by kernel_rfl
@[go_sem] theorem Tryz.xpl271:Tryz.prog.plT 271=some [(0,7),(7,7)]:=by kernel_rfl
@[go_sem] theorem Tryz.xze271:Tryz.prog.zeroT 271=some [Value.int IntKind.i64 0,Value.string ⟨#[]⟩,Value.int IntKind.i64 0,Value.int IntKind.i64 0,Value.int IntKind.i64 0,Value.int IntKind.i64 0,Value.bool false,Value.int IntKind.i64 0,Value.string ⟨#[]⟩,Value.int IntKind.i64 0,Value.int IntKind.i64 0,Value.int IntKind.i64 0,Value.int IntKind.i64 0,Value.bool false]:=by kernel_rfl
@[go_sem] theorem Tryz.xzk271:bX [Value.int IntKind.i64 0,Value.string ⟨#[]⟩,Value.int IntKind.i64 0,Value.int IntKind.i64 0,Value.int IntKind.i64 0,Value.int IntKind.i64 0,Value.bool false,Value.int IntKind.i64 0,Value.string ⟨#[]⟩,Value.int IntKind.i64 0,Value.int IntKind.i64 0,Value.int IntKind.i64 0,Value.int IntKind.i64 0,Value.bool false]=true:=by kernel_rfl
@[go_sem] theorem Tryz.xzk281:bX [Value.bool false,Value.int IntKind.u64 0,Value.int IntKind.u64 0]=true:=by kernel_rfl
@[go_sem] theorem Tryz.xsz282:Tryz.prog.szT 282=some 3:=by kernel_rfl
@[go_sem] theorem Tryz.xag282:Tryz.prog.aggT 282=some true:=by kernel_rfl
@[go_sem] theorem Tryz.xpl282:Tryz.prog.plT 282=some [(0,1),(1,1),(2,1)]:=by kernel_rfl
@[go_sem] theorem Tryz.xze282:Tryz.prog.zeroT 282=some [Value.bool false,Value.int IntKind.u64 0,Value.int IntKind.u64 0]:=by kernel_rfl
@[go_sem] theorem Tryz.xfl282_0:Tryz.prog.fldT 282 0=some (0,4):=by kernel_rfl
@[go_sem] theorem Tryz.xfl282_1:Tryz.prog.fldT 282 1=some (1,67):=by kernel_rfl
@[go_sem] theorem Tryz.xfl282_2:Tryz.prog.fldT 282 2=some (2,67):=by kernel_rfl
attribute [go_sem] Tryz.underlying0 Tryz.underlying1 Tryz.underlying2 Tryz.underlying3 Tryz.underlying4 Tryz.underlying5 Tryz.underlying6 Tryz.underlying7 Tryz.underlying8 Tryz.underlying9 Tryz.underlying10 Tryz.underlying11 Tryz.underlying12 Tryz.underlying13 Tryz.underlying14 Tryz.underlying15 Tryz.underlying16 Tryz.underlying17 Tryz.underlying18 Tryz.underlying19 Tryz.underlying20 Tryz.underlying21 Tryz.underlying22 Tryz.underlying23 Tryz.underlying24 Tryz.underlying25 Tryz.underlying26 Tryz.underlying27 Tryz.underlying28 Tryz.underlying29 Tryz.underlying30 Tryz.underlying31 Tryz.underlying32 Tryz.underlying33 Tryz.underlying34 Tryz.underlying35 Tryz.underlying36 Tryz.underlying37 Tryz.underlying38 Tryz.underlying39 Tryz.underlying40 Tryz.underlying41 Tryz.underlying42 Tryz.underlying43 Tryz.underlying44 Tryz.underlying45 Tryz.underlying46 Tryz.underlying47 Tryz.underlying48 Tryz.underlying49 Tryz.underlying50 Tryz.underlying51 Tryz.underlying52 Tryz.underlying53 Tryz.underlying54 Tryz.underlying55 Tryz.underlying56 Tryz.underlying57 Tryz.underlying58 Tryz.underlying59 Tryz.underlying60 Tryz.underlying61 Tryz.underlying62 Tryz.underlying63 Tryz.underlying64 Tryz.underlying65 Tryz.underlying66 Tryz.underlying67 Tryz.underlying68 Tryz.underlying69 Tryz.underlying70 Tryz.underlying71 Tryz.underlying72 Tryz.underlying73 Tryz.underlying74 Tryz.underlying75 Tryz.underlying76 Tryz.underlying77 Tryz.underlying78 Tryz.underlying79 Tryz.underlying80 Tryz.underlying81 Tryz.underlying82 Tryz.underlying83 Tryz.underlying84 Tryz.underlying85 Tryz.underlying86 Tryz.underlying87 Tryz.underlying88 Tryz.underlying89 Tryz.underlying90 Tryz.underlying91 Tryz.underlying92 Tryz.underlying93 Tryz.underlying94 Tryz.underlying95 Tryz.underlying96 Tryz.underlying97 Tryz.underlying98 Tryz.underlying99 Tryz.underlying100 Tryz.underlying101 Tryz.underlying102 Tryz.underlying103 Tryz.underlying104 Tryz.underlying105 Tryz.underlying106 Tryz.underlying107 Tryz.underlying108 Tryz.underlying109 Tryz.underlying110 Tryz.underlying111 Tryz.underlying112 Tryz.underlying113 Tryz.underlying114 Tryz.underlying115 Tryz.underlying116 Tryz.underlying117 Tryz.underlying118 Tryz.underlying119 Tryz.underlying120 Tryz.underlying121 Tryz.underlying122 Tryz.underlying123 Tryz.underlying124 Tryz.underlying125 Tryz.underlying126 Tryz.underlying127 Tryz.underlying128 Tryz.underlying129 Tryz.underlying130 Tryz.underlying131 Tryz.underlying132 Tryz.underlying133 Tryz.underlying134 Tryz.underlying135 Tryz.underlying136 Tryz.underlying137 Tryz.underlying138 Tryz.underlying139 Tryz.underlying140 Tryz.underlying141 Tryz.underlying142 Tryz.underlying143 Tryz.underlying144 Tryz.underlying145 Tryz.underlying146 Tryz.underlying147 Tryz.underlying148 Tryz.underlying149 Tryz.underlying150 Tryz.underlying151 Tryz.underlying152 Tryz.underlying153 Tryz.underlying154 Tryz.underlying155 Tryz.underlying156 Tryz.underlying157 Tryz.underlying158 Tryz.underlying159 Tryz.underlying160 Tryz.underlying161 Tryz.underlying162 Tryz.underlying163 Tryz.underlying164 Tryz.underlying165 Tryz.underlying166 Tryz.underlying167 Tryz.underlying168 Tryz.underlying169 Tryz.underlying170 Tryz.underlying171 Tryz.underlying172 Tryz.underlying173 Tryz.underlying174 Tryz.underlying175 Tryz.underlying176 Tryz.underlying177 Tryz.underlying178 Tryz.underlying179 Tryz.underlying180 Tryz.underlying181 Tryz.underlying182 Tryz.underlying183 Tryz.underlying184 Tryz.underlying185 Tryz.underlying186 Tryz.underlying187 Tryz.underlying188 Tryz.underlying189 Tryz.underlying190 Tryz.underlying191 Tryz.underlying192 Tryz.underlying193 Tryz.underlying194 Tryz.underlying195 Tryz.underlying196 Tryz.underlying197 Tryz.underlying198 Tryz.underlying199 Tryz.underlying200 Tryz.underlying201 Tryz.underlying202 Tryz.underlying203 Tryz.underlying204 Tryz.underlying205 Tryz.underlying206 Tryz.underlying207 Tryz.underlying208 Tryz.underlying209 Tryz.underlying210 Tryz.underlying211 Tryz.underlying212 Tryz.underlying213 Tryz.underlying214 Tryz.underlying215 Tryz.underlying216 Tryz.underlying217 Tryz.underlying218 Tryz.underlying219 Tryz.underlying220 Tryz.underlying221 Tryz.underlying222 Tryz.underlying223 Tryz.underlying224 Tryz.underlying225 Tryz.underlying226 Tryz.underlying227 Tryz.underlying228 Tryz.underlying229 Tryz.underlying230 Tryz.underlying231 Tryz.underlying232 Tryz.underlying233 Tryz.underlying234 Tryz.underlying235 Tryz.underlying236 Tryz.underlying237 Tryz.underlying238 Tryz.underlying239 Tryz.underlying240 Tryz.underlying241 Tryz.underlying242 Tryz.underlying243 Tryz.underlying244 Tryz.underlying245 Tryz.underlying246 Tryz.underlying247 Tryz.underlying248 Tryz.underlying249 Tryz.underlying250 Tryz.underlying251 Tryz.underlying252 Tryz.underlying253 Tryz.underlying254 Tryz.underlying255 Tryz.underlying256 Tryz.underlying257 Tryz.underlying258 Tryz.underlying259 Tryz.underlying260 Tryz.underlying261 Tryz.underlying262 Tryz.underlying263 Tryz.underlying264 Tryz.underlying265 Tryz.underlying266 Tryz.underlying267 Tryz.underlying268 Tryz.underlying269 Tryz.underlying270 Tryz.underlying271 Tryz.underlying272 Tryz.underlying273 Tryz.underlying274 Tryz.underlying275 Tryz.underlying276 Tryz.underlying277 Tryz.underlying278 Tryz.underlying279 Tryz.underlying280 Tryz.underlying281 Tryz.underlying282 Tryz.underlying283 Tryz.underlying284 Tryz.underlying285 Tryz.underlying286 Tryz.underlying287 Tryz.underlying288 Tryz.underlying289 Tryz.underlying290 Tryz.underlying291 Tryz.underlying292 Tryz.underlying293 Tryz.underlying294 Tryz.underlying295 Tryz.underlying296 Tryz.underlying297 Tryz.underlying298 Tryz.underlying299 Tryz.underlying300 Tryz.underlying301 Tryz.underlying302 Tryz.underlying303 Tryz.underlying304 Tryz.underlying305 Tryz.underlying306 Tryz.underlying307 Tryz.underlying308 Tryz.underlying309 Tryz.underlying310 Tryz.underlying311 Tryz.underlying312 Tryz.underlying313 Tryz.underlying314 Tryz.underlying315 Tryz.underlying316 Tryz.underlying317 Tryz.underlying318 Tryz.underlying319 Tryz.underlying320 Tryz.underlying321 Tryz.underlying322 Tryz.underlying323 Tryz.underlying324 Tryz.underlying325 Tryz.underlying326 Tryz.underlying327 Tryz.underlying328 Tryz.underlying329 Tryz.underlying330 Tryz.underlying331 Tryz.underlying332 Tryz.underlying333 Tryz.underlying334 Tryz.underlying335 Tryz.underlying336 Tryz.underlying337 Tryz.underlying338 Tryz.underlying339
@[go_sem] theorem Tryz.xio2:Tryz.prog.ioF 2=false:=by kernel_rfl
@[go_sem] theorem Tryz.xio3:Tryz.prog.ioF 3=false:=by kernel_rfl
@[go_sem] theorem Tryz.xio4:Tryz.prog.ioF 4=false:=by kernel_rfl
@[go_sem] theorem Tryz.xio5:Tryz.prog.ioF 5=false:=by kernel_rfl
@[go_sem] theorem Tryz.xio6:Tryz.prog.ioF 6=false:=by kernel_rfl
@[go_sem] theorem Tryz.xio7:Tryz.prog.ioF 7=false:=by kernel_rfl
theorem Tryz.X7:Tryz.prog.enters 7=true:=by kernel_rfl
@[go_sem] theorem Tryz.xio8:Tryz.prog.ioF 8=false:=by kernel_rfl
@[go_sem] theorem Tryz.xio9:Tryz.prog.ioF 9=false:=by kernel_rfl
@[go_sem] theorem Tryz.xio10:Tryz.prog.ioF 10=true:=by kernel_rfl
@[go_sem] theorem Tryz.xio11:Tryz.prog.ioF 11=true:=by kernel_rfl
@[go_sem] theorem Tryz.xio12:Tryz.prog.ioF 12=false:=by kernel_rfl
@[go_sem] theorem Tryz.xio13:Tryz.prog.ioF 13=false:=by kernel_rfl
theorem Tryz.X13:Tryz.prog.enters 13=true:=by kernel_rfl
@[go_sem] theorem Tryz.xio14:Tryz.prog.ioF 14=false:=by kernel_rfl
@[go_sem] theorem Tryz.xio15:Tryz.prog.ioF 15=false:=by kernel_rfl
@[go_sem] theorem Tryz.xio16:Tryz.prog.ioF 16=false:=by kernel_rfl
@[go_sem] theorem Tryz.xio17:Tryz.prog.ioF 17=true:=by kernel_rfl
@[go_sem] theorem Tryz.xio18:Tryz.prog.ioF 18=false:=by kernel_rfl
@[go_sem] theorem Tryz.xio19:Tryz.prog.ioF 19=false:=by kernel_rfl
theorem Tryz.X19:Tryz.prog.enters 19=true:=by kernel_rfl
@[go_sem] theorem Tryz.xio20:Tryz.prog.ioF 20=false:=by kernel_rfl
@[go_sem] theorem Tryz.xio21:Tryz.prog.ioF 21=false:=by kernel_rfl
@[go_sem] theorem Tryz.xio22:Tryz.prog.ioF 22=false:=by kernel_rfl
theorem Tryz.X22:Tryz.prog.enters 22=true:=by kernel_rfl
@[go_sem] theorem Tryz.xio23:Tryz.prog.ioF 23=false:=by kernel_rfl
theorem Tryz.X23:Tryz.prog.enters 23=true:=by kernel_rfl
@[go_sem] theorem Tryz.xio24:Tryz.prog.ioF 24=false:=by kernel_rfl
@[go_sem] theorem Tryz.xio25:Tryz.prog.ioF 25=false:=by kernel_rfl
@[go_sem] theorem Tryz.xio26:Tryz.prog.ioF 26=false:=by kernel_rfl
@[go_sem] theorem Tryz.xio27:Tryz.prog.ioF 27=false:=by kernel_rfl
@[go_sem] theorem Tryz.xio28:Tryz.prog.ioF 28=true:=by kernel_rfl
theorem Tryz.X28:Tryz.prog.enters 28=true:=by kernel_rfl
@[go_sem] theorem Tryz.xio29:Tryz.prog.ioF 29=false:=by kernel_rfl
theorem Tryz.X29:Tryz.prog.enters 29=true:=by kernel_rfl
@[go_sem] theorem Tryz.xio30:Tryz.prog.ioF 30=false:=by kernel_rfl
theorem Tryz.X30:Tryz.prog.enters 30=true:=by kernel_rfl
@[go_sem] theorem Tryz.xio31:Tryz.prog.ioF 31=false:=by kernel_rfl
theorem Tryz.X31:Tryz.prog.enters 31=true:=by kernel_rfl
@[go_sem] theorem Tryz.xio32:Tryz.prog.ioF 32=false:=by kernel_rfl
@[go_sem] theorem Tryz.xio33:Tryz.prog.ioF 33=false:=by kernel_rfl
@[go_sem] theorem Tryz.xio34:Tryz.prog.ioF 34=false:=by kernel_rfl
@[go_sem] theorem Tryz.xio35:Tryz.prog.ioF 35=false:=by kernel_rfl
@[go_sem] theorem Tryz.xio36:Tryz.prog.ioF 36=false:=by kernel_rfl
@[go_sem] theorem Tryz.xio37:Tryz.prog.ioF 37=true:=by kernel_rfl
theorem Tryz.X37:Tryz.prog.enters 37=true:=by kernel_rfl
@[go_sem] theorem Tryz.xio38:Tryz.prog.ioF 38=true:=by kernel_rfl
theorem Tryz.X38:Tryz.prog.enters 38=true:=by kernel_rfl
@[go_sem] theorem Tryz.xio39:Tryz.prog.ioF 39=true:=by kernel_rfl
theorem Tryz.X39:Tryz.prog.enters 39=true:=by kernel_rfl
@[go_sem] theorem Tryz.xio40:Tryz.prog.ioF 40=false:=by kernel_rfl
@[go_sem] theorem Tryz.xio41:Tryz.prog.ioF 41=false:=by kernel_rfl
theorem Tryz.X41:Tryz.prog.enters 41=true:=by kernel_rfl
@[go_sem] theorem Tryz.xio42:Tryz.prog.ioF 42=true:=by kernel_rfl
theorem Tryz.X42:Tryz.prog.enters 42=true:=by kernel_rfl
@[go_sem] theorem Tryz.xio43:Tryz.prog.ioF 43=true:=by kernel_rfl
theorem Tryz.X43:Tryz.prog.enters 43=true:=by kernel_rfl
@[go_sem] theorem Tryz.xio44:Tryz.prog.ioF 44=false:=by kernel_rfl
@[go_sem] theorem Tryz.xio45:Tryz.prog.ioF 45=false:=by kernel_rfl
theorem Tryz.X45:Tryz.prog.enters 45=true:=by kernel_rfl
@[go_sem] theorem Tryz.xio46:Tryz.prog.ioF 46=false:=by kernel_rfl
@[go_sem] theorem Tryz.xio47:Tryz.prog.ioF 47=false:=by kernel_rfl
theorem Tryz.X47:Tryz.prog.enters 47=true:=by kernel_rfl
@[go_sem] theorem Tryz.xio48:Tryz.prog.ioF 48=false:=by kernel_rfl
@[go_sem] theorem Tryz.xio49:Tryz.prog.ioF 49=false:=by kernel_rfl
@[go_sem] theorem Tryz.xio50:Tryz.prog.ioF 50=false:=by kernel_rfl
@[go_sem] theorem Tryz.xio51:Tryz.prog.ioF 51=false:=by kernel_rfl
@[go_sem] theorem Tryz.xio52:Tryz.prog.ioF 52=false:=by kernel_rfl
@[go_sem] theorem Tryz.xio53:Tryz.prog.ioF 53=false:=by kernel_rfl
@[go_sem] theorem Tryz.xio54:Tryz.prog.ioF 54=false:=by kernel_rfl
@[go_sem] theorem Tryz.xio55:Tryz.prog.ioF 55=true:=by kernel_rfl
@[go_sem] theorem Tryz.xio56:Tryz.prog.ioF 56=false:=by kernel_rfl
@[go_sem] theorem Tryz.xio57:Tryz.prog.ioF 57=false:=by kernel_rfl
@[go_sem] theorem Tryz.xio58:Tryz.prog.ioF 58=false:=by kernel_rfl
@[go_sem] theorem Tryz.xio59:Tryz.prog.ioF 59=false:=by kernel_rfl
theorem Tryz.X59:Tryz.prog.enters 59=true:=by kernel_rfl
@[go_sem] theorem Tryz.xio60:Tryz.prog.ioF 60=true:=by kernel_rfl
@[go_sem] theorem Tryz.xio61:Tryz.prog.ioF 61=false:=by kernel_rfl
@[go_sem] theorem Tryz.xio62:Tryz.prog.ioF 62=false:=by kernel_rfl
@[go_sem] theorem Tryz.xio63:Tryz.prog.ioF 63=false:=by kernel_rfl
theorem Tryz.X63:Tryz.prog.enters 63=true:=by kernel_rfl
@[go_sem] theorem Tryz.xio64:Tryz.prog.ioF 64=false:=by kernel_rfl
@[go_sem] theorem Tryz.xio65:Tryz.prog.ioF 65=false:=by kernel_rfl
@[go_sem] theorem Tryz.xio66:Tryz.prog.ioF 66=false:=by kernel_rfl
theorem Tryz.X66:Tryz.prog.enters 66=true:=by kernel_rfl
@[go_sem] theorem Tryz.xio67:Tryz.prog.ioF 67=false:=by kernel_rfl
theorem Tryz.X67:Tryz.prog.enters 67=true:=by kernel_rfl
@[go_sem] theorem Tryz.xio68:Tryz.prog.ioF 68=false:=by kernel_rfl
@[go_sem] theorem Tryz.xio69:Tryz.prog.ioF 69=false:=by kernel_rfl
@[go_sem] theorem Tryz.xio70:Tryz.prog.ioF 70=false:=by kernel_rfl
theorem Tryz.X70:Tryz.prog.enters 70=true:=by kernel_rfl
@[go_sem] theorem Tryz.xio71:Tryz.prog.ioF 71=true:=by kernel_rfl
theorem Tryz.X71:Tryz.prog.enters 71=true:=by kernel_rfl
@[go_sem] theorem Tryz.xio72:Tryz.prog.ioF 72=false:=by kernel_rfl
@[go_sem] theorem Tryz.xio73:Tryz.prog.ioF 73=true:=by kernel_rfl
theorem Tryz.X73:Tryz.prog.enters 73=true:=by kernel_rfl
@[go_sem] theorem Tryz.xio74:Tryz.prog.ioF 74=false:=by kernel_rfl
@[go_sem] theorem Tryz.xio75:Tryz.prog.ioF 75=false:=by kernel_rfl
@[go_sem] theorem Tryz.xio76:Tryz.prog.ioF 76=true:=by kernel_rfl
@[go_sem] theorem Tryz.xio77:Tryz.prog.ioF 77=true:=by kernel_rfl
@[go_sem] theorem Tryz.xio78:Tryz.prog.ioF 78=false:=by kernel_rfl
@[go_sem] theorem Tryz.xio79:Tryz.prog.ioF 79=false:=by kernel_rfl
theorem Tryz.X79:Tryz.prog.enters 79=true:=by kernel_rfl
@[go_sem] theorem Tryz.xio80:Tryz.prog.ioF 80=true:=by kernel_rfl
theorem Tryz.X80:Tryz.prog.enters 80=true:=by kernel_rfl
@[go_sem] theorem Tryz.xio81:Tryz.prog.ioF 81=true:=by kernel_rfl
theorem Tryz.X81:Tryz.prog.enters 81=true:=by kernel_rfl
@[go_sem] theorem Tryz.xio82:Tryz.prog.ioF 82=false:=by kernel_rfl
theorem Tryz.X82:Tryz.prog.enters 82=true:=by kernel_rfl
@[go_sem] theorem Tryz.xio83:Tryz.prog.ioF 83=true:=by kernel_rfl
theorem Tryz.X83:Tryz.prog.enters 83=true:=by kernel_rfl
@[go_sem] theorem Tryz.xio84:Tryz.prog.ioF 84=false:=by kernel_rfl
theorem Tryz.X84:Tryz.prog.enters 84=true:=by kernel_rfl
@[go_sem] theorem Tryz.xio85:Tryz.prog.ioF 85=false:=by kernel_rfl
theorem Tryz.X85:Tryz.prog.enters 85=true:=by kernel_rfl
@[go_sem] theorem Tryz.xio86:Tryz.prog.ioF 86=false:=by kernel_rfl
theorem Tryz.X86:Tryz.prog.enters 86=true:=by kernel_rfl
@[go_sem] theorem Tryz.xio87:Tryz.prog.ioF 87=false:=by kernel_rfl
theorem Tryz.X87:Tryz.prog.enters 87=true:=by kernel_rfl
@[go_sem] theorem Tryz.xio88:Tryz.prog.ioF 88=false:=by kernel_rfl
theorem Tryz.X88:Tryz.prog.enters 88=true:=by kernel_rfl
@[go_sem] theorem Tryz.xio89:Tryz.prog.ioF 89=false:=by kernel_rfl
theorem Tryz.X89:Tryz.prog.enters 89=true:=by kernel_rfl
@[go_sem] theorem Tryz.xio90:Tryz.prog.ioF 90=false:=by kernel_rfl
theorem Tryz.X90:Tryz.prog.enters 90=true:=by kernel_rfl
@[go_sem] theorem Tryz.xio91:Tryz.prog.ioF 91=false:=by kernel_rfl
@[go_sem] theorem Tryz.xio92:Tryz.prog.ioF 92=false:=by kernel_rfl
@[go_sem] theorem Tryz.xio93:Tryz.prog.ioF 93=false:=by kernel_rfl
@[go_sem] theorem Tryz.xio94:Tryz.prog.ioF 94=true:=by kernel_rfl
@[go_sem] theorem Tryz.xio95:Tryz.prog.ioF 95=false:=by kernel_rfl
@[go_sem] theorem Tryz.xio96:Tryz.prog.ioF 96=false:=by kernel_rfl
@[go_sem] theorem Tryz.xio97:Tryz.prog.ioF 97=false:=by kernel_rfl
@[go_sem] theorem Tryz.xio98:Tryz.prog.ioF 98=false:=by kernel_rfl
@[go_sem] theorem Tryz.xio99:Tryz.prog.ioF 99=true:=by kernel_rfl
theorem Tryz.X99:Tryz.prog.enters 99=true:=by kernel_rfl
@[go_sem] theorem Tryz.xio100:Tryz.prog.ioF 100=false:=by kernel_rfl
theorem Tryz.X100:Tryz.prog.enters 100=true:=by kernel_rfl
@[go_sem] theorem Tryz.xio101:Tryz.prog.ioF 101=false:=by kernel_rfl
@[go_sem] theorem Tryz.xio102:Tryz.prog.ioF 102=false:=by kernel_rfl
@[go_sem] theorem Tryz.xio103:Tryz.prog.ioF 103=false:=by kernel_rfl
theorem Tryz.X103:Tryz.prog.enters 103=true:=by kernel_rfl
@[go_sem] theorem Tryz.xio104:Tryz.prog.ioF 104=false:=by kernel_rfl
theorem Tryz.X104:Tryz.prog.enters 104=true:=by kernel_rfl
@[go_sem] theorem Tryz.xio105:Tryz.prog.ioF 105=false:=by kernel_rfl
@[go_sem] theorem Tryz.xio106:Tryz.prog.ioF 106=true:=by kernel_rfl
@[go_sem] theorem Tryz.xio107:Tryz.prog.ioF 107=false:=by kernel_rfl
@[go_sem] theorem Tryz.xio108:Tryz.prog.ioF 108=false:=by kernel_rfl
@[go_sem] theorem Tryz.xio109:Tryz.prog.ioF 109=false:=by kernel_rfl
@[go_sem] theorem Tryz.xio110:Tryz.prog.ioF 110=false:=by kernel_rfl
@[go_sem] theorem Tryz.xio111:Tryz.prog.ioF 111=true:=by kernel_rfl
theorem Tryz.X111:Tryz.prog.enters 111=true:=by kernel_rfl
@[go_sem] theorem Tryz.xio112:Tryz.prog.ioF 112=false:=by kernel_rfl
@[go_sem] theorem Tryz.xio113:Tryz.prog.ioF 113=false:=by kernel_rfl
@[go_sem] theorem Tryz.xio114:Tryz.prog.ioF 114=false:=by kernel_rfl
@[go_sem] theorem Tryz.xio115:Tryz.prog.ioF 115=false:=by kernel_rfl
@[go_sem] theorem Tryz.xio116:Tryz.prog.ioF 116=false:=by kernel_rfl
@[go_sem] theorem Tryz.xio117:Tryz.prog.ioF 117=false:=by kernel_rfl
@[go_sem] theorem Tryz.xio118:Tryz.prog.ioF 118=false:=by kernel_rfl
@[go_sem] theorem Tryz.xio119:Tryz.prog.ioF 119=false:=by kernel_rfl
theorem Tryz.X119:Tryz.prog.enters 119=true:=by kernel_rfl
@[go_sem] theorem Tryz.xio120:Tryz.prog.ioF 120=false:=by kernel_rfl
@[go_sem] theorem Tryz.xio121:Tryz.prog.ioF 121=true:=by kernel_rfl
@[go_sem] theorem Tryz.xio122:Tryz.prog.ioF 122=false:=by kernel_rfl
@[go_sem] theorem Tryz.xio123:Tryz.prog.ioF 123=false:=by kernel_rfl
@[go_sem] theorem Tryz.xio124:Tryz.prog.ioF 124=false:=by kernel_rfl
theorem Tryz.X124:Tryz.prog.enters 124=true:=by kernel_rfl
@[go_sem] theorem Tryz.xio125:Tryz.prog.ioF 125=false:=by kernel_rfl
@[go_sem] theorem Tryz.xio126:Tryz.prog.ioF 126=false:=by kernel_rfl
@[go_sem] theorem Tryz.xio127:Tryz.prog.ioF 127=false:=by kernel_rfl
@[go_sem] theorem Tryz.xio128:Tryz.prog.ioF 128=false:=by kernel_rfl
@[go_sem] theorem Tryz.xio129:Tryz.prog.ioF 129=false:=by kernel_rfl
@[go_sem] theorem Tryz.xio130:Tryz.prog.ioF 130=false:=by kernel_rfl
@[go_sem] theorem Tryz.xio131:Tryz.prog.ioF 131=false:=by kernel_rfl
theorem Tryz.X131:Tryz.prog.enters 131=true:=by kernel_rfl
@[go_sem] theorem Tryz.xio132:Tryz.prog.ioF 132=false:=by kernel_rfl
@[go_sem] theorem Tryz.xio133:Tryz.prog.ioF 133=false:=by kernel_rfl
theorem Tryz.X133:Tryz.prog.enters 133=true:=by kernel_rfl
@[go_sem] theorem Tryz.xio134:Tryz.prog.ioF 134=false:=by kernel_rfl
@[go_sem] theorem Tryz.xio135:Tryz.prog.ioF 135=false:=by kernel_rfl
theorem Tryz.X135:Tryz.prog.enters 135=true:=by kernel_rfl
@[go_sem] theorem Tryz.xio136:Tryz.prog.ioF 136=false:=by kernel_rfl
theorem Tryz.X136:Tryz.prog.enters 136=true:=by kernel_rfl
@[go_sem] theorem Tryz.xio137:Tryz.prog.ioF 137=false:=by kernel_rfl
theorem Tryz.X137:Tryz.prog.enters 137=true:=by kernel_rfl
@[go_sem] theorem Tryz.xio138:Tryz.prog.ioF 138=false:=by kernel_rfl
theorem Tryz.X138:Tryz.prog.enters 138=true:=by kernel_rfl
@[go_sem] theorem Tryz.xio139:Tryz.prog.ioF 139=false:=by kernel_rfl
theorem Tryz.X139:Tryz.prog.enters 139=true:=by kernel_rfl
@[go_sem] theorem Tryz.xio140:Tryz.prog.ioF 140=false:=by kernel_rfl
theorem Tryz.X140:Tryz.prog.enters 140=true:=by kernel_rfl
@[go_sem] theorem Tryz.xio141:Tryz.prog.ioF 141=false:=by kernel_rfl
theorem Tryz.X141:Tryz.prog.enters 141=true:=by kernel_rfl
@[go_sem] theorem Tryz.xio142:Tryz.prog.ioF 142=false:=by kernel_rfl
theorem Tryz.X142:Tryz.prog.enters 142=true:=by kernel_rfl
@[go_sem] theorem Tryz.xio143:Tryz.prog.ioF 143=false:=by kernel_rfl
theorem Tryz.X143:Tryz.prog.enters 143=true:=by kernel_rfl
@[go_sem] theorem Tryz.xio144:Tryz.prog.ioF 144=false:=by kernel_rfl
theorem Tryz.X144:Tryz.prog.enters 144=true:=by kernel_rfl
@[go_sem] theorem Tryz.xio145:Tryz.prog.ioF 145=false:=by kernel_rfl
theorem Tryz.X145:Tryz.prog.enters 145=true:=by kernel_rfl
@[go_sem] theorem Tryz.xio146:Tryz.prog.ioF 146=false:=by kernel_rfl
theorem Tryz.X146:Tryz.prog.enters 146=true:=by kernel_rfl
@[go_sem] theorem Tryz.xio147:Tryz.prog.ioF 147=false:=by kernel_rfl
@[go_sem] theorem Tryz.xio148:Tryz.prog.ioF 148=false:=by kernel_rfl
@[go_sem] theorem Tryz.xio149:Tryz.prog.ioF 149=false:=by kernel_rfl
@[go_sem] theorem Tryz.xio150:Tryz.prog.ioF 150=false:=by kernel_rfl
@[go_sem] theorem Tryz.xio151:Tryz.prog.ioF 151=false:=by kernel_rfl
@[go_sem] theorem Tryz.xio152:Tryz.prog.ioF 152=false:=by kernel_rfl
@[go_sem] theorem Tryz.xio153:Tryz.prog.ioF 153=true:=by kernel_rfl
@[go_sem] theorem Tryz.xio154:Tryz.prog.ioF 154=true:=by kernel_rfl
theorem Tryz.X154:Tryz.prog.enters 154=true:=by kernel_rfl
@[go_sem] theorem Tryz.xio155:Tryz.prog.ioF 155=true:=by kernel_rfl
theorem Tryz.X155:Tryz.prog.enters 155=true:=by kernel_rfl
@[go_sem] theorem Tryz.xio156:Tryz.prog.ioF 156=true:=by kernel_rfl
theorem Tryz.X156:Tryz.prog.enters 156=true:=by kernel_rfl
@[go_sem] theorem Tryz.xio157:Tryz.prog.ioF 157=false:=by kernel_rfl
theorem Tryz.X157:Tryz.prog.enters 157=true:=by kernel_rfl
@[go_sem] theorem Tryz.xio158:Tryz.prog.ioF 158=false:=by kernel_rfl
theorem Tryz.X158:Tryz.prog.enters 158=true:=by kernel_rfl
@[go_sem] theorem Tryz.xio159:Tryz.prog.ioF 159=false:=by kernel_rfl
theorem Tryz.X159:Tryz.prog.enters 159=true:=by kernel_rfl
@[go_sem] theorem Tryz.xio160:Tryz.prog.ioF 160=false:=by kernel_rfl
theorem Tryz.X160:Tryz.prog.enters 160=true:=by kernel_rfl
@[go_sem] theorem Tryz.xio161:Tryz.prog.ioF 161=false:=by kernel_rfl
theorem Tryz.X161:Tryz.prog.enters 161=true:=by kernel_rfl
@[go_sem] theorem Tryz.xio162:Tryz.prog.ioF 162=false:=by kernel_rfl
theorem Tryz.X162:Tryz.prog.enters 162=true:=by kernel_rfl
@[go_sem] theorem Tryz.xio163:Tryz.prog.ioF 163=false:=by kernel_rfl
theorem Tryz.X163:Tryz.prog.enters 163=true:=by kernel_rfl
@[go_sem] theorem Tryz.xio164:Tryz.prog.ioF 164=false:=by kernel_rfl
theorem Tryz.X164:Tryz.prog.enters 164=true:=by kernel_rfl
@[go_sem] theorem Tryz.xio165:Tryz.prog.ioF 165=false:=by kernel_rfl
theorem Tryz.X165:Tryz.prog.enters 165=true:=by kernel_rfl
@[go_sem] theorem Tryz.xio166:Tryz.prog.ioF 166=false:=by kernel_rfl
theorem Tryz.X166:Tryz.prog.enters 166=true:=by kernel_rfl
@[go_sem] theorem Tryz.xio167:Tryz.prog.ioF 167=false:=by kernel_rfl
theorem Tryz.X167:Tryz.prog.enters 167=true:=by kernel_rfl
@[go_sem] theorem Tryz.xio168:Tryz.prog.ioF 168=false:=by kernel_rfl
@[go_sem] theorem Tryz.xio169:Tryz.prog.ioF 169=false:=by kernel_rfl
@[go_sem] theorem Tryz.xio170:Tryz.prog.ioF 170=false:=by kernel_rfl
@[go_sem] theorem Tryz.xio171:Tryz.prog.ioF 171=false:=by kernel_rfl
@[go_sem] theorem Tryz.xio172:Tryz.prog.ioF 172=false:=by kernel_rfl
@[go_sem] theorem Tryz.xio173:Tryz.prog.ioF 173=true:=by kernel_rfl
@[go_sem] theorem Tryz.xio174:Tryz.prog.ioF 174=false:=by kernel_rfl
@[go_sem] theorem Tryz.xio175:Tryz.prog.ioF 175=true:=by kernel_rfl
theorem Tryz.X175:Tryz.prog.enters 175=true:=by kernel_rfl
@[go_sem] theorem Tryz.xio176:Tryz.prog.ioF 176=false:=by kernel_rfl
theorem Tryz.X176:Tryz.prog.enters 176=true:=by kernel_rfl
@[go_sem] theorem Tryz.xio177:Tryz.prog.ioF 177=false:=by kernel_rfl
theorem Tryz.X177:Tryz.prog.enters 177=true:=by kernel_rfl
@[go_sem] theorem Tryz.xio178:Tryz.prog.ioF 178=false:=by kernel_rfl
theorem Tryz.X178:Tryz.prog.enters 178=true:=by kernel_rfl
@[go_sem] theorem Tryz.xio179:Tryz.prog.ioF 179=false:=by kernel_rfl
theorem Tryz.X179:Tryz.prog.enters 179=true:=by kernel_rfl
@[go_sem] theorem Tryz.xio180:Tryz.prog.ioF 180=false:=by kernel_rfl
theorem Tryz.X180:Tryz.prog.enters 180=true:=by kernel_rfl
@[go_sem] theorem Tryz.xio181:Tryz.prog.ioF 181=false:=by kernel_rfl
theorem Tryz.X181:Tryz.prog.enters 181=true:=by kernel_rfl
@[go_sem] theorem Tryz.xio182:Tryz.prog.ioF 182=false:=by kernel_rfl
@[go_sem] theorem Tryz.xio183:Tryz.prog.ioF 183=true:=by kernel_rfl
@[go_sem] theorem Tryz.xio184:Tryz.prog.ioF 184=false:=by kernel_rfl
theorem Tryz.X184:Tryz.prog.enters 184=true:=by kernel_rfl
@[go_sem] theorem Tryz.xio185:Tryz.prog.ioF 185=false:=by kernel_rfl
theorem Tryz.X185:Tryz.prog.enters 185=true:=by kernel_rfl
@[go_sem] theorem Tryz.xio186:Tryz.prog.ioF 186=false:=by kernel_rfl
@[go_sem] theorem Tryz.xio187:Tryz.prog.ioF 187=false:=by kernel_rfl
@[go_sem] theorem Tryz.xio188:Tryz.prog.ioF 188=false:=by kernel_rfl
@[go_sem] theorem Tryz.xio189:Tryz.prog.ioF 189=true:=by kernel_rfl
@[go_sem] theorem Tryz.xio190:Tryz.prog.ioF 190=false:=by kernel_rfl
@[go_sem] theorem Tryz.xio191:Tryz.prog.ioF 191=false:=by kernel_rfl
@[go_sem] theorem Tryz.xio192:Tryz.prog.ioF 192=false:=by kernel_rfl
@[go_sem] theorem Tryz.xio193:Tryz.prog.ioF 193=false:=by kernel_rfl
theorem Tryz.X193:Tryz.prog.enters 193=true:=by kernel_rfl
@[go_sem] theorem Tryz.xio194:Tryz.prog.ioF 194=false:=by kernel_rfl
theorem Tryz.X194:Tryz.prog.enters 194=true:=by kernel_rfl
@[go_sem] theorem Tryz.xio195:Tryz.prog.ioF 195=false:=by kernel_rfl
theorem Tryz.X195:Tryz.prog.enters 195=true:=by kernel_rfl
@[go_sem] theorem Tryz.xio196:Tryz.prog.ioF 196=false:=by kernel_rfl
theorem Tryz.X196:Tryz.prog.enters 196=true:=by kernel_rfl
@[go_sem] theorem Tryz.xio197:Tryz.prog.ioF 197=false:=by kernel_rfl
theorem Tryz.X197:Tryz.prog.enters 197=true:=by kernel_rfl
@[go_sem] theorem Tryz.xio198:Tryz.prog.ioF 198=false:=by kernel_rfl
theorem Tryz.X198:Tryz.prog.enters 198=true:=by kernel_rfl
@[go_sem] theorem Tryz.xio199:Tryz.prog.ioF 199=false:=by kernel_rfl
theorem Tryz.X199:Tryz.prog.enters 199=true:=by kernel_rfl
@[go_sem] theorem Tryz.xio200:Tryz.prog.ioF 200=false:=by kernel_rfl
theorem Tryz.X200:Tryz.prog.enters 200=true:=by kernel_rfl
@[go_sem] theorem Tryz.xio201:Tryz.prog.ioF 201=false:=by kernel_rfl
theorem Tryz.X201:Tryz.prog.enters 201=true:=by kernel_rfl
@[go_sem] theorem Tryz.xio202:Tryz.prog.ioF 202=false:=by kernel_rfl
theorem Tryz.X202:Tryz.prog.enters 202=true:=by kernel_rfl
@[go_sem] theorem Tryz.xio203:Tryz.prog.ioF 203=false:=by kernel_rfl
theorem Tryz.X203:Tryz.prog.enters 203=true:=by kernel_rfl
@[go_sem] theorem Tryz.xio204:Tryz.prog.ioF 204=false:=by kernel_rfl
theorem Tryz.X204:Tryz.prog.enters 204=true:=by kernel_rfl
@[go_sem] theorem Tryz.xio205:Tryz.prog.ioF 205=false:=by kernel_rfl
theorem Tryz.X205:Tryz.prog.enters 205=true:=by kernel_rfl
@[go_sem] theorem Tryz.xio206:Tryz.prog.ioF 206=true:=by kernel_rfl
theorem Tryz.X206:Tryz.prog.enters 206=true:=by kernel_rfl
@[go_sem] theorem Tryz.xio207:Tryz.prog.ioF 207=true:=by kernel_rfl
@[go_sem] theorem Tryz.xio208:Tryz.prog.ioF 208=true:=by kernel_rfl
@[go_sem] theorem Tryz.xio209:Tryz.prog.ioF 209=true:=by kernel_rfl
@[go_sem] theorem Tryz.xio210:Tryz.prog.ioF 210=true:=by kernel_rfl
@[go_sem] theorem Tryz.xio211:Tryz.prog.ioF 211=true:=by kernel_rfl
@[go_sem] theorem Tryz.xio212:Tryz.prog.ioF 212=false:=by kernel_rfl
theorem Tryz.X212:Tryz.prog.enters 212=true:=by kernel_rfl
@[go_sem] theorem Tryz.xio213:Tryz.prog.ioF 213=false:=by kernel_rfl
theorem Tryz.X213:Tryz.prog.enters 213=true:=by kernel_rfl
@[go_sem] theorem Tryz.xio214:Tryz.prog.ioF 214=false:=by kernel_rfl
theorem Tryz.X214:Tryz.prog.enters 214=true:=by kernel_rfl
@[go_sem] theorem Tryz.xio215:Tryz.prog.ioF 215=false:=by kernel_rfl
theorem Tryz.X215:Tryz.prog.enters 215=true:=by kernel_rfl
@[go_sem] theorem Tryz.xio216:Tryz.prog.ioF 216=false:=by kernel_rfl
theorem Tryz.X216:Tryz.prog.enters 216=true:=by kernel_rfl
@[go_sem] theorem Tryz.xio217:Tryz.prog.ioF 217=false:=by kernel_rfl
theorem Tryz.X217:Tryz.prog.enters 217=true:=by kernel_rfl
@[go_sem] theorem Tryz.xio218:Tryz.prog.ioF 218=false:=by kernel_rfl
theorem Tryz.X218:Tryz.prog.enters 218=true:=by kernel_rfl
@[go_sem] theorem Tryz.xio219:Tryz.prog.ioF 219=false:=by kernel_rfl
@[go_sem] theorem Tryz.xio220:Tryz.prog.ioF 220=false:=by kernel_rfl
@[go_sem] theorem Tryz.xio221:Tryz.prog.ioF 221=false:=by kernel_rfl
@[go_sem] theorem Tryz.xio222:Tryz.prog.ioF 222=false:=by kernel_rfl
@[go_sem] theorem Tryz.xio223:Tryz.prog.ioF 223=false:=by kernel_rfl
@[go_sem] theorem Tryz.xio224:Tryz.prog.ioF 224=false:=by kernel_rfl
theorem Tryz.X224:Tryz.prog.enters 224=true:=by kernel_rfl
@[go_sem] theorem Tryz.xio225:Tryz.prog.ioF 225=false:=by kernel_rfl
theorem Tryz.X225:Tryz.prog.enters 225=true:=by kernel_rfl
@[go_sem] theorem Tryz.xio226:Tryz.prog.ioF 226=false:=by kernel_rfl
theorem Tryz.X226:Tryz.prog.enters 226=true:=by kernel_rfl
@[go_sem] theorem Tryz.xio227:Tryz.prog.ioF 227=false:=by kernel_rfl
theorem Tryz.X227:Tryz.prog.enters 227=true:=by kernel_rfl
@[go_sem] theorem Tryz.xio228:Tryz.prog.ioF 228=false:=by kernel_rfl
theorem Tryz.X228:Tryz.prog.enters 228=true:=by kernel_rfl
@[go_sem] theorem Tryz.xio229:Tryz.prog.ioF 229=false:=by kernel_rfl
theorem Tryz.X229:Tryz.prog.enters 229=true:=by kernel_rfl
@[go_sem] theorem Tryz.xio230:Tryz.prog.ioF 230=false:=by kernel_rfl
theorem Tryz.X230:Tryz.prog.enters 230=true:=by kernel_rfl
@[go_sem] theorem Tryz.xio231:Tryz.prog.ioF 231=false:=by kernel_rfl
@[go_sem] theorem Tryz.xio232:Tryz.prog.ioF 232=false:=by kernel_rfl
@[go_sem] theorem Tryz.xio233:Tryz.prog.ioF 233=false:=by kernel_rfl
@[go_sem] theorem Tryz.xio234:Tryz.prog.ioF 234=false:=by kernel_rfl
@[go_sem] theorem Tryz.xio235:Tryz.prog.ioF 235=false:=by kernel_rfl
@[go_sem] theorem Tryz.xio236:Tryz.prog.ioF 236=false:=by kernel_rfl
@[go_sem] theorem Tryz.xio237:Tryz.prog.ioF 237=false:=by kernel_rfl
@[go_sem] theorem Tryz.xio238:Tryz.prog.ioF 238=false:=by kernel_rfl
@[go_sem] theorem Tryz.xio239:Tryz.prog.ioF 239=false:=by kernel_rfl
@[go_sem] theorem Tryz.xio240:Tryz.prog.ioF 240=false:=by kernel_rfl
@[go_sem] theorem Tryz.xio241:Tryz.prog.ioF 241=false:=by kernel_rfl
@[go_sem] theorem Tryz.xio242:Tryz.prog.ioF 242=false:=by kernel_rfl
theorem Tryz.X242:Tryz.prog.enters 242=true:=by kernel_rfl
@[go_sem] theorem Tryz.xio243:Tryz.prog.ioF 243=false:=by kernel_rfl
theorem Tryz.X243:Tryz.prog.enters 243=true:=by kernel_rfl
@[go_sem] theorem Tryz.xio244:Tryz.prog.ioF 244=false:=by kernel_rfl
theorem Tryz.X244:Tryz.prog.enters 244=true:=by kernel_rfl
@[go_sem] theorem Tryz.xio245:Tryz.prog.ioF 245=true:=by kernel_rfl
@[go_sem] theorem Tryz.xio246:Tryz.prog.ioF 246=false:=by kernel_rfl
theorem Tryz.X246:Tryz.prog.enters 246=true:=by kernel_rfl
@[go_sem] theorem Tryz.xio247:Tryz.prog.ioF 247=false:=by kernel_rfl
theorem Tryz.X247:Tryz.prog.enters 247=true:=by kernel_rfl
@[go_sem] theorem Tryz.xio248:Tryz.prog.ioF 248=false:=by kernel_rfl
theorem Tryz.X248:Tryz.prog.enters 248=true:=by kernel_rfl
@[go_sem] theorem Tryz.xio249:Tryz.prog.ioF 249=false:=by kernel_rfl
@[go_sem] theorem Tryz.xio250:Tryz.prog.ioF 250=false:=by kernel_rfl
theorem Tryz.X250:Tryz.prog.enters 250=true:=by kernel_rfl
@[go_sem] theorem Tryz.xio251:Tryz.prog.ioF 251=false:=by kernel_rfl
theorem Tryz.X251:Tryz.prog.enters 251=true:=by kernel_rfl
@[go_sem] theorem Tryz.xio252:Tryz.prog.ioF 252=false:=by kernel_rfl
theorem Tryz.X252:Tryz.prog.enters 252=true:=by kernel_rfl
@[go_sem] theorem Tryz.xio253:Tryz.prog.ioF 253=true:=by kernel_rfl
@[go_sem] theorem Tryz.xio254:Tryz.prog.ioF 254=true:=by kernel_rfl
@[go_sem] theorem Tryz.xio255:Tryz.prog.ioF 255=false:=by kernel_rfl
theorem Tryz.X255:Tryz.prog.enters 255=true:=by kernel_rfl
@[go_sem] theorem Tryz.xio256:Tryz.prog.ioF 256=false:=by kernel_rfl
@[go_sem] theorem Tryz.xio257:Tryz.prog.ioF 257=false:=by kernel_rfl
@[go_sem] theorem Tryz.xio258:Tryz.prog.ioF 258=true:=by kernel_rfl
@[go_sem] theorem Tryz.xio259:Tryz.prog.ioF 259=true:=by kernel_rfl
@[go_sem] theorem Tryz.xio260:Tryz.prog.ioF 260=true:=by kernel_rfl
@[go_sem] theorem Tryz.xio261:Tryz.prog.ioF 261=false:=by kernel_rfl
@[go_sem] theorem Tryz.xio262:Tryz.prog.ioF 262=true:=by kernel_rfl
theorem Tryz.X262:Tryz.prog.enters 262=true:=by kernel_rfl
@[go_sem] theorem Tryz.xio263:Tryz.prog.ioF 263=false:=by kernel_rfl
theorem Tryz.X263:Tryz.prog.enters 263=true:=by kernel_rfl
@[go_sem] theorem Tryz.xio264:Tryz.prog.ioF 264=false:=by kernel_rfl
theorem Tryz.X264:Tryz.prog.enters 264=true:=by kernel_rfl
@[go_sem] theorem Tryz.xio265:Tryz.prog.ioF 265=false:=by kernel_rfl
theorem Tryz.X265:Tryz.prog.enters 265=true:=by kernel_rfl
@[go_sem] theorem Tryz.xio266:Tryz.prog.ioF 266=false:=by kernel_rfl
theorem Tryz.X266:Tryz.prog.enters 266=true:=by kernel_rfl
@[go_sem] theorem Tryz.xio267:Tryz.prog.ioF 267=false:=by kernel_rfl
theorem Tryz.X267:Tryz.prog.enters 267=true:=by kernel_rfl
@[go_sem] theorem Tryz.xio268:Tryz.prog.ioF 268=false:=by kernel_rfl
@[go_sem] theorem Tryz.xio269:Tryz.prog.ioF 269=true:=by kernel_rfl
@[go_sem] theorem Tryz.xio270:Tryz.prog.ioF 270=false:=by kernel_rfl
theorem Tryz.X270:Tryz.prog.enters 270=true:=by kernel_rfl
@[go_sem] theorem Tryz.xio271:Tryz.prog.ioF 271=false:=by kernel_rfl
theorem Tryz.X271:Tryz.prog.enters 271=true:=by kernel_rfl
@[go_sem] theorem Tryz.xio280:Tryz.prog.ioF 280=true:=by kernel_rfl
@[go_sem] theorem Tryz.xio281:Tryz.prog.ioF 281=true:=by kernel_rfl
@[go_sem] theorem Tryz.xio282:Tryz.prog.ioF 282=true:=by kernel_rfl
@[go_sem] theorem Tryz.xio283:Tryz.prog.ioF 283=true:=by kernel_rfl
@[go_sem] theorem Tryz.xio284:Tryz.prog.ioF 284=true:=by kernel_rfl
@[go_sem] theorem Tryz.xio289:Tryz.prog.ioF 289=true:=by kernel_rfl
end Go.Proofs.YtbfnemkngoaeeaaGreat
