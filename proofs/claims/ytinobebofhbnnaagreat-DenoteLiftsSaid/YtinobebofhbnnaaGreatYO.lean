/- Proved here: Films and frames of any project, the reference, for use in the proofs of the given statements; conditions stand in each theorem. -/
import Derived.Test.YtinobebofhbnnaaGreatYN
import Derived.Test.YtinobebofhbnnaaGreatZQ
set_option linter.unusedSimpArgs false
set_option linter.unusedVariables false
set_option linter.unusedSectionVars false
set_option linter.unnecessarySimpa false
namespace Go.Proofs.YtinobebofhbnnaaGreat
open Go.RowKit
set_option maxRecDepth 4000
def late (frm:Int) (k:Nat):Bool:=decide (frm > 9223372036854775807 - (k:Int))
def filmL (p:ProjR) (name:ByteArray) (frm:Int) (n:Nat):List ExprR:=(List.range n).map fun k=>if late frm k=true then zeroE else filmE redX p 5 name (frm+(k:Int))
def rowF (p:ProjR) (name:ByteArray) (frm:Int) (n:Nat):List (List T):=(List.range n).map fun k=>if late frm k=true then zE else ExprR.c (filmE redX p 5 name (frm+(k:Int)))
def filmR (p:ProjR) (name:ByteArray) (frm n:Int):List ExprR×Int :=
 if validP p≠0 then ([],validP p) else
 match seqOf p.seqs name with
 | none=>([],7)
 | some _=>if n<0 then ([],1) else if n > 65536 then ([],5) else (filmL p name frm n.toNat,0)
abbrev vfilm (r:List ExprR×Int):V := .tup [.t (texprs r.1),vint r.2]
theorem iL_refl:∀ l:List T,ImpL l l
 | []=>trivial
 | x::l=>⟨imp_refl,iL_refl l⟩
theorem zE_imp:ImpL zE (ExprR.c zeroE):=by
 unfold zeroE
 simp only [ExprR.c,cs_eq,List.map_nil]
 exact ⟨imp_refl,imp_refl,imp_refl,imp_refl,imp_refl,imp_refl,imp_refl,imp_nil,trivial⟩
theorem rowF_imp (p:ProjR) (name:ByteArray) (frm:Int) (n:Nat):ImpR (rowF p name frm n) ((filmL p name frm n).map ExprR.c):=by
 unfold rowF filmL
 rw [List.map_map]
 generalize List.range n=r
 induction r with
 | nil=>trivial
 | cons k r ih =>
  refine ⟨?_,ih⟩
  simp only [Function.comp]
  by_cases h:late frm k=true
  ·rw [if_pos h,if_pos h];exact zE_imp
  ·rw [if_neg h,if_neg h];exact iL_refl _
theorem rowF_succ (p:ProjR) (name:ByteArray) (frm:Int) (k:Nat):rowF p name frm (k+1)=rowF p name frm k ++ [if late frm k=true then zE else ExprR.c (filmE redX p 5 name (frm+(k:Int)))]:=by
 unfold rowF
 rw [List.range_succ,List.map_append]
 rfl
theorem rowF_len (p:ProjR) (name:ByteArray) (frm:Int) (k:Nat):(rowF p name frm k).length=k:=by unfold rowF;simp
theorem pureW_fnil (k:Int) {h:Heap}:pureW (vfilm ([],k)) (.tup [.t (.lit (.slice none 0 0)),vint k]) h :=
 pureW_as (r' := .tup [.t (.lit (.slice none 0 0)),vint k]) rfl rfl (as_impTup (by exact ⟨as_nilL,as_refl,trivial⟩))
theorem pureW_film {l:List ExprR} {k:Int} {d:List T} {R:List (List T)} {x:V} {h:Heap} (e:x.lend h = .tup [.t (.list 8 d R),vint k]) (hi:ImpR R (l.map ExprR.c)):pureW (vfilm (l,k)) x h :=
 pureW_as e rfl (as_impTup (by exact ⟨as_imp (imp_list hi),as_refl,trivial⟩))
open Go.RowKit
set_option maxRecDepth 4000
def maxL:List (List ClipR)→Int→Int
 | [],m=>m
 | t::l,m=>maxL l (max m (lenT (normT t)))
def seqLenR (p:ProjR) (name:ByteArray):Int×Int :=
 if validP p≠0 then (0,validP p) else
 match seqOf p.seqs name with
 | none=>(0,7)
 | some s=>(maxL s.sound (maxL s.video 0),0)
end Go.Proofs.YtinobebofhbnnaaGreat
