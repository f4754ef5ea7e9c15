/- Proved here: The contract of the test that the law's functions are there; conditions stand in each theorem. -/
import Derived.Test.YtbfnemkngoaeeaaGreatQ06
import Derived.Test.YtbfnemkngoaeeaaGreatQ20
import Derived.Test.YtbfnemkngoaeeaaGreatQ15
import Derived.Test.YtbfnemkngoaeeaaGreatQ11
set_option linter.unusedSimpArgs false
set_option linter.unusedVariables false
set_option linter.unusedSectionVars false
set_option linter.unnecessarySimpa false
namespace Go.Proofs.YtbfnemkngoaeeaaGreat
open Go.RowKit
set_option maxRecDepth 4000
def bA:ByteArray:=⟨#[97]⟩
def awS1:SourceR:=⟨1,⟨#[97]⟩,⟨10,1⟩,⟨1,2⟩,false⟩
def awC1:ClipR:=⟨3,1,awS1,zSource,0,0,0,⟨#[]⟩,0,[]⟩
def awG (n:Int) (k:Int):ClipR:=⟨n,k,zSource,zSource,0,0,0,⟨#[]⟩,0,[]⟩
theorem aw_find:aEd [awG 5 0,awC1] 6=(1,1,true):=of_decide_eq_true (by kernel_rfl)
theorem aw_len:lenT [awG 5 0,awC1]=8:=of_decide_eq_true (by kernel_rfl)
theorem aw_adv2:(Uz awC1 2).2=0:=of_decide_eq_true (by kernel_rfl)
theorem aF0:(Uz awC1 2).1.a.pos.num=11∧(Uz awC1 2).1.a.pos.den=1:=⟨of_decide_eq_true (by kernel_rfl),of_decide_eq_true (by kernel_rfl)⟩
theorem aw_norm:(Qg [awG 1 0,awG 2 0]).length=0:=of_decide_eq_true (by kernel_rfl)
theorem i0:I64 0:=⟨by decide,by decide⟩
theorem uJ:zSource.fit:=⟨⟨by decide,by decide⟩,⟨⟨by decide,by decide⟩,⟨by decide,by decide⟩⟩,⟨⟨by decide,by decide⟩,⟨by decide,by decide⟩⟩⟩
theorem aEz:awC1.fit:=⟨⟨by decide,by decide⟩,⟨by decide,by decide⟩,⟨⟨by decide,by decide⟩,⟨⟨by decide,by decide⟩,⟨by decide,by decide⟩⟩,⟨⟨by decide,by decide⟩,⟨by decide,by decide⟩⟩⟩,uJ,⟨by decide,by decide⟩,⟨by decide,by decide⟩,⟨by decide,by decide⟩,⟨by decide,by decide⟩⟩
theorem Uv {n k:Int} (hn:I64 n) (hk:I64 k):(awG n k).fit:=⟨hn,hk,uJ,uJ,i0,i0,i0,i0⟩
theorem cAwake:aN Tryz.prog 31 [] (aP true):=by
 have hf1:∀ c ∈ [awG 5 0,awC1],c.fit:=by
  intro c hc;simp only [List.mem_cons,List.not_mem_nil,or_false] at hc;rcases hc with rfl | rfl
  ·exact Uv ⟨by decide,by decide⟩ ⟨by decide,by decide⟩
  ·exact aEz
 have hf2:∀ c ∈ [awG 1 0,awG 2 0],c.fit:=by
  intro c hc;simp only [List.mem_cons,List.not_mem_nil,or_false] at hc;rcases hc with rfl | rfl
  ·exact Uv ⟨by decide,by decide⟩ ⟨by decide,by decide⟩
  ·exact Uv ⟨by decide,by decide⟩ ⟨by decide,by decide⟩
 refine aH Tryz.X31 Tryz.func31 rfl Tryz.ntmps31 (by rw [Tryz.results31]) ?_;refine dK (aD _ ?_);simp only [go_sem,↓reduceIte,Nat.reduceSub];refine dK (aD _ ?_);simp only [go_sem,Nat.reduceGT,↓reduceIte,Nat.reduceAdd,Nat.reduceLeDiff,reduceCtorEq];refine dK (aD _ ?_);simp only [go_sem,Nat.reduceGT,Nat.reducePow,Nat.reduceLT,↓reduceIte,Nat.reduceAdd,Nat.reduceMul,Nat.reduceLeDiff,reduceCtorEq];refine dK (aD _ ?_);simp only [go_sem,↓reduceIte];refine qA ?_;simp only [go_sem,↓reduceIte];refine ⟨_,nL (.cons (Uw (by exact ⟨⟨.inl rfl, .inl rfl, .inl rfl, .inl rfl, .inl rfl, .inl rfl, .inl rfl, .inl rfl, .inl rfl, .inl rfl, .inl rfl, .inl rfl, .inl rfl, .inl rfl, .inl rfl, .inl rfl, .inl rfl, .inl rfl, .inl rfl, .inl rfl, .inl rfl, .inr ⟨rfl,_,_,rfl⟩,trivial⟩,⟨.inl rfl, .inl rfl, .inl rfl, .inl rfl, .inl rfl, .inl rfl, .inl rfl, .inl rfl, .inl rfl, .inl rfl, .inl rfl, .inl rfl, .inl rfl, .inl rfl, .inl rfl, .inl rfl, .inl rfl, .inl rfl, .inl rfl, .inl rfl, .inl rfl, .inr ⟨rfl,_,_,rfl⟩,trivial⟩,trivial⟩)) (.cons yA .nil)) (cPFind [awG 5 0,awC1] 6 ⟨by decide,by decide⟩ hf1),?_⟩;rw [aw_find];simp only [go_sem];refine dK (aD _ ?_);simp only [go_sem,↓reduceIte,Nat.reduceAdd,Nat.reduceLeDiff,reduceCtorEq];refine ⟨_,nL (.cons (aCr (by exact ⟨.inl rfl, .inl rfl, .inl rfl, .inl rfl, .inl rfl, .inl rfl, .inl rfl, .inl rfl, .inl rfl, .inl rfl, .inl rfl, .inl rfl, .inl rfl, .inl rfl, .inl rfl, .inl rfl, .inl rfl, .inl rfl, .inl rfl, .inl rfl, .inl rfl, .inr ⟨rfl,_,_,rfl⟩,trivial⟩)) (.cons yA .nil)) (aNg awC1 2 aEz ⟨by decide,by decide⟩),?_⟩;simp only [go_sem,↓reduceIte,Nat.reduceAdd,Nat.reduceLeDiff];refine dK (uF 29 ?_);simp only [go_sem,↓reduceIte,List.take,List.drop];refine qA ?_;simp only [go_sem,↓reduceIte,Nat.reduceEqDiff];refine ⟨_,nL (.cons (Uw (by exact ⟨⟨.inl rfl, .inl rfl, .inl rfl, .inl rfl, .inl rfl, .inl rfl, .inl rfl, .inl rfl, .inl rfl, .inl rfl, .inl rfl, .inl rfl, .inl rfl, .inl rfl, .inl rfl, .inl rfl, .inl rfl, .inl rfl, .inl rfl, .inl rfl, .inl rfl, .inr ⟨rfl,_,_,rfl⟩,trivial⟩,⟨.inl rfl, .inl rfl, .inl rfl, .inl rfl, .inl rfl, .inl rfl, .inl rfl, .inl rfl, .inl rfl, .inl rfl, .inl rfl, .inl rfl, .inl rfl, .inl rfl, .inl rfl, .inl rfl, .inl rfl, .inl rfl, .inl rfl, .inl rfl, .inl rfl, .inr ⟨rfl,_,_,rfl⟩,trivial⟩,trivial⟩)) .nil) (aN3 [awG 5 0,awC1] hf1),?_⟩;simp only [go_sem,Nat.reduceGT,Nat.reducePow,Nat.reduceLT,↓reduceIte,Nat.reduceAdd,Nat.reduceMul,Nat.reduceLeDiff,reduceCtorEq,Bool.and_true,aw_len,aw_adv2,aF0.1,aF0.2];refine ⟨true,Zu ⟨11,1⟩ ⟨11,1⟩,fun _=>⟨rfl,?_⟩,fun h=>Bool.noConfusion h⟩;refine aFw rfl (by simp only [go_sem]) ?_;simp only [go_sem,↓reduceIte];refine qA ?_;simp only [go_sem,↓reduceIte];refine ⟨_,nL (.cons (Uw (by exact ⟨⟨.inl rfl, .inl rfl, .inl rfl, .inl rfl, .inl rfl, .inl rfl, .inl rfl, .inl rfl, .inl rfl, .inl rfl, .inl rfl, .inl rfl, .inl rfl, .inl rfl, .inl rfl, .inl rfl, .inl rfl, .inl rfl, .inl rfl, .inl rfl, .inl rfl, .inr ⟨rfl,_,_,rfl⟩,trivial⟩,⟨.inl rfl, .inl rfl, .inl rfl, .inl rfl, .inl rfl, .inl rfl, .inl rfl, .inl rfl, .inl rfl, .inl rfl, .inl rfl, .inl rfl, .inl rfl, .inl rfl, .inl rfl, .inl rfl, .inl rfl, .inl rfl, .inl rfl, .inl rfl, .inl rfl, .inr ⟨rfl,_,_,rfl⟩,trivial⟩,trivial⟩)) .nil) (cNormal [awG 1 0,awG 2 0] hf2),?_⟩;simp only [go_sem];refine Ht ?_;simp only [go_sem,↓reduceIte,Bool.and_true,aw_norm];refine ⟨_,fun _=>cValid0,?_⟩;simp only [go_sem,↓reduceIte,Bool.and_true,Int.natCast_zero];refine aD _ ?_;simp only [go_sem];try rfl
end Go.Proofs.YtbfnemkngoaeeaaGreat
