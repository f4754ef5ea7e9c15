/- Proved here: The project with one thing changed, as data, for use in the proofs of the given statements; conditions stand in each theorem. -/
import Derived.Test.YtinobebofhbnnaaGreatYG
import Derived.Test.YtinobebofhbnnaaGreatZSW1
import Derived.Test.YtinobebofhbnnaaGreatY6
set_option linter.unusedSimpArgs false
set_option linter.unusedVariables false
set_option linter.unusedSectionVars false
set_option linter.unnecessarySimpa false
namespace Go.Proofs.YtinobebofhbnnaaGreat
open Go.RowKit
set_option maxRecDepth 4000
def shownC (nm:ByteArray):ClipR:=⟨3,1,⟨2,nm,⟨0,1⟩,⟨1,1⟩,false⟩,zSource,0,0,0,⟨#[]⟩,0,[]⟩
def seq11 (i:Int):SequenceR:=⟨nameB ⟨#[115]⟩ i,⟨25,1⟩,16,16,[[shownC (nameB ⟨#[115]⟩ (i - 1))]],[],[],0⟩
def odd11 (L:List Int):Nat→Nat→List SequenceR→List SequenceR
 | 0,_,s=>s
 | f+1,q,s=>if (s.length:Int)<4+tapeN L q 4 then odd11 L f (q+1) (s ++ [seq11 s.length]) else s
def medAtI (p:ProjR) (a:Nat):MediumR:=p.media.getD a default
def seqAtI (p:ProjR) (b:Nat):SequenceR:=p.seqs.getD b default
def oddK (p:ProjR) (L:List Int) (a b:Nat) (k:Int):ProjR :=
 if k=0∧1<p.media.length then ⟨p.media.set a { medAtI p a with name:=(medAtI p ((a+1) % p.media.length)).name },p.seqs⟩
 else if k=1 then ⟨p.media.take a++p.media.drop (a+1),p.seqs⟩
 else if k=2 then ⟨p.media,p.seqs.set b { seqAtI p b with name:=⟨#[66,105,103]⟩ }⟩
 else if k=3 then ⟨p.media,p.seqs.set b { seqAtI p b with w:=20 }⟩
 else if k=4 then ⟨p.media,p.seqs.set b { seqAtI p b with rate:=⟨2,2⟩ }⟩
 else if k=5 then ⟨p.media.set a { medAtI p a with frames := -1 },p.seqs⟩
 else if k=6∧1<p.seqs.length then ⟨p.media,p.seqs.set b { seqAtI p b with name:=(seqAtI p ((b+1) % p.seqs.length)).name }⟩
 else if k=7 then ⟨p.media,p.seqs.set b { seqAtI p b with video:=(seqAtI p b).video ++ [[shownC (nameB ⟨#[115]⟩ (tapeN L 3 4))]] }⟩
 else if k=8 then ⟨p.media,p.seqs.set b { seqAtI p b with sound:=(seqAtI p b).sound ++ [[(clipAt L 3 2 1).1]] }⟩
 else if k=9 then ⟨p.media,p.seqs.set b { seqAtI p b with video:=(seqAtI p b).video++List.replicate (9 - (seqAtI p b).video.length) [] }⟩
 else if k=10 then ⟨p.media,p.seqs.set b { seqAtI p b with cues:=(seqAtI p b).cues ++ [⟨5,5,[⟨#[120]⟩]⟩] }⟩
 else if k=11 then ⟨p.media,odd11 L 8 3 p.seqs⟩
 else p
def oddP (p:ProjR) (L:List Int):ProjR:=oddK p L (tapeN L 1 p.media.length).toNat (tapeN L 2 p.seqs.length).toNat (tapeN L 0 16)
open Go.RowKit
set_option maxRecDepth 4000
theorem tCells_map:∀ l:List T,Go.Proofs.YtinobebofhbnnaaGreat.tCells (l.map V.t)=some l
 | []=>rfl
 | x::l=>by simp only [List.map_cons,tCells,tCells_map l];rfl
@[go_sem] theorem vmed_get0 (m:MediumR):(vmed m)[0]? = some (vstr m.name):=rfl
@[go_sem] theorem vmed_put0 (m:MediumR) (n:ByteArray):List.take 0 (vmed m) ++ [V.t (.lit (.string n))]++List.drop 1 (vmed m)=vmed { m with name:=n }:=rfl
@[go_sem] theorem vmed_put0' (m:MediumR) (n:ByteArray):V.t (.lit (.string n))::List.drop 1 (vmed m)=vmed { m with name:=n }:=rfl
@[go_sem] theorem vmed_put137 (m:MediumR) (x:Int):List.take 137 (vmed m) ++ [V.t (.lit (.int .i64 x))]++List.drop 138 (vmed m)=vmed { m with frames:=x }:=rfl
theorem impL_refl:∀ l:List T,ImpL l l
 | []=>trivial
 | x::l=>⟨imp_refl,impL_refl l⟩
def d9:Nat→List T
 | 0=>trackC []
 | _+1=>[.lit (.slice none 0 0)]
def c9 (s:SequenceR) (x:Nat):List T:=[tstr s.name,ti s.rate.num,ti s.rate.den,ti s.w,ti s.h, .list 1 (d9 x) (List.map trackC s.video++List.replicate x [.lit (.slice none 0 0)]),ttracks s.sound,tcues s.cues,ti s.channels]
abbrev zCl:List T:=[ti 0,ti 0,ti 0,tstr ⟨#[]⟩,ti 0,ti 0,ti 0,ti 0, .lit (.bool false),ti 0,tstr ⟨#[]⟩,ti 0,ti 0,ti 0,ti 0, .lit (.bool false),ti 0,ti 0,ti 0,tstr ⟨#[]⟩,ti 0, .lit (.slice none 0 0)]
def n11 (i:Int):List T:=[tstr (nameB ⟨#[115]⟩ i),ti 25,ti 1,ti 16,ti 16, .list 1 [.lit (.slice none 0 0)] [[.list 22 zCl [[ti 3,ti 1,ti 2,tstr (nameB ⟨#[115]⟩ (i - 1)),ti 0,ti 1,ti 1,ti 1, .lit (.bool false),ti 0,tstr ⟨#[]⟩,ti 0,ti 0,ti 0,ti 0, .lit (.bool false),ti 0,ti 0,ti 0,tstr ⟨#[]⟩,ti 0, .lit (.slice none 0 0)]]]], .lit (.slice none 0 0), .lit (.slice none 0 0),ti 0]
def x11 (l:List SequenceR) (m:Nat):List (List T):=List.map SequenceR.c l++(List.range m).map fun j=>n11 ((l.length+j:Nat):Int)
def s11 (l:List SequenceR) (m:Nat):List SequenceR:=l++(List.range m).map fun j=>seq11 ((l.length+j:Nat):Int)
end Go.Proofs.YtinobebofhbnnaaGreat
