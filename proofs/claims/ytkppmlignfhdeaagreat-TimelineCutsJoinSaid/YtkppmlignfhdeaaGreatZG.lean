/- Proved here: Picks from a slice whose elements are given, on the abstract machine, for use in the proofs of the given statements; conditions stand in each theorem. -/
import Derived.Test.YtkppmlignfhdeaaGreatZF
import Derived.WalkKit
import Derived.ProofKit
import Derived.OpenShut
import Derived.ShutString
import Derived.ChangeOld
import Derived.Below
import Derived.Carry
import Derived.WideShapes
set_option linter.unusedSimpArgs false
set_option linter.unusedVariables false
set_option linter.unusedSectionVars false
set_option linter.unusedSimpArgs false
set_option linter.unusedVariables false
namespace Go.Proofs.YtkppmlignfhdeaaGreat
open Go.RowKit
@[go_sem] theorem dec_str {l : List UInt8} : decide ((⟨l⟩ : Array UInt8).size ≤ maxLen) = decide (l.length ≤ maxLen) := rfl
theorem len_ok {n : Nat} (h : n ≤ 65536) : n ≤ maxLen := by unfold maxLen; omega
@[go_sem] theorem dec_len0 : decide (0 ≤ maxLen) = true := decide_eq_true (len_ok (by omega))
@[go_sem] theorem dec_len1 : decide (1 ≤ maxLen) = true := decide_eq_true (len_ok (by omega))
@[go_sem] theorem dec_len2 : decide (2 ≤ maxLen) = true := decide_eq_true (len_ok (by omega))
@[go_sem] theorem dec_len3 : decide (3 ≤ maxLen) = true := decide_eq_true (len_ok (by omega))
@[go_sem] theorem dec_len4 : decide (4 ≤ maxLen) = true := decide_eq_true (len_ok (by omega))
@[go_sem] theorem dec_len5 : decide (5 ≤ maxLen) = true := decide_eq_true (len_ok (by omega))
@[go_sem] theorem dec_len6 : decide (6 ≤ maxLen) = true := decide_eq_true (len_ok (by omega))
@[go_sem] theorem dec_len7 : decide (7 ≤ maxLen) = true := decide_eq_true (len_ok (by omega))
@[go_sem] theorem dec_len8 : decide (8 ≤ maxLen) = true := decide_eq_true (len_ok (by omega))
@[go_sem] theorem dec_len9 : decide (9 ≤ maxLen) = true := decide_eq_true (len_ok (by omega))
@[go_sem] theorem dec_len10 : decide (10 ≤ maxLen) = true := decide_eq_true (len_ok (by omega))
@[go_sem] theorem dec_len11 : decide (11 ≤ maxLen) = true := decide_eq_true (len_ok (by omega))
@[go_sem] theorem dec_len12 : decide (12 ≤ maxLen) = true := decide_eq_true (len_ok (by omega))
@[go_sem] theorem dec_len13 : decide (13 ≤ maxLen) = true := decide_eq_true (len_ok (by omega))
@[go_sem] theorem dec_len14 : decide (14 ≤ maxLen) = true := decide_eq_true (len_ok (by omega))
@[go_sem] theorem dec_len15 : decide (15 ≤ maxLen) = true := decide_eq_true (len_ok (by omega))
@[go_sem] theorem dec_len16 : decide (16 ≤ maxLen) = true := decide_eq_true (len_ok (by omega))
@[go_sem] theorem dec_len17 : decide (17 ≤ maxLen) = true := decide_eq_true (len_ok (by omega))
@[go_sem] theorem dec_len18 : decide (18 ≤ maxLen) = true := decide_eq_true (len_ok (by omega))
@[go_sem] theorem dec_len19 : decide (19 ≤ maxLen) = true := decide_eq_true (len_ok (by omega))
@[go_sem] theorem dec_len20 : decide (20 ≤ maxLen) = true := decide_eq_true (len_ok (by omega))
@[go_sem] theorem dec_len21 : decide (21 ≤ maxLen) = true := decide_eq_true (len_ok (by omega))
@[go_sem] theorem dec_len22 : decide (22 ≤ maxLen) = true := decide_eq_true (len_ok (by omega))
@[go_sem] theorem dec_len23 : decide (23 ≤ maxLen) = true := decide_eq_true (len_ok (by omega))
@[go_sem] theorem dec_len24 : decide (24 ≤ maxLen) = true := decide_eq_true (len_ok (by omega))
@[go_sem] theorem dec_len25 : decide (25 ≤ maxLen) = true := decide_eq_true (len_ok (by omega))
@[go_sem] theorem dec_len26 : decide (26 ≤ maxLen) = true := decide_eq_true (len_ok (by omega))
@[go_sem] theorem dec_len27 : decide (27 ≤ maxLen) = true := decide_eq_true (len_ok (by omega))
@[go_sem] theorem dec_len28 : decide (28 ≤ maxLen) = true := decide_eq_true (len_ok (by omega))
@[go_sem] theorem dec_len29 : decide (29 ≤ maxLen) = true := decide_eq_true (len_ok (by omega))
@[go_sem] theorem dec_len30 : decide (30 ≤ maxLen) = true := decide_eq_true (len_ok (by omega))
@[go_sem] theorem dec_len31 : decide (31 ≤ maxLen) = true := decide_eq_true (len_ok (by omega))
@[go_sem] theorem dec_len32 : decide (32 ≤ maxLen) = true := decide_eq_true (len_ok (by omega))
@[go_sem] theorem nth_i1 {kd : IntKind} {d a0 : Int} {n : Nat} : nth [.lit (.int kd d)] [[.lit (.int kd a0)]] n = [.lit (.int kd ([a0].getD n d))] := nth_map (fun x => [.lit (.int kd x)]) d [a0] n
@[go_sem] theorem nth_s1 {d a0 : ByteArray} {n : Nat} : nth [.lit (.string d)] [[.lit (.string a0)]] n = [.lit (.string ([a0].getD n d))] := nth_map (fun x => [.lit (.string x)]) d [a0] n
@[go_sem] theorem nth_ii1 {kd ke : IntKind} {d e a0 b0 : Int} {n : Nat} : nth [.lit (.int kd d), .lit (.int ke e)] [[.lit (.int kd a0), .lit (.int ke b0)]] n = [.lit (.int kd ([(a0, b0)].getD n (d, e)).1), .lit (.int ke ([(a0, b0)].getD n (d, e)).2)] := nth_map (fun x : Int × Int => [.lit (.int kd x.1), .lit (.int ke x.2)]) (d, e) [(a0, b0)] n
@[go_sem] theorem nth_i2 {kd : IntKind} {d a0 a1 : Int} {n : Nat} : nth [.lit (.int kd d)] [[.lit (.int kd a0)], [.lit (.int kd a1)]] n = [.lit (.int kd ([a0, a1].getD n d))] := nth_map (fun x => [.lit (.int kd x)]) d [a0, a1] n
@[go_sem] theorem nth_s2 {d a0 a1 : ByteArray} {n : Nat} : nth [.lit (.string d)] [[.lit (.string a0)], [.lit (.string a1)]] n = [.lit (.string ([a0, a1].getD n d))] := nth_map (fun x => [.lit (.string x)]) d [a0, a1] n
@[go_sem] theorem nth_ii2 {kd ke : IntKind} {d e a0 a1 b0 b1 : Int} {n : Nat} : nth [.lit (.int kd d), .lit (.int ke e)] [[.lit (.int kd a0), .lit (.int ke b0)], [.lit (.int kd a1), .lit (.int ke b1)]] n = [.lit (.int kd ([(a0, b0), (a1, b1)].getD n (d, e)).1), .lit (.int ke ([(a0, b0), (a1, b1)].getD n (d, e)).2)] := nth_map (fun x : Int × Int => [.lit (.int kd x.1), .lit (.int ke x.2)]) (d, e) [(a0, b0), (a1, b1)] n
@[go_sem] theorem nth_i3 {kd : IntKind} {d a0 a1 a2 : Int} {n : Nat} : nth [.lit (.int kd d)] [[.lit (.int kd a0)], [.lit (.int kd a1)], [.lit (.int kd a2)]] n = [.lit (.int kd ([a0, a1, a2].getD n d))] := nth_map (fun x => [.lit (.int kd x)]) d [a0, a1, a2] n
@[go_sem] theorem nth_s3 {d a0 a1 a2 : ByteArray} {n : Nat} : nth [.lit (.string d)] [[.lit (.string a0)], [.lit (.string a1)], [.lit (.string a2)]] n = [.lit (.string ([a0, a1, a2].getD n d))] := nth_map (fun x => [.lit (.string x)]) d [a0, a1, a2] n
@[go_sem] theorem nth_ii3 {kd ke : IntKind} {d e a0 a1 a2 b0 b1 b2 : Int} {n : Nat} : nth [.lit (.int kd d), .lit (.int ke e)] [[.lit (.int kd a0), .lit (.int ke b0)], [.lit (.int kd a1), .lit (.int ke b1)], [.lit (.int kd a2), .lit (.int ke b2)]] n = [.lit (.int kd ([(a0, b0), (a1, b1), (a2, b2)].getD n (d, e)).1), .lit (.int ke ([(a0, b0), (a1, b1), (a2, b2)].getD n (d, e)).2)] := nth_map (fun x : Int × Int => [.lit (.int kd x.1), .lit (.int ke x.2)]) (d, e) [(a0, b0), (a1, b1), (a2, b2)] n
@[go_sem] theorem nth_i4 {kd : IntKind} {d a0 a1 a2 a3 : Int} {n : Nat} : nth [.lit (.int kd d)] [[.lit (.int kd a0)], [.lit (.int kd a1)], [.lit (.int kd a2)], [.lit (.int kd a3)]] n = [.lit (.int kd ([a0, a1, a2, a3].getD n d))] := nth_map (fun x => [.lit (.int kd x)]) d [a0, a1, a2, a3] n
@[go_sem] theorem nth_s4 {d a0 a1 a2 a3 : ByteArray} {n : Nat} : nth [.lit (.string d)] [[.lit (.string a0)], [.lit (.string a1)], [.lit (.string a2)], [.lit (.string a3)]] n = [.lit (.string ([a0, a1, a2, a3].getD n d))] := nth_map (fun x => [.lit (.string x)]) d [a0, a1, a2, a3] n
@[go_sem] theorem nth_ii4 {kd ke : IntKind} {d e a0 a1 a2 a3 b0 b1 b2 b3 : Int} {n : Nat} : nth [.lit (.int kd d), .lit (.int ke e)] [[.lit (.int kd a0), .lit (.int ke b0)], [.lit (.int kd a1), .lit (.int ke b1)], [.lit (.int kd a2), .lit (.int ke b2)], [.lit (.int kd a3), .lit (.int ke b3)]] n = [.lit (.int kd ([(a0, b0), (a1, b1), (a2, b2), (a3, b3)].getD n (d, e)).1), .lit (.int ke ([(a0, b0), (a1, b1), (a2, b2), (a3, b3)].getD n (d, e)).2)] := nth_map (fun x : Int × Int => [.lit (.int kd x.1), .lit (.int ke x.2)]) (d, e) [(a0, b0), (a1, b1), (a2, b2), (a3, b3)] n
@[go_sem] theorem nth_i5 {kd : IntKind} {d a0 a1 a2 a3 a4 : Int} {n : Nat} : nth [.lit (.int kd d)] [[.lit (.int kd a0)], [.lit (.int kd a1)], [.lit (.int kd a2)], [.lit (.int kd a3)], [.lit (.int kd a4)]] n = [.lit (.int kd ([a0, a1, a2, a3, a4].getD n d))] := nth_map (fun x => [.lit (.int kd x)]) d [a0, a1, a2, a3, a4] n
@[go_sem] theorem nth_s5 {d a0 a1 a2 a3 a4 : ByteArray} {n : Nat} : nth [.lit (.string d)] [[.lit (.string a0)], [.lit (.string a1)], [.lit (.string a2)], [.lit (.string a3)], [.lit (.string a4)]] n = [.lit (.string ([a0, a1, a2, a3, a4].getD n d))] := nth_map (fun x => [.lit (.string x)]) d [a0, a1, a2, a3, a4] n
@[go_sem] theorem nth_ii5 {kd ke : IntKind} {d e a0 a1 a2 a3 a4 b0 b1 b2 b3 b4 : Int} {n : Nat} : nth [.lit (.int kd d), .lit (.int ke e)] [[.lit (.int kd a0), .lit (.int ke b0)], [.lit (.int kd a1), .lit (.int ke b1)], [.lit (.int kd a2), .lit (.int ke b2)], [.lit (.int kd a3), .lit (.int ke b3)], [.lit (.int kd a4), .lit (.int ke b4)]] n = [.lit (.int kd ([(a0, b0), (a1, b1), (a2, b2), (a3, b3), (a4, b4)].getD n (d, e)).1), .lit (.int ke ([(a0, b0), (a1, b1), (a2, b2), (a3, b3), (a4, b4)].getD n (d, e)).2)] := nth_map (fun x : Int × Int => [.lit (.int kd x.1), .lit (.int ke x.2)]) (d, e) [(a0, b0), (a1, b1), (a2, b2), (a3, b3), (a4, b4)] n
@[go_sem] theorem nth_i6 {kd : IntKind} {d a0 a1 a2 a3 a4 a5 : Int} {n : Nat} : nth [.lit (.int kd d)] [[.lit (.int kd a0)], [.lit (.int kd a1)], [.lit (.int kd a2)], [.lit (.int kd a3)], [.lit (.int kd a4)], [.lit (.int kd a5)]] n = [.lit (.int kd ([a0, a1, a2, a3, a4, a5].getD n d))] := nth_map (fun x => [.lit (.int kd x)]) d [a0, a1, a2, a3, a4, a5] n
@[go_sem] theorem nth_s6 {d a0 a1 a2 a3 a4 a5 : ByteArray} {n : Nat} : nth [.lit (.string d)] [[.lit (.string a0)], [.lit (.string a1)], [.lit (.string a2)], [.lit (.string a3)], [.lit (.string a4)], [.lit (.string a5)]] n = [.lit (.string ([a0, a1, a2, a3, a4, a5].getD n d))] := nth_map (fun x => [.lit (.string x)]) d [a0, a1, a2, a3, a4, a5] n
@[go_sem] theorem nth_ii6 {kd ke : IntKind} {d e a0 a1 a2 a3 a4 a5 b0 b1 b2 b3 b4 b5 : Int} {n : Nat} : nth [.lit (.int kd d), .lit (.int ke e)] [[.lit (.int kd a0), .lit (.int ke b0)], [.lit (.int kd a1), .lit (.int ke b1)], [.lit (.int kd a2), .lit (.int ke b2)], [.lit (.int kd a3), .lit (.int ke b3)], [.lit (.int kd a4), .lit (.int ke b4)], [.lit (.int kd a5), .lit (.int ke b5)]] n = [.lit (.int kd ([(a0, b0), (a1, b1), (a2, b2), (a3, b3), (a4, b4), (a5, b5)].getD n (d, e)).1), .lit (.int ke ([(a0, b0), (a1, b1), (a2, b2), (a3, b3), (a4, b4), (a5, b5)].getD n (d, e)).2)] := nth_map (fun x : Int × Int => [.lit (.int kd x.1), .lit (.int ke x.2)]) (d, e) [(a0, b0), (a1, b1), (a2, b2), (a3, b3), (a4, b4), (a5, b5)] n
@[go_sem] theorem nth_i7 {kd : IntKind} {d a0 a1 a2 a3 a4 a5 a6 : Int} {n : Nat} : nth [.lit (.int kd d)] [[.lit (.int kd a0)], [.lit (.int kd a1)], [.lit (.int kd a2)], [.lit (.int kd a3)], [.lit (.int kd a4)], [.lit (.int kd a5)], [.lit (.int kd a6)]] n = [.lit (.int kd ([a0, a1, a2, a3, a4, a5, a6].getD n d))] := nth_map (fun x => [.lit (.int kd x)]) d [a0, a1, a2, a3, a4, a5, a6] n
@[go_sem] theorem nth_s7 {d a0 a1 a2 a3 a4 a5 a6 : ByteArray} {n : Nat} : nth [.lit (.string d)] [[.lit (.string a0)], [.lit (.string a1)], [.lit (.string a2)], [.lit (.string a3)], [.lit (.string a4)], [.lit (.string a5)], [.lit (.string a6)]] n = [.lit (.string ([a0, a1, a2, a3, a4, a5, a6].getD n d))] := nth_map (fun x => [.lit (.string x)]) d [a0, a1, a2, a3, a4, a5, a6] n
@[go_sem] theorem nth_ii7 {kd ke : IntKind} {d e a0 a1 a2 a3 a4 a5 a6 b0 b1 b2 b3 b4 b5 b6 : Int} {n : Nat} : nth [.lit (.int kd d), .lit (.int ke e)] [[.lit (.int kd a0), .lit (.int ke b0)], [.lit (.int kd a1), .lit (.int ke b1)], [.lit (.int kd a2), .lit (.int ke b2)], [.lit (.int kd a3), .lit (.int ke b3)], [.lit (.int kd a4), .lit (.int ke b4)], [.lit (.int kd a5), .lit (.int ke b5)], [.lit (.int kd a6), .lit (.int ke b6)]] n = [.lit (.int kd ([(a0, b0), (a1, b1), (a2, b2), (a3, b3), (a4, b4), (a5, b5), (a6, b6)].getD n (d, e)).1), .lit (.int ke ([(a0, b0), (a1, b1), (a2, b2), (a3, b3), (a4, b4), (a5, b5), (a6, b6)].getD n (d, e)).2)] := nth_map (fun x : Int × Int => [.lit (.int kd x.1), .lit (.int ke x.2)]) (d, e) [(a0, b0), (a1, b1), (a2, b2), (a3, b3), (a4, b4), (a5, b5), (a6, b6)] n
@[go_sem] theorem nth_i8 {kd : IntKind} {d a0 a1 a2 a3 a4 a5 a6 a7 : Int} {n : Nat} : nth [.lit (.int kd d)] [[.lit (.int kd a0)], [.lit (.int kd a1)], [.lit (.int kd a2)], [.lit (.int kd a3)], [.lit (.int kd a4)], [.lit (.int kd a5)], [.lit (.int kd a6)], [.lit (.int kd a7)]] n = [.lit (.int kd ([a0, a1, a2, a3, a4, a5, a6, a7].getD n d))] := nth_map (fun x => [.lit (.int kd x)]) d [a0, a1, a2, a3, a4, a5, a6, a7] n
@[go_sem] theorem nth_s8 {d a0 a1 a2 a3 a4 a5 a6 a7 : ByteArray} {n : Nat} : nth [.lit (.string d)] [[.lit (.string a0)], [.lit (.string a1)], [.lit (.string a2)], [.lit (.string a3)], [.lit (.string a4)], [.lit (.string a5)], [.lit (.string a6)], [.lit (.string a7)]] n = [.lit (.string ([a0, a1, a2, a3, a4, a5, a6, a7].getD n d))] := nth_map (fun x => [.lit (.string x)]) d [a0, a1, a2, a3, a4, a5, a6, a7] n
@[go_sem] theorem nth_ii8 {kd ke : IntKind} {d e a0 a1 a2 a3 a4 a5 a6 a7 b0 b1 b2 b3 b4 b5 b6 b7 : Int} {n : Nat} : nth [.lit (.int kd d), .lit (.int ke e)] [[.lit (.int kd a0), .lit (.int ke b0)], [.lit (.int kd a1), .lit (.int ke b1)], [.lit (.int kd a2), .lit (.int ke b2)], [.lit (.int kd a3), .lit (.int ke b3)], [.lit (.int kd a4), .lit (.int ke b4)], [.lit (.int kd a5), .lit (.int ke b5)], [.lit (.int kd a6), .lit (.int ke b6)], [.lit (.int kd a7), .lit (.int ke b7)]] n = [.lit (.int kd ([(a0, b0), (a1, b1), (a2, b2), (a3, b3), (a4, b4), (a5, b5), (a6, b6), (a7, b7)].getD n (d, e)).1), .lit (.int ke ([(a0, b0), (a1, b1), (a2, b2), (a3, b3), (a4, b4), (a5, b5), (a6, b6), (a7, b7)].getD n (d, e)).2)] := nth_map (fun x : Int × Int => [.lit (.int kd x.1), .lit (.int ke x.2)]) (d, e) [(a0, b0), (a1, b1), (a2, b2), (a3, b3), (a4, b4), (a5, b5), (a6, b6), (a7, b7)] n
@[go_sem] theorem nth_i9 {kd : IntKind} {d a0 a1 a2 a3 a4 a5 a6 a7 a8 : Int} {n : Nat} : nth [.lit (.int kd d)] [[.lit (.int kd a0)], [.lit (.int kd a1)], [.lit (.int kd a2)], [.lit (.int kd a3)], [.lit (.int kd a4)], [.lit (.int kd a5)], [.lit (.int kd a6)], [.lit (.int kd a7)], [.lit (.int kd a8)]] n = [.lit (.int kd ([a0, a1, a2, a3, a4, a5, a6, a7, a8].getD n d))] := nth_map (fun x => [.lit (.int kd x)]) d [a0, a1, a2, a3, a4, a5, a6, a7, a8] n
@[go_sem] theorem nth_s9 {d a0 a1 a2 a3 a4 a5 a6 a7 a8 : ByteArray} {n : Nat} : nth [.lit (.string d)] [[.lit (.string a0)], [.lit (.string a1)], [.lit (.string a2)], [.lit (.string a3)], [.lit (.string a4)], [.lit (.string a5)], [.lit (.string a6)], [.lit (.string a7)], [.lit (.string a8)]] n = [.lit (.string ([a0, a1, a2, a3, a4, a5, a6, a7, a8].getD n d))] := nth_map (fun x => [.lit (.string x)]) d [a0, a1, a2, a3, a4, a5, a6, a7, a8] n
@[go_sem] theorem nth_ii9 {kd ke : IntKind} {d e a0 a1 a2 a3 a4 a5 a6 a7 a8 b0 b1 b2 b3 b4 b5 b6 b7 b8 : Int} {n : Nat} : nth [.lit (.int kd d), .lit (.int ke e)] [[.lit (.int kd a0), .lit (.int ke b0)], [.lit (.int kd a1), .lit (.int ke b1)], [.lit (.int kd a2), .lit (.int ke b2)], [.lit (.int kd a3), .lit (.int ke b3)], [.lit (.int kd a4), .lit (.int ke b4)], [.lit (.int kd a5), .lit (.int ke b5)], [.lit (.int kd a6), .lit (.int ke b6)], [.lit (.int kd a7), .lit (.int ke b7)], [.lit (.int kd a8), .lit (.int ke b8)]] n = [.lit (.int kd ([(a0, b0), (a1, b1), (a2, b2), (a3, b3), (a4, b4), (a5, b5), (a6, b6), (a7, b7), (a8, b8)].getD n (d, e)).1), .lit (.int ke ([(a0, b0), (a1, b1), (a2, b2), (a3, b3), (a4, b4), (a5, b5), (a6, b6), (a7, b7), (a8, b8)].getD n (d, e)).2)] := nth_map (fun x : Int × Int => [.lit (.int kd x.1), .lit (.int ke x.2)]) (d, e) [(a0, b0), (a1, b1), (a2, b2), (a3, b3), (a4, b4), (a5, b5), (a6, b6), (a7, b7), (a8, b8)] n
@[go_sem] theorem nth_i10 {kd : IntKind} {d a0 a1 a2 a3 a4 a5 a6 a7 a8 a9 : Int} {n : Nat} : nth [.lit (.int kd d)] [[.lit (.int kd a0)], [.lit (.int kd a1)], [.lit (.int kd a2)], [.lit (.int kd a3)], [.lit (.int kd a4)], [.lit (.int kd a5)], [.lit (.int kd a6)], [.lit (.int kd a7)], [.lit (.int kd a8)], [.lit (.int kd a9)]] n = [.lit (.int kd ([a0, a1, a2, a3, a4, a5, a6, a7, a8, a9].getD n d))] := nth_map (fun x => [.lit (.int kd x)]) d [a0, a1, a2, a3, a4, a5, a6, a7, a8, a9] n
@[go_sem] theorem nth_s10 {d a0 a1 a2 a3 a4 a5 a6 a7 a8 a9 : ByteArray} {n : Nat} : nth [.lit (.string d)] [[.lit (.string a0)], [.lit (.string a1)], [.lit (.string a2)], [.lit (.string a3)], [.lit (.string a4)], [.lit (.string a5)], [.lit (.string a6)], [.lit (.string a7)], [.lit (.string a8)], [.lit (.string a9)]] n = [.lit (.string ([a0, a1, a2, a3, a4, a5, a6, a7, a8, a9].getD n d))] := nth_map (fun x => [.lit (.string x)]) d [a0, a1, a2, a3, a4, a5, a6, a7, a8, a9] n
@[go_sem] theorem nth_ii10 {kd ke : IntKind} {d e a0 a1 a2 a3 a4 a5 a6 a7 a8 a9 b0 b1 b2 b3 b4 b5 b6 b7 b8 b9 : Int} {n : Nat} : nth [.lit (.int kd d), .lit (.int ke e)] [[.lit (.int kd a0), .lit (.int ke b0)], [.lit (.int kd a1), .lit (.int ke b1)], [.lit (.int kd a2), .lit (.int ke b2)], [.lit (.int kd a3), .lit (.int ke b3)], [.lit (.int kd a4), .lit (.int ke b4)], [.lit (.int kd a5), .lit (.int ke b5)], [.lit (.int kd a6), .lit (.int ke b6)], [.lit (.int kd a7), .lit (.int ke b7)], [.lit (.int kd a8), .lit (.int ke b8)], [.lit (.int kd a9), .lit (.int ke b9)]] n = [.lit (.int kd ([(a0, b0), (a1, b1), (a2, b2), (a3, b3), (a4, b4), (a5, b5), (a6, b6), (a7, b7), (a8, b8), (a9, b9)].getD n (d, e)).1), .lit (.int ke ([(a0, b0), (a1, b1), (a2, b2), (a3, b3), (a4, b4), (a5, b5), (a6, b6), (a7, b7), (a8, b8), (a9, b9)].getD n (d, e)).2)] := nth_map (fun x : Int × Int => [.lit (.int kd x.1), .lit (.int ke x.2)]) (d, e) [(a0, b0), (a1, b1), (a2, b2), (a3, b3), (a4, b4), (a5, b5), (a6, b6), (a7, b7), (a8, b8), (a9, b9)] n
@[go_sem] theorem nth_i11 {kd : IntKind} {d a0 a1 a2 a3 a4 a5 a6 a7 a8 a9 a10 : Int} {n : Nat} : nth [.lit (.int kd d)] [[.lit (.int kd a0)], [.lit (.int kd a1)], [.lit (.int kd a2)], [.lit (.int kd a3)], [.lit (.int kd a4)], [.lit (.int kd a5)], [.lit (.int kd a6)], [.lit (.int kd a7)], [.lit (.int kd a8)], [.lit (.int kd a9)], [.lit (.int kd a10)]] n = [.lit (.int kd ([a0, a1, a2, a3, a4, a5, a6, a7, a8, a9, a10].getD n d))] := nth_map (fun x => [.lit (.int kd x)]) d [a0, a1, a2, a3, a4, a5, a6, a7, a8, a9, a10] n
@[go_sem] theorem nth_s11 {d a0 a1 a2 a3 a4 a5 a6 a7 a8 a9 a10 : ByteArray} {n : Nat} : nth [.lit (.string d)] [[.lit (.string a0)], [.lit (.string a1)], [.lit (.string a2)], [.lit (.string a3)], [.lit (.string a4)], [.lit (.string a5)], [.lit (.string a6)], [.lit (.string a7)], [.lit (.string a8)], [.lit (.string a9)], [.lit (.string a10)]] n = [.lit (.string ([a0, a1, a2, a3, a4, a5, a6, a7, a8, a9, a10].getD n d))] := nth_map (fun x => [.lit (.string x)]) d [a0, a1, a2, a3, a4, a5, a6, a7, a8, a9, a10] n
@[go_sem] theorem nth_ii11 {kd ke : IntKind} {d e a0 a1 a2 a3 a4 a5 a6 a7 a8 a9 a10 b0 b1 b2 b3 b4 b5 b6 b7 b8 b9 b10 : Int} {n : Nat} : nth [.lit (.int kd d), .lit (.int ke e)] [[.lit (.int kd a0), .lit (.int ke b0)], [.lit (.int kd a1), .lit (.int ke b1)], [.lit (.int kd a2), .lit (.int ke b2)], [.lit (.int kd a3), .lit (.int ke b3)], [.lit (.int kd a4), .lit (.int ke b4)], [.lit (.int kd a5), .lit (.int ke b5)], [.lit (.int kd a6), .lit (.int ke b6)], [.lit (.int kd a7), .lit (.int ke b7)], [.lit (.int kd a8), .lit (.int ke b8)], [.lit (.int kd a9), .lit (.int ke b9)], [.lit (.int kd a10), .lit (.int ke b10)]] n = [.lit (.int kd ([(a0, b0), (a1, b1), (a2, b2), (a3, b3), (a4, b4), (a5, b5), (a6, b6), (a7, b7), (a8, b8), (a9, b9), (a10, b10)].getD n (d, e)).1), .lit (.int ke ([(a0, b0), (a1, b1), (a2, b2), (a3, b3), (a4, b4), (a5, b5), (a6, b6), (a7, b7), (a8, b8), (a9, b9), (a10, b10)].getD n (d, e)).2)] := nth_map (fun x : Int × Int => [.lit (.int kd x.1), .lit (.int ke x.2)]) (d, e) [(a0, b0), (a1, b1), (a2, b2), (a3, b3), (a4, b4), (a5, b5), (a6, b6), (a7, b7), (a8, b8), (a9, b9), (a10, b10)] n
@[go_sem] theorem nth_i12 {kd : IntKind} {d a0 a1 a2 a3 a4 a5 a6 a7 a8 a9 a10 a11 : Int} {n : Nat} : nth [.lit (.int kd d)] [[.lit (.int kd a0)], [.lit (.int kd a1)], [.lit (.int kd a2)], [.lit (.int kd a3)], [.lit (.int kd a4)], [.lit (.int kd a5)], [.lit (.int kd a6)], [.lit (.int kd a7)], [.lit (.int kd a8)], [.lit (.int kd a9)], [.lit (.int kd a10)], [.lit (.int kd a11)]] n = [.lit (.int kd ([a0, a1, a2, a3, a4, a5, a6, a7, a8, a9, a10, a11].getD n d))] := nth_map (fun x => [.lit (.int kd x)]) d [a0, a1, a2, a3, a4, a5, a6, a7, a8, a9, a10, a11] n
@[go_sem] theorem nth_s12 {d a0 a1 a2 a3 a4 a5 a6 a7 a8 a9 a10 a11 : ByteArray} {n : Nat} : nth [.lit (.string d)] [[.lit (.string a0)], [.lit (.string a1)], [.lit (.string a2)], [.lit (.string a3)], [.lit (.string a4)], [.lit (.string a5)], [.lit (.string a6)], [.lit (.string a7)], [.lit (.string a8)], [.lit (.string a9)], [.lit (.string a10)], [.lit (.string a11)]] n = [.lit (.string ([a0, a1, a2, a3, a4, a5, a6, a7, a8, a9, a10, a11].getD n d))] := nth_map (fun x => [.lit (.string x)]) d [a0, a1, a2, a3, a4, a5, a6, a7, a8, a9, a10, a11] n
@[go_sem] theorem nth_ii12 {kd ke : IntKind} {d e a0 a1 a2 a3 a4 a5 a6 a7 a8 a9 a10 a11 b0 b1 b2 b3 b4 b5 b6 b7 b8 b9 b10 b11 : Int} {n : Nat} : nth [.lit (.int kd d), .lit (.int ke e)] [[.lit (.int kd a0), .lit (.int ke b0)], [.lit (.int kd a1), .lit (.int ke b1)], [.lit (.int kd a2), .lit (.int ke b2)], [.lit (.int kd a3), .lit (.int ke b3)], [.lit (.int kd a4), .lit (.int ke b4)], [.lit (.int kd a5), .lit (.int ke b5)], [.lit (.int kd a6), .lit (.int ke b6)], [.lit (.int kd a7), .lit (.int ke b7)], [.lit (.int kd a8), .lit (.int ke b8)], [.lit (.int kd a9), .lit (.int ke b9)], [.lit (.int kd a10), .lit (.int ke b10)], [.lit (.int kd a11), .lit (.int ke b11)]] n = [.lit (.int kd ([(a0, b0), (a1, b1), (a2, b2), (a3, b3), (a4, b4), (a5, b5), (a6, b6), (a7, b7), (a8, b8), (a9, b9), (a10, b10), (a11, b11)].getD n (d, e)).1), .lit (.int ke ([(a0, b0), (a1, b1), (a2, b2), (a3, b3), (a4, b4), (a5, b5), (a6, b6), (a7, b7), (a8, b8), (a9, b9), (a10, b10), (a11, b11)].getD n (d, e)).2)] := nth_map (fun x : Int × Int => [.lit (.int kd x.1), .lit (.int ke x.2)]) (d, e) [(a0, b0), (a1, b1), (a2, b2), (a3, b3), (a4, b4), (a5, b5), (a6, b6), (a7, b7), (a8, b8), (a9, b9), (a10, b10), (a11, b11)] n
end Go.Proofs.YtkppmlignfhdeaaGreat
/- Proved here: Calls on the abstract machine that return a pointer to a new variable, for use in the proofs of the given statements; conditions stand in each theorem. -/
set_option linter.unusedSimpArgs false
set_option linter.unusedVariables false
namespace Go.Proofs.YtkppmlignfhdeaaGreat
open Go.RowKit

/-- the call yields a pair: what reads as r, and a pointer to a new variable that holds cs -/
def CMk (P : Program) (f : FuncId) (args : List V) (r : V) (cs : List V) : Prop :=
  P.enters f = true ∧ ∀ (w : World) (S : Nat → Prop) (vs : List Value), (∀ x, S x → x < w.heap.size) → RdVs w (bareE S) args vs →
    Calls P f vs.toArray w fun e w' => ∃ v0 b S' ty cells, e = .returned (.tuple #[v0, .pointer (some ⟨b, 0, none⟩)]) ∧ w.heap.size ≤ b ∧ (∀ x, S x → S' x) ∧ (∀ x, S' x → S x ∨ w.heap.size ≤ x) ∧
      (∀ x, S' x → x < w'.heap.size) ∧ RdV w' (bareE S') r v0 ∧ w'.heap[b]? = some (.cells cells ty (0, 0)) ∧ RdVs w' (bareE S') cs cells.toList ∧ cells.toList.all (·.oneCell') = true ∧ Below w.heap.size w w' ∧ ¬ S' b
theorem icall_mk {P : Program} {σ : St} {d : Option Tmp} {f : FuncId} {args : List V} {r : V} {cs : List V} {K : St → Prop} (hc : CMk P f args r cs) (ha : V.pures args = true)
    (hK : K (({ σ with h := (σ.nx, .box cs) :: σ.h, nx := σ.nx + 1 } : St).put d (.tup [r, .own σ.nx]))) : ICall P σ d f args K := by
  refine icall_intro hc.1 (fun E w vs hr hbd hargs => (hc.2 w E.S vs hr.slt (RdVs.bare args ha hargs)).mono ?_)
  rintro e w' ⟨v0, b, S', ty, cells, rfl, s0, s1, s2, s3, hrv, hh, hcs, hones, hb, hSb⟩
  have hrF : RelF E { σ with fr := [], df := roDf E } { tmps := #[], defers := [] } w := ⟨hr, hbd, by show RdVs w E [] []; simp only [RdVs], roDf_ok⟩
  obtain ⟨k1, k2, k3⟩ := hrF.add (hv := .pointer (some ⟨b, 0, none⟩)) (blk := .box cs) (S' := S') hb s1 s2 s3 (fun hE => ⟨b, cells, ty, rfl, hh, RdVs.unbare (E := ({ E with S := S' } : Env).add σ.nx (.pointer (some ⟨b, 0, none⟩))) cs hcs, hones⟩)
    (fun b' hb' => by
      simp only [blockOf, Option.some.injEq] at hb'
      subst hb'
      exact ⟨s0, (Array.getElem?_eq_some_iff.1 hh).1, hSb⟩) rfl rfl
  refine ⟨_, .tup [r, .own σ.nx], _, σ.nx + 1, _, rfl, k1.rel, k1.bound, k2, ?_, hK⟩
  simp only [RdV]
  refine ⟨_, rfl, ?_⟩
  simp only [RdVs, and_true]
  exact ⟨RdV.unbare (E := ({ E with S := S' } : Env).add σ.nx (.pointer (some ⟨b, 0, none⟩))) r hrv, by simpa only [RdV] using k3⟩
def mkK (r : V) (cs' : List V) (x : V) (σ : St) : Prop :=
  match x with
  | .tup [y, .own i] => y.lend (σ.h.del i) = r ∧ r.pure = true ∧ boxK1 (σ.h.look i) (σ.h.del i) cs'
  | _ => False
theorem two_list {w : World} {E : Env} {a b : V} {vs : Array Value} (h : RdVs w E [a, b] vs.toList) : ∃ x y, vs = #[x, y] ∧ RdV w E a x ∧ RdV w E b y := by
  obtain ⟨l⟩ := vs
  rcases l with _ | ⟨x, _ | ⟨y, _ | ⟨z, l⟩⟩⟩ <;> simp only [RdVs, and_false, and_true] at h
  exact ⟨x, y, rfl, h⟩
theorem cmk_of {P : Program} {f : FuncId} {fn : Func} {c : Code} {args cs' : List V} {r : V} {n : Nat} {rs : List ResultVar} (he : P.enters f = true) (hf : P.funcs[f]? = some fn) (hb : fn.body = some c) (hn : fn.ntmps = n) (hrs : fn.results.toList = rs)
    (h : AWP P 0 c (retI P rs (mkK r cs')) (entry P n args [] 0)) : CMk P f args r cs' := by
  refine ⟨he, fun w S vs hS hargs => ?_⟩
  let E0 : Env := ⟨S, fun _ => none, fun _ => False, fun x => x < w.heap.size, fun _ => none, none⟩
  have hrel : Rel w E0 [] := ⟨fun i blk hl => by simp [Heap.look] at hl, fun i hv hB => by simp [E0] at hB, fun i hv hF => by simp [E0] at hF, fun i hv b' hB hbk => by simp [E0] at hB, fun i j hi hj b' hBi hBj _ _ => by simp [E0] at hBi, hS, fun x hx => hx⟩
  refine calls_of_awp hf hb hn hrs h hrel (fun i hi => hi.elim) (fun i hi => hi.elim) (vs := vs) (RdVs.unbare (E := E0) args hargs) ?_
  intro v x σ' E' w' h1 hbd' h2 h3 hK
  unfold mkK at hK
  split at hK
  · rename_i y i
    obtain ⟨k1, k2, k3⟩ := hK
    simp only [RdV] at h3
    obtain ⟨us, rfl, h3⟩ := h3
    obtain ⟨v0, v1, rfl, h4, h5⟩ := two_list h3
    unfold boxK1 at k3
    split at k3
    · rename_i cs2 hl
      obtain ⟨k4, k5⟩ := k3
      obtain ⟨b', cells', ty', hB, hh', hcs', hones'⟩ := box_at h1 hl
      simp only [RdV] at h5
      rw [h5.2.2 _ (.inl hB)]
      have q := h1.own i _ b' hB rfl
      have hbs : w.heap.size ≤ b' := Nat.le_of_not_lt fun hlt => q.2.2 ((h2.D b').2 hlt)
      obtain ⟨d1, d2⟩ := h1.drop hbd' i
      refine ⟨v0, b', lentS (E'.drop i) (σ'.h.del i), ty', cells', rfl, hbs, fun x hx => .inl (h2.S x hx), fun x hx => ?_, fun x hx => ?_, ?_, hh', ?_, hones', ⟨h2.os, h2.tape, h2.output, h2.size, fun k hk => h2.keep k (.inr hk)⟩, fun hsb => ?_⟩
      · rcases hx with hx | ⟨j, hv', _, hB', _, _, hbk⟩
        · rcases h2.S' x hx with q | q
          · exact .inl q
          · exact .inr (Nat.le_of_not_lt fun hlt => q hlt)
        · have q := (h1.own j hv' x (drop_B hB').2 hbk).2.2
          exact .inr (Nat.le_of_not_lt fun hlt => q ((h2.D x).2 hlt))
      · rcases hx with hx | ⟨j, hv', _, hB', _, _, hbk⟩
        · exact h1.slt x hx
        · exact (h1.own j hv' x (drop_B hB').2 hbk).1
      · have := RdV.lend d1 y (by rw [k1]; exact k2) (d2.rdV _ h4)
        rw [k1] at this
        exact this
      · have := RdVs.lend d1 cs2 (by rw [k4]; exact k5) (d2.rdVs _ hcs')
        rw [k4] at this
        exact this
      · rcases hsb with hx | ⟨j, hv', _, hB', _, _, hbk⟩
        · exact q.2.1 hx
        · obtain ⟨hne0, hB''⟩ := drop_B hB'
          exact hne0 (h1.apart j i hv' _ b' hB'' hB hbk rfl)
    · exact k3.elim
  · exact hK.elim
attribute [go_sem] mkK
end Go.Proofs.YtkppmlignfhdeaaGreat
/- Proved here: Small helps for walks in the abstract machine, for use in the proofs of the given statements; conditions stand in each theorem. -/
set_option linter.unusedSimpArgs false
set_option linter.unusedVariables false
namespace Go.Proofs.YtkppmlignfhdeaaGreat
open Go.RowKit
/-- every block stays what it is -/
@[go_sem] def idRen : Heap → Ren
  | [] => []
  | (i, _) :: r => (i, some i) :: idRen r
theorem weak_self {n0 : Nat} {σ σ' : St} (hok : wkOk n0 (idRen σ'.h) σ σ') : Weak n0 σ σ' := weak_of _ hok
/-- handles of blocks that are gone are dropped -/
def cleanO (b : Option Blk) (x : V) : V :=
  match b with
  | some _ => x
  | none => .dead
mutual
def cleanV (h : Heap) : V → V
  | .own i => cleanO (h.look i) (.own i)
  | .ptr i o => cleanO (h.look i) (.ptr i o)
  | .rptr i k n j => cleanO (h.look i) (.rptr i k n j)
  | .agg cs => .agg (cleanVs h cs)
  | .tup cs => .tup (cleanVs h cs)
  | .cond g x => .cond g (cleanV h x)
  | .clo f cs => .clo f (cleanVs h cs)
  | .t x => .t x
  | .elem k d xs i j => .elem k d xs i j
  | .dead => .dead
def cleanVs (h : Heap) : List V → List V
  | [] => []
  | x :: xs => cleanV h x :: cleanVs h xs
end
def cleanS (σ : St) : St := { σ with fr := cleanVs σ.h σ.fr }
/-- slots that are not looked at again -/
def deadS : List Nat → St → St
  | [], σ => σ
  | i :: r, σ => deadS r (setS i .dead σ)
attribute [go_sem] deadS cleanO cleanV cleanVs cleanS
end Go.Proofs.YtkppmlignfhdeaaGreat
/- Proved here: A call that takes and gives blocks of the caller's own, as a step of the abstract machine, for use in the proofs of the given statements; conditions stand in each theorem. -/
set_option linter.unusedSimpArgs false
set_option linter.unusedVariables false
namespace Go.Proofs.YtkppmlignfhdeaaGreat
open Go.RowKit

def posG : List Nat → Nat → Nat → Option Nat
  | [], _, _ => none
  | a :: r, i, k => if i = a then some k else posG r i (k + 1)
def numG (is : List Nat) (nx j : Nat) : Nat :=
  match is[j]? with
  | some i => i
  | none => nx + (j - is.length)
def outNew (m : Nat) (g : Nat → Nat) : Heap → Heap
  | [] => []
  | (j, b) :: r => if j < m then outNew m g r else (g j, b.ren g) :: outNew m g r
def outB1 (i : Nat) (g : Nat → Nat) (b : Option Blk) (r : Heap) : Heap :=
  match b with
  | some b => (i, b.ren g) :: r
  | none => r
def outP (i : Nat) (old : Blk) (g : Nat → Nat) (h' : Heap) (p : Option Nat) (r : Heap) : Heap :=
  match p with
  | some j => outB1 i g (h'.look j) r
  | none => (i, old) :: r
def outOld (is : List Nat) (g : Nat → Nat) (h' : Heap) : Heap → Heap
  | [] => []
  | (i, b) :: r => outP i b g h' (posG is i 0) (outOld is g h' r)
def inH (m : Nat) (g : Nat → Nat) (H : Heap) : Heap → Prop
  | [] => True
  | (j, b) :: r => (j < m ∧ lowL m b.ment = true ∧ H.look (g j) = some (b.ren g)) ∧ inH m g H r
def allB (m : Nat) (h : Heap) : Bool := (List.range m).all fun j => (h.look j).isSome
def keysB (n : Nat) (h : Heap) : Bool := h.all fun p => decide (p.1 < n)
theorem look_app (i : Nat) : ∀ (a b : Heap), Heap.look (a ++ b) i = match Heap.look a i with | some x => some x | none => Heap.look b i
  | [], b => rfl
  | (j, x) :: r, b => by
    simp only [List.cons_append, Heap.look]
    split
    · rfl
    · exact look_app i r b
theorem posG_none : ∀ {is : List Nat} {i k : Nat}, i ∉ is → posG is i k = none
  | [], _, _, _ => rfl
  | a :: r, i, k, h => by
    simp only [List.mem_cons, not_or] at h
    rw [posG, if_neg h.1, posG_none h.2]
theorem posG_at : ∀ {is : List Nat} {j k : Nat} (h : j < is.length), is.Nodup → posG is is[j] k = some (k + j)
  | a :: r, 0, k, h, _ => by simp [posG]
  | a :: r, j + 1, k, h, hn => by
    rw [List.nodup_cons] at hn
    simp only [List.getElem_cons_succ, posG]
    rw [if_neg (fun e => hn.1 (by rw [← e]; exact List.getElem_mem _)), posG_at (by simpa using h) hn.2]
    congr 1; omega
section
variable {m n' : Nat} {g : Nat → Nat} (hinj : ∀ i j, i < n' → j < n' → g i = g j → i = j)
include hinj
theorem outNew_at {j : Nat} (hj : j < n') : ∀ {h : Heap}, keysB n' h = true → (outNew m g h).look (g j) = if j < m then none else (h.look j).map (Blk.ren g)
  | [], _ => by simp [outNew, Heap.look]
  | (k, b) :: r, hk => by
    simp only [keysB, List.all_cons, Bool.and_eq_true, decide_eq_true_eq] at hk
    have ih := outNew_at hj (h := r) (by simpa [keysB] using hk.2)
    unfold outNew
    by_cases hkm : k < m
    · rw [if_pos hkm, ih]
      split
      · rfl
      · rename_i hjm
        rw [Heap.look, if_neg (by omega)]
    · rw [if_neg hkm, Heap.look]
      by_cases hjk : j = k
      · subst hjk
        rw [if_pos rfl, if_neg hkm, Heap.look, if_pos rfl]; rfl
      · rw [if_neg (fun e => hjk (hinj _ _ hj hk.1 e)), ih, Heap.look, if_neg hjk]
end
theorem outNew_out {m n' : Nat} {g : Nat → Nat} {i : Nat} (hi : ∀ j, j < n' → g j ≠ i) : ∀ {h : Heap}, keysB n' h = true → (outNew m g h).look i = none
  | [], _ => rfl
  | (k, b) :: r, hk => by
    simp only [keysB, List.all_cons, Bool.and_eq_true, decide_eq_true_eq] at hk
    have ih := outNew_out hi (m := m) (h := r) (by simpa [keysB] using hk.2)
    unfold outNew
    split
    · exact ih
    · rw [Heap.look, if_neg (fun e => hi k hk.1 e.symm), ih]
theorem outOld_at {is : List Nat} {g : Nat → Nat} {h' : Heap} {i : Nat} : ∀ {H : Heap}, (outOld is g h' H).look i = match posG is i 0 with | some j => (match H.look i with | some _ => (h'.look j).map (Blk.ren g) | none => none) | none => H.look i
  | [] => by
    simp only [outOld, Heap.look]
    split <;> rfl
  | (k, b) :: r => by
    have ih := outOld_at (is := is) (g := g) (h' := h') (i := i) (H := r)
    unfold outOld outP
    by_cases hik : i = k
    · subst hik
      cases hp : posG is i 0 with
      | none => simp only [Heap.look, if_true]
      | some j =>
        simp only [Heap.look, if_true]
        rw [hp] at ih
        simp only at ih
        unfold outB1
        cases hl : Heap.look h' j with
        | none => simp only [Option.map_none]; rw [ih, hl]; split <;> rfl
        | some b' => simp only [Heap.look, if_true, Option.map_some]
    · have hne : ∀ r', (match posG is k 0 with | some j => outB1 k g (Heap.look h' j) r' | none => (k, b) :: r').look i = Heap.look r' i := fun r' => by
        cases posG is k 0 with
        | none => simp only [Heap.look, if_neg hik]
        | some j =>
          simp only [outB1]
          cases Heap.look h' j with
          | none => rfl
          | some b' => simp only [Heap.look, if_neg hik]
      rw [hne, ih]
      simp only [Heap.look, if_neg hik]
theorem inH_inv {m : Nat} {g : Nat → Nat} {H : Heap} : ∀ {h : Heap}, inH m g H h → ∀ j blk, h.look j = some blk → j < m ∧ lowL m blk.ment = true ∧ H.look (g j) = some (blk.ren g)
  | [], _, j, blk, hl => by simp [Heap.look] at hl
  | (k, b) :: r, hi, j, blk, hl => by
    rw [Heap.look] at hl
    split at hl
    · rename_i e; subst e
      injection hl with hl; subst hl
      exact hi.1
    · exact inH_inv hi.2 j blk hl
theorem allB_inv {m : Nat} {h : Heap} (ha : allB m h = true) : ∀ j, j < m → ∃ blk, h.look j = some blk := by
  intro j hj
  simp only [allB, List.all_eq_true, List.mem_range] at ha
  have := ha j hj
  cases hl : h.look j with
  | none => rw [hl] at this; cases this
  | some b => exact ⟨b, rfl⟩
theorem numG_lt {is : List Nat} {nx j : Nat} (h : j < is.length) : numG is nx j = is[j] := by unfold numG; rw [List.getElem?_eq_getElem h]
theorem numG_ge {is : List Nat} {nx j : Nat} (h : is.length ≤ j) : numG is nx j = nx + (j - is.length) := by unfold numG; rw [List.getElem?_eq_none h]
/-- the numbers of the contract's blocks are 'is'; the new ones follow -/
theorem icall_io {P : Program} {σ : St} {d : Option Tmp} {f : FuncId} {m n' : Nat} {h h' : Heap} {args xs : List V} {r : V} {K : St → Prop} (hc : CIO P f m h args r h' n') (is : List Nat) (hlen : is.length = m) (hmn : m ≤ n') (hnd : is.Nodup)
    (hin : inH m (numG is σ.nx) σ.h h) (hall : allB m h = true) (hkeys : keysB n' h' = true) (hargs : lowL m (V.ments args) = true) (hxs : xs = V.rens (numG is σ.nx) args)
    (hK : K (({ σ with h := outNew m (numG is σ.nx) h' ++ outOld is (numG is σ.nx) h' σ.h, nx := σ.nx + (n' - m) } : St).put d (r.ren (numG is σ.nx)))) : ICall P σ d f xs K := by
  subst hlen
  refine icall_intro hc.1 (fun E w vs hr hbd hvs => ?_)
  have hlow := inH_inv hin
  have hal := allB_inv hall
  have hold : ∀ j (hj : j < is.length), E.U is[j] ∧ is[j] < σ.nx ∧ ∃ blk, σ.h.look is[j] = some blk := fun j hj => by
    obtain ⟨blk, hb⟩ := hal j hj
    have h2 := (hlow j blk hb).2.2
    rw [numG_lt hj] at h2
    have h3 := hr.uses h2
    exact ⟨h3, hbd _ h3, _, h2⟩
  have hinj : ∀ i j, i < n' → j < n' → numG is σ.nx i = numG is σ.nx j → i = j := fun i j hi hj he => by
    by_cases hi1 : i < is.length
    · by_cases hj1 : j < is.length
      · rw [numG_lt hi1, numG_lt hj1] at he
        exact (List.getElem_inj hnd).1 he
      · rw [numG_lt hi1, numG_ge (by omega)] at he
        have := (hold i hi1).2.1; omega
    · by_cases hj1 : j < is.length
      · rw [numG_lt hj1, numG_ge (by omega)] at he
        have := (hold j hj1).2.1; omega
      · rw [numG_ge (by omega), numG_ge (by omega)] at he; omega
  have hnew : ∀ j, is.length ≤ j → j < n' → ¬ E.U (numG is σ.nx j) := fun j h1 h2 hU => by
    rw [numG_ge h1] at hU
    have := hbd _ hU; omega
  subst hxs
  refine (cio_use hc hmn hinj hlow hal hargs hr hnew hvs).mono ?_
  rintro e w' ⟨v, E', rfl, h1, h2, h3, h4⟩
  refine ⟨v, _, _, _, E', rfl, h1 _ (fun j hj => ?_) (fun i hi => ?_), fun q hq => ?_, h2, h3, hK⟩
  · rw [look_app, outNew_at hinj hj hkeys]
    by_cases hjm : j < is.length
    · rw [if_pos hjm]
      simp only
      rw [outOld_at, numG_lt hjm, posG_at hjm hnd, Nat.zero_add]
      obtain ⟨_, _, blk, hb⟩ := hold j hjm
      simp only [hb]
    · rw [if_neg hjm]
      cases hl : (Heap.look h' j).map (Blk.ren (numG is σ.nx)) with
      | some x => rfl
      | none =>
        simp only
        have hno : σ.h.look (numG is σ.nx j) = none := by
          cases hl2 : σ.h.look (numG is σ.nx j) with
          | none => rfl
          | some b => exact (hnew j (by omega) hj (hr.uses hl2)).elim
        rw [outOld_at, hno]
        split <;> rfl
  · rw [look_app, outNew_out hi hkeys]
    simp only
    rw [outOld_at, posG_none]
    intro hmem
    obtain ⟨j, hj, he⟩ := List.mem_iff_getElem.1 hmem
    exact hi j (by omega) (by rw [numG_lt hj]; exact he)
  · rcases h4 q hq with h4 | ⟨j, h5, h6, rfl⟩
    · have := hbd q h4
      show q < σ.nx + (n' - is.length)
      omega
    · rw [numG_ge h5]
      show _ < σ.nx + (n' - is.length)
      omega
attribute [go_sem] posG numG outNew outB1 outP outOld inH lowL V.ment V.ments mentE mentR Blk.ment ioK
end Go.Proofs.YtkppmlignfhdeaaGreat
/- Proved here: Regions walked in two parts, and calls under a condition that holds, for use in the proofs of the given statements; conditions stand in each theorem. -/
set_option linter.unusedSimpArgs false
set_option linter.unusedVariables false
set_option linter.unnecessarySimpa false
namespace Go.Proofs.YtkppmlignfhdeaaGreat
open Go.RowKit
set_option maxRecDepth 4000
/-- the rest of a region, by what it does -/
def semS (P : Program) (ops : List Oper) (Q : Exit → St → Prop) (l : List Oper) (σ : St) : Prop :=
  ∀ E a w, RelF E σ a w → ∀ E0 w0, Ext E0 w0 E w → wpListIn (Wd E.ro) 0 P ops.toArray (LiftQ E0 w0 Q) l a w
theorem semS_steps {P : Program} {ops : List Oper} {Q : Exit → St → Prop} {l : List Oper} {σ : St} (h : steps P ops l (Q .normal) σ) : semS P ops Q l σ := steps_ok l σ h
theorem semS_app {P : Program} {ops : List Oper} {Q : Exit → St → Prop} {l2 : List Oper} : ∀ (l : List Oper) (σ : St), steps P ops l (semS P ops Q l2) σ → semS P ops Q (l ++ l2) σ
  | [], σ, h => h
  | o :: r, σ, h => by
    intro E a w hr E0 w0 hE
    have next : ∀ {σ'} {E' : Env} {a' w'}, steps P ops r (semS P ops Q l2) σ' → RelF E' σ' a' w' → Ext E w E' w' → wpListIn (Wd E.ro) 0 P ops.toArray (LiftQ E0 w0 Q) (r ++ l2) a' w' := fun h3 h1 h2 => by
      have := semS_app r _ h3 _ _ _ h1 E0 w0 (hE.trans h2)
      rwa [h2.ro] at this
    unfold steps ostepN at h
    rw [List.cons_append]
    unfold wpListIn
    split at h
    · rename_i hg
      have hw : Region.wanted o (yielded ops.toArray a.tmps) = true := by simp [Region.wanted, hg]
      rw [if_pos hw]
      exact estepN_ok h E a w hr _ _ fun a' w' E' σ' h1 h2 h3 => next h3 h1 h2
    · rename_i j want hg
      unfold gstepN at h
      split at h
      · rename_i g hgs
        have hw := guard_ok hr hg hgs
        rw [hw]
        split at h
        · obtain ⟨x, hK, hy⟩ := pstep_ok h
          cases g with
          | true =>
            rw [if_pos rfl]
            exact wpIn_of_wp (.inr (pstep_calm h)) (hy rfl E a w hr _ _ fun v w' E' h1 h2 h3 _ => next hK (h1.put o.dst (rdV_condJ (by rw [RdV]; exact ⟨fun _ => h3, fun h => by cases h⟩))) h2)
          | false =>
            rw [if_neg (by simp)]
            exact ⟨fun _ _ => trivial, next hK (hr.put o.dst (rdV_condJ (by rw [RdV]; exact ⟨fun h => (by cases h), fun _ => rfl⟩))) (Ext.refl E w)⟩
        · cases g with
          | true =>
            rw [if_pos rfl]
            exact estepN_ok (h.1 rfl) E a w hr _ _ fun a' w' E' σ' h1 h2 h3 => next h3 h1 h2
          | false =>
            rw [if_neg (by simp)]
            exact ⟨fun _ _ => trivial, next (h.2 rfl) (hr.put o.dst (by simp only [RdV])) (Ext.refl E w)⟩
      · exact h.elim
theorem semS_true {P : Program} {ops : List Oper} {Q : Exit → St → Prop} {o : Oper} {r : List Oper} {σ : St} {j : Nat} {want : Bool} (hg : o.guard = some (j, want)) (hgs : guardS ops σ j want = some true)
    (h : estepN P σ o.dst o.op (semS P ops Q r)) : semS P ops Q (o :: r) σ := by
  intro E a w hr E0 w0 hE
  unfold wpListIn
  rw [guard_ok hr hg hgs, if_pos rfl]
  exact estepN_ok h E a w hr _ _ fun a' w' E' σ' h1 h2 h3 => by
    have := h3 E' a' w' h1 E0 w0 (hE.trans h2)
    rwa [h2.ro] at this
theorem awp_region_sem {P : Program} {n0 id : Nat} {ops : Array Oper} {Q : Exit → St → Prop} {σ : St} (h : semS P ops.toList Q ops.toList σ) : AWP P n0 (.region id ops false) Q σ := by
  intro E a w hr E0 w0 hU hE
  have := h E a w hr E0 w0 hE
  rw [Array.toArray_toList] at this
  exact wpIn_region_list this
/-- a region in parts: n operations first -/
theorem awp_region_part {P : Program} {n0 id : Nat} {ops : Array Oper} {Q : Exit → St → Prop} {σ : St} (n : Nat) (h : steps P ops.toList (ops.toList.take n) (semS P ops.toList Q (ops.toList.drop n)) σ) : AWP P n0 (.region id ops false) Q σ := by
  refine awp_region_sem ?_
  have := semS_app (l2 := ops.toList.drop n) (ops.toList.take n) σ h
  rwa [List.take_append_drop] at this
end Go.Proofs.YtkppmlignfhdeaaGreat
/- Proved here: Rows are given away before a text is walked, for use in the proofs of the given statements; conditions stand in each theorem. -/
set_option linter.unusedSimpArgs false
set_option linter.unusedVariables false
set_option linter.unnecessarySimpa false
namespace Go.Proofs.YtkppmlignfhdeaaGreat
open Go.RowKit
set_option maxRecDepth 4000
def Blk.res (h : Heap) : Blk → Blk
  | .row e k d xs => .row e k d (xs.map (V.ress h))
  | .box cs => .box (V.ress h cs)
  | .map es => .map es
  | .shr t => .shr t
  | .loop st pend tmps ps c d => .loop st pend (V.ress h tmps) ps c d
  | .defd => .defd
def Heap.res (h : Heap) : Heap → Heap
  | [] => []
  | (i, b) :: r => (i, b.res h) :: Heap.res h r
theorem Heap.look_res (h : Heap) (i : Nat) : ∀ h2 : Heap, (Heap.res h h2).look i = (h2.look i).map (Blk.res h)
  | [] => rfl
  | (j, b) :: r => by
    simp only [Heap.res, Heap.look]
    split
    · rfl
    · exact Heap.look_res h i r
theorem ress_len (h : Heap) : ∀ xs : List V, (V.ress h xs).length = xs.length
  | [] => rfl
  | x :: xs => by simp only [V.ress, List.length_cons, ress_len h xs]
theorem ress_append (h : Heap) : ∀ xs ys : List V, V.ress h (xs ++ ys) = V.ress h xs ++ V.ress h ys
  | [], ys => rfl
  | x :: xs, ys => by simp only [List.cons_append, V.ress, ress_append h xs ys]
theorem ress_flatten (h : Heap) : ∀ xs : List (List V), (xs.map (V.ress h)).flatten = V.ress h xs.flatten
  | [] => rfl
  | x :: xs => by simp only [List.map_cons, List.flatten_cons, ress_append, ress_flatten h xs]
theorem Blk.rel_res {w : World} {E : Env} {h : Heap} (hr : Rel w E h) {b : Blk} {hv : Value} (hb : BlkRel w E b hv) : BlkRel w E (b.res h) hv := by
  cases b with
  | row e k d xs =>
    obtain ⟨cells, h1, h2, h3, h4⟩ := hb
    refine ⟨cells, by rw [List.length_map]; exact h1, by rw [ress_flatten]; exact RdVs.res hr _ h2, fun x hx => ?_, h4⟩
    obtain ⟨y, hy, rfl⟩ := List.mem_map.1 hx
    rw [ress_len]; exact h3 y hy
  | box cs =>
    obtain ⟨b, vs, ty, h1, h2, h3, h4⟩ := hb
    exact ⟨b, vs, ty, h1, h2, RdVs.res hr _ h3, h4⟩
  | map es => exact hb
  | shr t => exact hb
  | loop st pend tmps ps c d =>
    obtain ⟨l, rec, h1, h2, h3, h4, h5, h6, h7, h8⟩ := hb
    exact ⟨l, rec, h1, h2, h3, h4, h5, h6, h7, RdVs.res hr _ h8⟩
  | defd => exact hb
theorem Blk.at_res {E : Env} {h : Heap} {i : Nat} {b : Blk} : E.at (b.res h) i = E.at b i := by cases b <;> rfl
theorem Rel.res {w : World} {E : Env} {h : Heap} (hr : Rel w E h) : Rel w E (Heap.res h h) := by
  refine ⟨fun i blk hl => ?_, fun i hv hB => ?_, hr.domF, hr.own, hr.apart, hr.slt, hr.dlt⟩
  · rw [Heap.look_res] at hl
    obtain ⟨b, hb, rfl⟩ := Option.map_eq_some_iff.1 hl
    obtain ⟨hv, h1, h2⟩ := hr.has i b hb
    exact ⟨hv, by rw [Blk.at_res]; exact h1, Blk.rel_res hr h2⟩
  · obtain ⟨h1, b, h2⟩ := hr.dom i hv hB
    exact ⟨h1, _, by rw [Heap.look_res, h2]; rfl⟩
def giveA (P : Program) (n0 : Nat) (c : Code) (Q : Exit → St → Prop) (σ : St) (o : Option Heap) : Prop :=
  match o with
  | some h => AWP P n0 c Q { σ with h := Heap.res h h, fr := V.ress h σ.fr }
  | none => False
/-- the rows are given away -/
theorem awp_give {P : Program} {n0 : Nat} {c : Code} {Q : Exit → St → Prop} {σ : St} (is : List Nat) (h : giveA P n0 c Q σ (giveL is σ.h)) : AWP P n0 c Q σ := by
  unfold giveA at h
  split at h
  · rename_i h' hg
    intro E a w hr E0 w0 hU hE
    obtain ⟨E1, r1, r2, r3⟩ := RelF.giveL is (h := σ.h) hr hg
    have := h E1 a w ⟨Rel.res r1.rel, r1.bound, RdVs.res r1.rel _ r1.fr, r1.defers⟩ E0 w0 hU (hE.trans r2)
    rwa [r2.ro] at this
  · exact h.elim
def giveQ1 (Q : Exit → St → Prop) (e : Exit) (σ : St) (o : Option Heap) : Prop :=
  match o with
  | some h => Q e { σ with h := Heap.res h h, fr := V.ress h σ.fr }
  | none => False
/-- what follows, behind rows that are given away -/
def giveQ (is : List Nat) (Q : Exit → St → Prop) (e : Exit) (σ : St) : Prop := giveQ1 Q e σ (giveL is σ.h)
@[go_sem] theorem giveQ_eq {is : List Nat} {Q : Exit → St → Prop} {e : Exit} {fr : List V} {h : Heap} {nx : Nat} {df : List Dfr} : giveQ is Q e ⟨fr, h, nx, df⟩ = giveQ1 Q e ⟨fr, h, nx, df⟩ (giveL is h) := rfl
/-- rows are given away behind a text -/
theorem awp_after {P : Program} {n0 : Nat} {c : Code} {Q : Exit → St → Prop} {σ : St} (is : List Nat) (h : AWP P n0 c (giveQ is Q) σ) : AWP P n0 c Q σ := by
  intro E a w hr E0 w0 hU hE
  refine wpIn_mono (h E a w hr E0 w0 hU hE) ?_
  rintro e a' w' ⟨σ', E', h1, h2, h3⟩
  unfold giveQ giveQ1 at h3
  split at h3
  · rename_i h' hg
    obtain ⟨E1, r1, r2, r3⟩ := RelF.giveL (σ := σ') is (h := σ'.h) h1 hg
    exact ⟨{ σ' with h := Heap.res h' h', fr := V.ress h' σ'.fr }, E1, ⟨Rel.res r1.rel, r1.bound, RdVs.res r1.rel _ r1.fr, r1.defers⟩, h2.trans r2, h3⟩
  · exact h3.elim
theorem draw_after {P : Program} {n0 id : Nat} {ops : Array Oper} {Q : Exit → St → Prop} {σ : St} (is : List Nat) (h : DrawR P n0 id ops (giveQ is Q) σ) : DrawR P n0 id ops Q σ := awp_after is h
@[go_sem] theorem ress_t (h : Heap) : ∀ l : List T, V.ress h (l.map .t) = l.map .t
  | [] => rfl
  | x :: r => by simp only [List.map_cons, V.ress, V.res, ress_t h r]
@[go_sem] theorem ress_tRows (h : Heap) : ∀ l : List (List T), (tRows l).map (V.ress h) = tRows l
  | [] => rfl
  | x :: r => by
    have := ress_tRows h r
    unfold tRows at this ⊢
    simp only [List.map_cons, ress_t, this]
attribute [go_sem] giveA giveQ1 Blk.res Heap.res
end Go.Proofs.YtkppmlignfhdeaaGreat
/- Proved here: How the arguments of a statement are read by the abstract machine, type by type, and how a contract of a function gives its row, for use in the proofs of the given statements; conditions stand in each theorem. -/
set_option linter.unusedSimpArgs false
set_option linter.unusedVariables false
namespace Go.Proofs.YtkppmlignfhdeaaGreat
open Go.RowKit Go.ChangeShapes Go.WideShapes

/-- every block that is there -/
def allS (w : World) : Nat → Prop := fun b => b < w.heap.size
/-- cells of a type read al the list that 'c' gives -/
def Opens {α : Type} (P : Program) (t : TypeId) (c : α → List T) : Prop :=
  ∀ {H : Type} (enc : TypeId × Value → H) (w : World) (spare : Nat → Bool) (held : Bool) (n : Nat) (cs : List Value) (x : DataW H × List MemPlace), DataW.trod enc P w 0 spare held n t cs = some x → ∃ a, RdTs w (allS w) (c a) cs
section
variable {P : Program} {t : TypeId} {α β : Type}
theorem Opens.map {c : α → List T} {c' : β → List T} (g : α → β) (h : ∀ a, c' (g a) = c a) (ho : Opens P t c) : Opens P t c' := by
  intro H enc w spare held n cs x hx
  obtain ⟨a, ha⟩ := ho enc w spare held n cs x hx
  exact ⟨g a, by rw [h]; exact ha⟩
theorem opens_bool (ht : P.underlying t = some .bool) : Opens P t fun b : Bool => [.lit (.bool b)] := by
  intro H enc w spare held n cs x hx
  obtain ⟨b, rfl, _⟩ := DataW.trod_bool ht hx
  exact ⟨b, .lit _ rfl trivial, trivial⟩
theorem opens_int {k : IntKind} (ht : P.underlying t = some (.int k)) : Opens P t fun n : Int => [.lit (.int k n)] := by
  intro H enc w spare held n cs x hx
  obtain ⟨b, rfl, _⟩ := DataW.trod_int ht hx
  exact ⟨b, .lit _ rfl trivial, trivial⟩
theorem opens_string (ht : P.underlying t = some .string) : Opens P t fun s : ByteArray => [.lit (.string s)] := by
  intro H enc w spare held n cs x hx
  obtain ⟨s, rfl, _, hs⟩ := DataW.trod_string ht hx
  exact ⟨s, .lit _ rfl hs, trivial⟩
theorem choose_list {Q : Nat → α → Prop} : ∀ (n : Nat), (∀ i, i < n → ∃ a, Q i a) → ∃ al : List α, al.length = n ∧ ∀ i a, al[i]? = some a → Q i a
  | 0, _ => ⟨[], rfl, by simp⟩
  | n + 1, h => by
    obtain ⟨al, h1, h2⟩ := choose_list n fun i hi => h i (by omega)
    obtain ⟨a, ha⟩ := h n (by omega)
    refine ⟨al ++ [a], by simp [h1], fun i b hb => ?_⟩
    by_cases hi : i < n
    · rw [List.getElem?_append_left (by omega)] at hb
      exact h2 i b hb
    · have hi2 : i < (al ++ [a]).length := (List.getElem?_eq_some_iff.1 hb).1
      have : i = n := by simp [h1] at hi2; omega
      subst this
      rw [List.getElem?_append_right (by omega), h1] at hb
      simp at hb
      subst hb; exact ha
theorem cell_spot {w : World} {a : Addr} {v : Value} (h : w.cell? a = some v) : a.spot = none := by
  unfold World.cell? at h
  split at h
  · cases hs : a.spot with
    | none => rfl
    | some x => rw [hs] at h; simp at h
  · cases h
theorem cell_lts {w : World} {a : Addr} {v : Value} (h : w.cell? a = some v) : a.block < w.heap.size := by
  unfold World.cell? at h
  split at h
  · rename_i hh
    exact (Array.getElem?_eq_some_iff.1 hh).1
  · cases h
theorem rdTs_at {w : World} {S : Nat → Prop} : ∀ {xs : List T} {vs : List Value} {j : Nat} {x : T} {v : Value}, RdTs w S xs vs → xs[j]? = some x → vs[j]? = some v → RdT w S x v
  | x :: xs, v :: vs, 0, _, _, h, hx, hv => by simp at hx hv; subst hx hv; exact h.1
  | x :: xs, v :: vs, j + 1, _, _, h, hx, hv => rdTs_at (j := j) h.2 (by simpa using hx) (by simpa using hv)
  | [], _, _, _, _, _, hx, _ => by simp at hx
  | _ :: _, [], _, _, _, h, _, _ => h.elim
theorem opens_slice {e : TypeId} {c : α → List T} {k : Nat} (d : List T) (ht : P.underlying t = some (.slice e)) (he : Opens P e c) (hk : P.cellsOf e = k) (hc : ∀ a, (c a).length = k) (hpos : 0 < k) :
    Opens P t fun al : List α => [.list k d (al.map c)] := by
  subst hk
  intro H enc w spare held n cs x hx
  rcases DataW.trod_slice ht hx with ⟨rfl, _⟩ | ⟨a, len, cap, elems, rest, m, rfl, rfl, rfl, hb, hl, hm, hlen, hel, _, _⟩
  · exact ⟨[], .list _ _ _ none 0 (Nat.zero_le _) (Nat.zero_le _) (fun _ => rfl) (by simp) (by simp) (by simp), trivial⟩
  · obtain ⟨al, h1, h2⟩ := choose_list (Q := fun i x => ∃ cs, w.cells? 0 (a.add (i * P.cellsOf e)) (P.cellsOf e) = some cs ∧ RdTs w (allS w) (c x) cs) len fun i hi => by
      have h3 := hel i hi
      rw [List.getElem?_eq_getElem (by omega)] at h3
      obtain ⟨cs, h4, h5⟩ := Option.bind_eq_some_iff.1 h3
      obtain ⟨y, hy⟩ := he enc w spare held m cs _ h5
      exact ⟨y, cs, h4, hy⟩
    refine ⟨al, ?_, trivial⟩
    have hlen' : (al.map c).length = len := by simp [h1]
    rw [← hlen']
    have key : ∀ i y, al[i]? = some y → ∃ cs, RdTs w (allS w) (c y) cs ∧ cs.length = P.cellsOf e ∧ a.spot = none ∧ a.block < w.heap.size ∧ ∀ j, j < P.cellsOf e → w.cell? ⟨a.block, a.off + i * P.cellsOf e + j, none⟩ = cs[j]? := by
      intro i y hy
      obtain ⟨cs, h3, h4⟩ := h2 i y hy
      obtain ⟨_, h5, h6⟩ := World.cells?_some h3
      have h0 := h6 0 hpos
      rw [List.getElem?_eq_getElem (by omega)] at h0
      have hlt := cell_lts h0
      have hsp : a.spot = none := by
        have hl0 : 0 < al.length := by have := (List.getElem?_eq_some_iff.1 hy).1; omega
        obtain ⟨cs0, g3, g4⟩ := h2 0 _ (List.getElem?_eq_getElem hl0)
        obtain ⟨_, g5, g6⟩ := World.cells?_some g3
        have g0 := g6 0 hpos
        rw [List.getElem?_eq_getElem (by omega), Nat.zero_mul] at g0
        have e0 : (a.add 0).add 0 = a := by simp [Addr.add]
        rw [e0] at g0
        exact cell_spot g0
      obtain ⟨b, off, sp⟩ := a
      have hsp' : sp = none := hsp
      subst hsp'
      rw [Addr.add_lit, Addr.add_lit] at hlt
      refine ⟨cs, h4, h5, rfl, hlt, fun j hj => ?_⟩
      have := h6 j hj
      rw [Addr.add_lit, Addr.add_lit] at this
      exact this
    refine .list _ _ _ (some a) cap (by omega) (by omega) (fun h => by cases h) ?_ ?_ ?_
    · intro y hy
      obtain ⟨z, _, rfl⟩ := List.mem_map.1 hy
      exact hc z
    · intro i y hy
      rw [List.getElem?_map, Option.map_eq_some_iff] at hy
      obtain ⟨z, hz, rfl⟩ := hy
      obtain ⟨cs, k1, k2, k3, k4, k5⟩ := key i z hz
      obtain ⟨b, off, sp⟩ := a
      have k3' : sp = none := k3
      subst k3'
      refine ⟨b, off, rfl, k4, fun j x hx => ?_⟩
      have hj : j < P.cellsOf e := by rw [← hc z]; exact (List.getElem?_eq_some_iff.1 hx).1
      exact ⟨cs[j]'(by omega), by rw [k5 j hj, List.getElem?_eq_getElem (by omega)]⟩
    · intro i y j x' b off u hy hx' hA hu
      rw [List.getElem?_map, Option.map_eq_some_iff] at hy
      obtain ⟨z, hz, rfl⟩ := hy
      obtain ⟨cs, k1, k2, k3, k4, k5⟩ := key i z hz
      injection hA with hA
      subst hA
      have hj : j < P.cellsOf e := by rw [← hc z]; exact (List.getElem?_eq_some_iff.1 hx').1
      rw [k5 j hj] at hu
      exact rdTs_at k1 hx' hu

/-! structs -/
def laysF (P : Program) : List Field → Nat → Option Nat
  | [], o => some o
  | f :: r, o => if f.offset = o then laysF P r (o + P.cellsOf f.type) else none
theorem laysF_le {P : Program} : ∀ {fs : List Field} {o e : Nat}, laysF P fs o = some e → o ≤ e
  | [], o, e, h => by simp [laysF] at h; omega
  | f :: r, o, e, h => by
    unfold laysF at h
    split at h
    · have := laysF_le h; omega
    · cases h
def OpensF (P : Program) (fs : List Field) (c : α → List T) : Prop :=
  ∀ {H : Type} (enc : TypeId × Value → H) (w : World) (spare : Nat → Bool) (held : Bool) (n : Nat) (cs : List Value), (∀ f ∈ fs, ∃ x, DataW.trod enc P w 0 spare held n f.type ((cs.drop f.offset).take (P.cellsOf f.type)) = some x) →
    ∀ o e, laysF P fs o = some e → ∃ a, RdTs w (allS w) (c a) ((cs.drop o).take (e - o))
theorem opensF_nil : OpensF P [] fun _ : Unit => [] := by
  intro H enc w spare held n cs _ o e h
  simp [laysF] at h
  subst h
  exact ⟨(), by simp [RdTs]⟩
theorem opensF_cons {f : Field} {r : List Field} {c : α → List T} {c' : β → List T} (h1 : Opens P f.type c) (h2 : OpensF P r c') : OpensF P (f :: r) fun x : α × β => c x.1 ++ c' x.2 := by
  intro H enc w spare held n cs hx o e hl
  unfold laysF at hl
  split at hl
  · rename_i ho
    obtain ⟨x, hx1⟩ := hx f (by simp)
    obtain ⟨a, ha⟩ := h1 enc w spare held n _ _ hx1
    obtain ⟨b, hb⟩ := h2 enc w spare held n cs (fun g hg => hx g (by simp [hg])) _ _ hl
    have hle := laysF_le hl
    refine ⟨(a, b), ?_⟩
    have : (cs.drop o).take (e - o) = (cs.drop f.offset).take (P.cellsOf f.type) ++ (cs.drop (o + P.cellsOf f.type)).take (e - (o + P.cellsOf f.type)) := by
      rw [ho, show e - o = P.cellsOf f.type + (e - (o + P.cellsOf f.type)) by omega, List.take_add, List.drop_drop]
    rw [this]
    exact RdTs.append ha hb
  · cases hl
theorem opens_struct {fs : Array Field} {c : α → List T} (ht : P.underlying t = some (.struct fs)) (hl : laysF P fs.toList 0 = some (P.cellsOf t)) (h : OpensF P fs.toList c) : Opens P t c := by
  intro H enc w spare held n cs x hx
  obtain ⟨xs, m, rfl, rfl, h1, h2, h3⟩ := DataW.trod_struct ht hx
  obtain ⟨a, ha⟩ := h enc w spare held m cs (fun f hf => by
    obtain ⟨i, hi, rfl⟩ := List.mem_iff_getElem.1 hf
    have hi' : i < fs.size := by simpa using hi
    have := h3 i fs[i] (by simp [hi'])
    rw [List.getElem?_eq_getElem (by omega)] at this
    exact ⟨_, by simpa using this⟩) 0 _ hl
  refine ⟨a, ?_⟩
  simpa [← h1] using ha
end

/-! arguments -/
def OpensV {α : Type} (P : Program) (t : TypeId) (v : α → V) : Prop :=
  ∀ {H : Type} (enc : TypeId × Value → H) (w : World) (spare : Nat → Bool) (held : Bool) (val : Value) (d : DataW H) (p : List MemPlace), Value.okWide P w .any 0 t val → DataW.Trod enc P w 0 spare held t val d p → ∃ a, RdV w (bareE (allS w)) (v a) val
section
variable {P : Program} {t : TypeId} {α β : Type}
theorem one_cell {w : World} {S : Nat → Prop} {x : T} {u : Value} {l : List Value} (hl : l = [u]) (h : RdTs w S [x] l) : RdV w (bareE S) (.t x) u := by
  subst hl
  simp only [RdV]
  exact h.1
theorem opensV_bool (ht : P.underlying t = some .bool) : OpensV P t fun b : Bool => .t (.lit (.bool b)) := by
  rintro H enc w spare held val d p hv ⟨n, hn⟩
  obtain ⟨b, rfl⟩ := okWide_bool ht hv
  obtain ⟨a, ha⟩ := opens_bool ht enc w spare held n _ _ hn
  exact ⟨a, one_cell rfl ha⟩
theorem opensV_int {k : IntKind} (ht : P.underlying t = some (.int k)) : OpensV P t fun n : Int => .t (.lit (.int k n)) := by
  rintro H enc w spare held val d p hv ⟨n, hn⟩
  obtain ⟨b, rfl⟩ := okWide_int ht hv
  obtain ⟨a, ha⟩ := opens_int ht enc w spare held n _ _ hn
  exact ⟨a, one_cell rfl ha⟩
theorem opensV_string (ht : P.underlying t = some .string) : OpensV P t fun s : ByteArray => .t (.lit (.string s)) := by
  rintro H enc w spare held val d p hv ⟨n, hn⟩
  obtain ⟨b, rfl⟩ := okWide_string ht hv
  obtain ⟨a, ha⟩ := opens_string ht enc w spare held n _ _ hn
  exact ⟨a, one_cell rfl ha⟩
theorem opensV_slice {e : TypeId} {x : α → T} (ht : P.underlying t = some (.slice e)) (ho : Opens P t fun a => [x a]) : OpensV P t fun a => .t (x a) := by
  rintro H enc w spare held val d p hv ⟨n, hn⟩
  obtain ⟨A, l, c, rfl⟩ := okWide_slice ht hv
  obtain ⟨a, ha⟩ := ho enc w spare held n _ _ hn
  exact ⟨a, one_cell rfl ha⟩
theorem opensV_struct {fs : Array Field} {c : α → List T} (ht : P.underlying t = some (.struct fs)) (ho : Opens P t c) : OpensV P t fun a => .agg ((c a).map .t) := by
  rintro H enc w spare held val d p hv ⟨n, hn⟩
  obtain ⟨cs, rfl, hs⟩ := okWide_struct ht hv
  obtain ⟨a, ha⟩ := ho enc w spare held n _ _ hn
  have hcs : (Value.agg cs).cells.toList = cs.toList := rfl
  rw [hcs] at ha
  refine ⟨a, ?_⟩
  simp only [RdV]
  refine ⟨cs, rfl, RdVs.ofT ha, ?_⟩
  have : ∀ {xs : List T} {vs : List Value}, RdTs w (allS w) xs vs → vs.all (·.oneCell') = true := by
    intro xs
    induction xs with
    | nil => intro vs h; cases vs with
      | nil => rfl
      | cons _ _ => exact h.elim
    | cons x xs ih => intro vs h; cases vs with
      | nil => exact h.elim
      | cons v vs => simp only [List.all_cons, Bool.and_eq_true]; exact ⟨h.1.one, ih h.2⟩
  exact this ha
/-- all arguments -/
def OpensVs (P : Program) (ts : List TypeId) (vs : α → List V) : Prop :=
  ∀ {H : Type} (enc : TypeId × Value → H) (w : World) (spare : Nat → Bool) (held : Bool) (args : List Value) (ds : List (DataW H)) (p : List MemPlace), (∀ (j : Nat) t v, ts[j]? = some t → args[j]? = some v → Value.okWide P w .any 0 t v) →
    DataW.TrodAll enc P w 0 spare held ts args ds p → ∃ a, RdVs w (bareE (allS w)) (vs a) args
theorem opensVs_nil : OpensVs P [] fun _ : Unit => [] := by
  intro H enc w spare held args ds p hv h
  cases args with
  | nil => exact ⟨(), by simp [RdVs]⟩
  | cons _ _ => cases ds <;> exact h.elim
theorem opensVs_cons {ts : List TypeId} {v : α → V} {vs : β → List V} (h1 : OpensV P t v) (h2 : OpensVs P ts vs) : OpensVs P (t :: ts) fun x : α × β => v x.1 :: vs x.2 := by
  intro H enc w spare held args ds p hv h
  cases args with
  | nil => cases ds <;> exact h.elim
  | cons u us =>
    cases ds with
    | nil => exact h.elim
    | cons d ds =>
      obtain ⟨p1, p2, k1, k2, rfl⟩ := h
      obtain ⟨a, ha⟩ := h1 enc w spare held u d p1 (hv 0 t u rfl rfl) k1
      obtain ⟨b, hb⟩ := h2 enc w spare held us ds p2 (fun j t v ht hv' => hv (j + 1) t v (by simpa using ht) (by simpa using hv')) k2
      exact ⟨(a, b), by simp only [RdVs]; exact ⟨ha, hb⟩⟩
/-- all arguments read al they did -/
def keepsB (P : Program) (ts : List TypeId) : Bool := ts.all fun t => P.readableRec t && decide (t < P.types.size)
theorem trodAll_keep {H : Type} {enc : TypeId × Value → H} (hl : laidOutB P = true) {W W' : World} (hb : Below W.heap.size W W') : ∀ {ts : List TypeId} {vs : List Value} {ds : List (DataW H)} {p : List MemPlace}, keepsB P ts = true →
    DataW.TrodAll enc P W 0 (fun _ => true) true ts vs ds p → DataW.TrodAll enc P W' 0 (fun b => decide (b < W.heap.size)) true ts vs ds p
  | [], [], [], _, _, h => h
  | t :: ts, v :: vs, d :: ds, p, hk, h => by
    obtain ⟨p1, p2, k1, k2, rfl⟩ := h
    simp only [keepsB, List.all_cons, Bool.and_eq_true, decide_eq_true_eq] at hk
    refine ⟨p1, p2, Below.trod hl hk.1.1 hk.1.2 k1 hb ?_, trodAll_keep hl hb (by simpa [keepsB] using hk.2) k2, rfl⟩
    obtain ⟨m, hm⟩ := k1
    exact DataW.trod_lt m _ _ _ hm
  | [], _ :: _, _, _, _, h => h.elim
  | [], [], _ :: _, _, _, h => h.elim
  | _ :: _, [], _, _, _, h => h.elim
  | _ :: _, _ :: _, [], _, _, h => h.elim
end
end Go.Proofs.YtkppmlignfhdeaaGreat
