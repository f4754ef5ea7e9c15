/- Proved here: Picks from a slice whose elements are given, on the abstract machine, for use in the proofs of the given statements; conditions stand in each theorem. -/
import Derived.Test.YtnbmiejjkkgckaaZS
set_option linter.unusedSimpArgs false
set_option linter.unusedVariables false
set_option linter.unusedSimpArgs false
set_option linter.unusedVariables false
namespace Go.Proofs.Ytnbmiejjkkgckaa
open Go.RowKit
@[go_sem] theorem dec_str {l : List UInt8} : decide ((⟨l⟩ : Array UInt8).size ≤ maxLen) = decide (l.length ≤ maxLen) := rfl
theorem len_ok {n : Nat} (h : n ≤ 65536) : n ≤ maxLen := by unfold maxLen; omega
@[go_sem] theorem dec_len0 : decide (0 ≤ maxLen) = true := decide_eq_true (len_ok (by omega))
@[go_sem] theorem dec_len1 : decide (1 ≤ maxLen) = true := decide_eq_true (len_ok (by omega))
@[go_sem] theorem dec_len2 : decide (2 ≤ maxLen) = true := decide_eq_true (len_ok (by omega))
@[go_sem] theorem dec_len3 : decide (3 ≤ maxLen) = true := decide_eq_true (len_ok (by omega))
@[go_sem] theorem dec_len4 : decide (4 ≤ maxLen) = true := decide_eq_true (len_ok (by omega))
@[go_sem] theorem dec_len5 : decide (5 ≤ maxLen) = true := decide_eq_true (len_ok (by omega))
@[go_sem] theorem dec_len6 : decide (6 ≤ maxLen) = true := decide_eq_true (len_ok (by omega))
@[go_sem] theorem dec_len7 : decide (7 ≤ maxLen) = true := decide_eq_true (len_ok (by omega))
@[go_sem] theorem dec_len8 : decide (8 ≤ maxLen) = true := decide_eq_true (len_ok (by omega))
@[go_sem] theorem dec_len9 : decide (9 ≤ maxLen) = true := decide_eq_true (len_ok (by omega))
@[go_sem] theorem dec_len10 : decide (10 ≤ maxLen) = true := decide_eq_true (len_ok (by omega))
@[go_sem] theorem dec_len11 : decide (11 ≤ maxLen) = true := decide_eq_true (len_ok (by omega))
@[go_sem] theorem dec_len12 : decide (12 ≤ maxLen) = true := decide_eq_true (len_ok (by omega))
@[go_sem] theorem dec_len13 : decide (13 ≤ maxLen) = true := decide_eq_true (len_ok (by omega))
@[go_sem] theorem dec_len14 : decide (14 ≤ maxLen) = true := decide_eq_true (len_ok (by omega))
@[go_sem] theorem dec_len15 : decide (15 ≤ maxLen) = true := decide_eq_true (len_ok (by omega))
@[go_sem] theorem dec_len16 : decide (16 ≤ maxLen) = true := decide_eq_true (len_ok (by omega))
@[go_sem] theorem dec_len17 : decide (17 ≤ maxLen) = true := decide_eq_true (len_ok (by omega))
@[go_sem] theorem dec_len18 : decide (18 ≤ maxLen) = true := decide_eq_true (len_ok (by omega))
@[go_sem] theorem dec_len19 : decide (19 ≤ maxLen) = true := decide_eq_true (len_ok (by omega))
@[go_sem] theorem dec_len20 : decide (20 ≤ maxLen) = true := decide_eq_true (len_ok (by omega))
@[go_sem] theorem dec_len21 : decide (21 ≤ maxLen) = true := decide_eq_true (len_ok (by omega))
@[go_sem] theorem dec_len22 : decide (22 ≤ maxLen) = true := decide_eq_true (len_ok (by omega))
@[go_sem] theorem dec_len23 : decide (23 ≤ maxLen) = true := decide_eq_true (len_ok (by omega))
@[go_sem] theorem dec_len24 : decide (24 ≤ maxLen) = true := decide_eq_true (len_ok (by omega))
@[go_sem] theorem dec_len25 : decide (25 ≤ maxLen) = true := decide_eq_true (len_ok (by omega))
@[go_sem] theorem dec_len26 : decide (26 ≤ maxLen) = true := decide_eq_true (len_ok (by omega))
@[go_sem] theorem dec_len27 : decide (27 ≤ maxLen) = true := decide_eq_true (len_ok (by omega))
@[go_sem] theorem dec_len28 : decide (28 ≤ maxLen) = true := decide_eq_true (len_ok (by omega))
@[go_sem] theorem dec_len29 : decide (29 ≤ maxLen) = true := decide_eq_true (len_ok (by omega))
@[go_sem] theorem dec_len30 : decide (30 ≤ maxLen) = true := decide_eq_true (len_ok (by omega))
@[go_sem] theorem dec_len31 : decide (31 ≤ maxLen) = true := decide_eq_true (len_ok (by omega))
@[go_sem] theorem dec_len32 : decide (32 ≤ maxLen) = true := decide_eq_true (len_ok (by omega))
@[go_sem] theorem nth_i1 {kd : IntKind} {d a0 : Int} {n : Nat} : nth [.lit (.int kd d)] [[.lit (.int kd a0)]] n = [.lit (.int kd ([a0].getD n d))] := nth_map (fun x => [.lit (.int kd x)]) d [a0] n
@[go_sem] theorem nth_s1 {d a0 : ByteArray} {n : Nat} : nth [.lit (.string d)] [[.lit (.string a0)]] n = [.lit (.string ([a0].getD n d))] := nth_map (fun x => [.lit (.string x)]) d [a0] n
@[go_sem] theorem nth_ii1 {kd ke : IntKind} {d e a0 b0 : Int} {n : Nat} : nth [.lit (.int kd d), .lit (.int ke e)] [[.lit (.int kd a0), .lit (.int ke b0)]] n = [.lit (.int kd ([(a0, b0)].getD n (d, e)).1), .lit (.int ke ([(a0, b0)].getD n (d, e)).2)] := nth_map (fun x : Int × Int => [.lit (.int kd x.1), .lit (.int ke x.2)]) (d, e) [(a0, b0)] n
@[go_sem] theorem nth_i2 {kd : IntKind} {d a0 a1 : Int} {n : Nat} : nth [.lit (.int kd d)] [[.lit (.int kd a0)], [.lit (.int kd a1)]] n = [.lit (.int kd ([a0, a1].getD n d))] := nth_map (fun x => [.lit (.int kd x)]) d [a0, a1] n
@[go_sem] theorem nth_s2 {d a0 a1 : ByteArray} {n : Nat} : nth [.lit (.string d)] [[.lit (.string a0)], [.lit (.string a1)]] n = [.lit (.string ([a0, a1].getD n d))] := nth_map (fun x => [.lit (.string x)]) d [a0, a1] n
@[go_sem] theorem nth_ii2 {kd ke : IntKind} {d e a0 a1 b0 b1 : Int} {n : Nat} : nth [.lit (.int kd d), .lit (.int ke e)] [[.lit (.int kd a0), .lit (.int ke b0)], [.lit (.int kd a1), .lit (.int ke b1)]] n = [.lit (.int kd ([(a0, b0), (a1, b1)].getD n (d, e)).1), .lit (.int ke ([(a0, b0), (a1, b1)].getD n (d, e)).2)] := nth_map (fun x : Int × Int => [.lit (.int kd x.1), .lit (.int ke x.2)]) (d, e) [(a0, b0), (a1, b1)] n
@[go_sem] theorem nth_i3 {kd : IntKind} {d a0 a1 a2 : Int} {n : Nat} : nth [.lit (.int kd d)] [[.lit (.int kd a0)], [.lit (.int kd a1)], [.lit (.int kd a2)]] n = [.lit (.int kd ([a0, a1, a2].getD n d))] := nth_map (fun x => [.lit (.int kd x)]) d [a0, a1, a2] n
@[go_sem] theorem nth_s3 {d a0 a1 a2 : ByteArray} {n : Nat} : nth [.lit (.string d)] [[.lit (.string a0)], [.lit (.string a1)], [.lit (.string a2)]] n = [.lit (.string ([a0, a1, a2].getD n d))] := nth_map (fun x => [.lit (.string x)]) d [a0, a1, a2] n
@[go_sem] theorem nth_ii3 {kd ke : IntKind} {d e a0 a1 a2 b0 b1 b2 : Int} {n : Nat} : nth [.lit (.int kd d), .lit (.int ke e)] [[.lit (.int kd a0), .lit (.int ke b0)], [.lit (.int kd a1), .lit (.int ke b1)], [.lit (.int kd a2), .lit (.int ke b2)]] n = [.lit (.int kd ([(a0, b0), (a1, b1), (a2, b2)].getD n (d, e)).1), .lit (.int ke ([(a0, b0), (a1, b1), (a2, b2)].getD n (d, e)).2)] := nth_map (fun x : Int × Int => [.lit (.int kd x.1), .lit (.int ke x.2)]) (d, e) [(a0, b0), (a1, b1), (a2, b2)] n
@[go_sem] theorem nth_i4 {kd : IntKind} {d a0 a1 a2 a3 : Int} {n : Nat} : nth [.lit (.int kd d)] [[.lit (.int kd a0)], [.lit (.int kd a1)], [.lit (.int kd a2)], [.lit (.int kd a3)]] n = [.lit (.int kd ([a0, a1, a2, a3].getD n d))] := nth_map (fun x => [.lit (.int kd x)]) d [a0, a1, a2, a3] n
@[go_sem] theorem nth_s4 {d a0 a1 a2 a3 : ByteArray} {n : Nat} : nth [.lit (.string d)] [[.lit (.string a0)], [.lit (.string a1)], [.lit (.string a2)], [.lit (.string a3)]] n = [.lit (.string ([a0, a1, a2, a3].getD n d))] := nth_map (fun x => [.lit (.string x)]) d [a0, a1, a2, a3] n
@[go_sem] theorem nth_ii4 {kd ke : IntKind} {d e a0 a1 a2 a3 b0 b1 b2 b3 : Int} {n : Nat} : nth [.lit (.int kd d), .lit (.int ke e)] [[.lit (.int kd a0), .lit (.int ke b0)], [.lit (.int kd a1), .lit (.int ke b1)], [.lit (.int kd a2), .lit (.int ke b2)], [.lit (.int kd a3), .lit (.int ke b3)]] n = [.lit (.int kd ([(a0, b0), (a1, b1), (a2, b2), (a3, b3)].getD n (d, e)).1), .lit (.int ke ([(a0, b0), (a1, b1), (a2, b2), (a3, b3)].getD n (d, e)).2)] := nth_map (fun x : Int × Int => [.lit (.int kd x.1), .lit (.int ke x.2)]) (d, e) [(a0, b0), (a1, b1), (a2, b2), (a3, b3)] n
@[go_sem] theorem nth_i5 {kd : IntKind} {d a0 a1 a2 a3 a4 : Int} {n : Nat} : nth [.lit (.int kd d)] [[.lit (.int kd a0)], [.lit (.int kd a1)], [.lit (.int kd a2)], [.lit (.int kd a3)], [.lit (.int kd a4)]] n = [.lit (.int kd ([a0, a1, a2, a3, a4].getD n d))] := nth_map (fun x => [.lit (.int kd x)]) d [a0, a1, a2, a3, a4] n
@[go_sem] theorem nth_s5 {d a0 a1 a2 a3 a4 : ByteArray} {n : Nat} : nth [.lit (.string d)] [[.lit (.string a0)], [.lit (.string a1)], [.lit (.string a2)], [.lit (.string a3)], [.lit (.string a4)]] n = [.lit (.string ([a0, a1, a2, a3, a4].getD n d))] := nth_map (fun x => [.lit (.string x)]) d [a0, a1, a2, a3, a4] n
@[go_sem] theorem nth_ii5 {kd ke : IntKind} {d e a0 a1 a2 a3 a4 b0 b1 b2 b3 b4 : Int} {n : Nat} : nth [.lit (.int kd d), .lit (.int ke e)] [[.lit (.int kd a0), .lit (.int ke b0)], [.lit (.int kd a1), .lit (.int ke b1)], [.lit (.int kd a2), .lit (.int ke b2)], [.lit (.int kd a3), .lit (.int ke b3)], [.lit (.int kd a4), .lit (.int ke b4)]] n = [.lit (.int kd ([(a0, b0), (a1, b1), (a2, b2), (a3, b3), (a4, b4)].getD n (d, e)).1), .lit (.int ke ([(a0, b0), (a1, b1), (a2, b2), (a3, b3), (a4, b4)].getD n (d, e)).2)] := nth_map (fun x : Int × Int => [.lit (.int kd x.1), .lit (.int ke x.2)]) (d, e) [(a0, b0), (a1, b1), (a2, b2), (a3, b3), (a4, b4)] n
@[go_sem] theorem nth_i6 {kd : IntKind} {d a0 a1 a2 a3 a4 a5 : Int} {n : Nat} : nth [.lit (.int kd d)] [[.lit (.int kd a0)], [.lit (.int kd a1)], [.lit (.int kd a2)], [.lit (.int kd a3)], [.lit (.int kd a4)], [.lit (.int kd a5)]] n = [.lit (.int kd ([a0, a1, a2, a3, a4, a5].getD n d))] := nth_map (fun x => [.lit (.int kd x)]) d [a0, a1, a2, a3, a4, a5] n
@[go_sem] theorem nth_s6 {d a0 a1 a2 a3 a4 a5 : ByteArray} {n : Nat} : nth [.lit (.string d)] [[.lit (.string a0)], [.lit (.string a1)], [.lit (.string a2)], [.lit (.string a3)], [.lit (.string a4)], [.lit (.string a5)]] n = [.lit (.string ([a0, a1, a2, a3, a4, a5].getD n d))] := nth_map (fun x => [.lit (.string x)]) d [a0, a1, a2, a3, a4, a5] n
@[go_sem] theorem nth_ii6 {kd ke : IntKind} {d e a0 a1 a2 a3 a4 a5 b0 b1 b2 b3 b4 b5 : Int} {n : Nat} : nth [.lit (.int kd d), .lit (.int ke e)] [[.lit (.int kd a0), .lit (.int ke b0)], [.lit (.int kd a1), .lit (.int ke b1)], [.lit (.int kd a2), .lit (.int ke b2)], [.lit (.int kd a3), .lit (.int ke b3)], [.lit (.int kd a4), .lit (.int ke b4)], [.lit (.int kd a5), .lit (.int ke b5)]] n = [.lit (.int kd ([(a0, b0), (a1, b1), (a2, b2), (a3, b3), (a4, b4), (a5, b5)].getD n (d, e)).1), .lit (.int ke ([(a0, b0), (a1, b1), (a2, b2), (a3, b3), (a4, b4), (a5, b5)].getD n (d, e)).2)] := nth_map (fun x : Int × Int => [.lit (.int kd x.1), .lit (.int ke x.2)]) (d, e) [(a0, b0), (a1, b1), (a2, b2), (a3, b3), (a4, b4), (a5, b5)] n
@[go_sem] theorem nth_i7 {kd : IntKind} {d a0 a1 a2 a3 a4 a5 a6 : Int} {n : Nat} : nth [.lit (.int kd d)] [[.lit (.int kd a0)], [.lit (.int kd a1)], [.lit (.int kd a2)], [.lit (.int kd a3)], [.lit (.int kd a4)], [.lit (.int kd a5)], [.lit (.int kd a6)]] n = [.lit (.int kd ([a0, a1, a2, a3, a4, a5, a6].getD n d))] := nth_map (fun x => [.lit (.int kd x)]) d [a0, a1, a2, a3, a4, a5, a6] n
@[go_sem] theorem nth_s7 {d a0 a1 a2 a3 a4 a5 a6 : ByteArray} {n : Nat} : nth [.lit (.string d)] [[.lit (.string a0)], [.lit (.string a1)], [.lit (.string a2)], [.lit (.string a3)], [.lit (.string a4)], [.lit (.string a5)], [.lit (.string a6)]] n = [.lit (.string ([a0, a1, a2, a3, a4, a5, a6].getD n d))] := nth_map (fun x => [.lit (.string x)]) d [a0, a1, a2, a3, a4, a5, a6] n
@[go_sem] theorem nth_ii7 {kd ke : IntKind} {d e a0 a1 a2 a3 a4 a5 a6 b0 b1 b2 b3 b4 b5 b6 : Int} {n : Nat} : nth [.lit (.int kd d), .lit (.int ke e)] [[.lit (.int kd a0), .lit (.int ke b0)], [.lit (.int kd a1), .lit (.int ke b1)], [.lit (.int kd a2), .lit (.int ke b2)], [.lit (.int kd a3), .lit (.int ke b3)], [.lit (.int kd a4), .lit (.int ke b4)], [.lit (.int kd a5), .lit (.int ke b5)], [.lit (.int kd a6), .lit (.int ke b6)]] n = [.lit (.int kd ([(a0, b0), (a1, b1), (a2, b2), (a3, b3), (a4, b4), (a5, b5), (a6, b6)].getD n (d, e)).1), .lit (.int ke ([(a0, b0), (a1, b1), (a2, b2), (a3, b3), (a4, b4), (a5, b5), (a6, b6)].getD n (d, e)).2)] := nth_map (fun x : Int × Int => [.lit (.int kd x.1), .lit (.int ke x.2)]) (d, e) [(a0, b0), (a1, b1), (a2, b2), (a3, b3), (a4, b4), (a5, b5), (a6, b6)] n
@[go_sem] theorem nth_i8 {kd : IntKind} {d a0 a1 a2 a3 a4 a5 a6 a7 : Int} {n : Nat} : nth [.lit (.int kd d)] [[.lit (.int kd a0)], [.lit (.int kd a1)], [.lit (.int kd a2)], [.lit (.int kd a3)], [.lit (.int kd a4)], [.lit (.int kd a5)], [.lit (.int kd a6)], [.lit (.int kd a7)]] n = [.lit (.int kd ([a0, a1, a2, a3, a4, a5, a6, a7].getD n d))] := nth_map (fun x => [.lit (.int kd x)]) d [a0, a1, a2, a3, a4, a5, a6, a7] n
@[go_sem] theorem nth_s8 {d a0 a1 a2 a3 a4 a5 a6 a7 : ByteArray} {n : Nat} : nth [.lit (.string d)] [[.lit (.string a0)], [.lit (.string a1)], [.lit (.string a2)], [.lit (.string a3)], [.lit (.string a4)], [.lit (.string a5)], [.lit (.string a6)], [.lit (.string a7)]] n = [.lit (.string ([a0, a1, a2, a3, a4, a5, a6, a7].getD n d))] := nth_map (fun x => [.lit (.string x)]) d [a0, a1, a2, a3, a4, a5, a6, a7] n
@[go_sem] theorem nth_ii8 {kd ke : IntKind} {d e a0 a1 a2 a3 a4 a5 a6 a7 b0 b1 b2 b3 b4 b5 b6 b7 : Int} {n : Nat} : nth [.lit (.int kd d), .lit (.int ke e)] [[.lit (.int kd a0), .lit (.int ke b0)], [.lit (.int kd a1), .lit (.int ke b1)], [.lit (.int kd a2), .lit (.int ke b2)], [.lit (.int kd a3), .lit (.int ke b3)], [.lit (.int kd a4), .lit (.int ke b4)], [.lit (.int kd a5), .lit (.int ke b5)], [.lit (.int kd a6), .lit (.int ke b6)], [.lit (.int kd a7), .lit (.int ke b7)]] n = [.lit (.int kd ([(a0, b0), (a1, b1), (a2, b2), (a3, b3), (a4, b4), (a5, b5), (a6, b6), (a7, b7)].getD n (d, e)).1), .lit (.int ke ([(a0, b0), (a1, b1), (a2, b2), (a3, b3), (a4, b4), (a5, b5), (a6, b6), (a7, b7)].getD n (d, e)).2)] := nth_map (fun x : Int × Int => [.lit (.int kd x.1), .lit (.int ke x.2)]) (d, e) [(a0, b0), (a1, b1), (a2, b2), (a3, b3), (a4, b4), (a5, b5), (a6, b6), (a7, b7)] n
@[go_sem] theorem nth_i9 {kd : IntKind} {d a0 a1 a2 a3 a4 a5 a6 a7 a8 : Int} {n : Nat} : nth [.lit (.int kd d)] [[.lit (.int kd a0)], [.lit (.int kd a1)], [.lit (.int kd a2)], [.lit (.int kd a3)], [.lit (.int kd a4)], [.lit (.int kd a5)], [.lit (.int kd a6)], [.lit (.int kd a7)], [.lit (.int kd a8)]] n = [.lit (.int kd ([a0, a1, a2, a3, a4, a5, a6, a7, a8].getD n d))] := nth_map (fun x => [.lit (.int kd x)]) d [a0, a1, a2, a3, a4, a5, a6, a7, a8] n
@[go_sem] theorem nth_s9 {d a0 a1 a2 a3 a4 a5 a6 a7 a8 : ByteArray} {n : Nat} : nth [.lit (.string d)] [[.lit (.string a0)], [.lit (.string a1)], [.lit (.string a2)], [.lit (.string a3)], [.lit (.string a4)], [.lit (.string a5)], [.lit (.string a6)], [.lit (.string a7)], [.lit (.string a8)]] n = [.lit (.string ([a0, a1, a2, a3, a4, a5, a6, a7, a8].getD n d))] := nth_map (fun x => [.lit (.string x)]) d [a0, a1, a2, a3, a4, a5, a6, a7, a8] n
@[go_sem] theorem nth_ii9 {kd ke : IntKind} {d e a0 a1 a2 a3 a4 a5 a6 a7 a8 b0 b1 b2 b3 b4 b5 b6 b7 b8 : Int} {n : Nat} : nth [.lit (.int kd d), .lit (.int ke e)] [[.lit (.int kd a0), .lit (.int ke b0)], [.lit (.int kd a1), .lit (.int ke b1)], [.lit (.int kd a2), .lit (.int ke b2)], [.lit (.int kd a3), .lit (.int ke b3)], [.lit (.int kd a4), .lit (.int ke b4)], [.lit (.int kd a5), .lit (.int ke b5)], [.lit (.int kd a6), .lit (.int ke b6)], [.lit (.int kd a7), .lit (.int ke b7)], [.lit (.int kd a8), .lit (.int ke b8)]] n = [.lit (.int kd ([(a0, b0), (a1, b1), (a2, b2), (a3, b3), (a4, b4), (a5, b5), (a6, b6), (a7, b7), (a8, b8)].getD n (d, e)).1), .lit (.int ke ([(a0, b0), (a1, b1), (a2, b2), (a3, b3), (a4, b4), (a5, b5), (a6, b6), (a7, b7), (a8, b8)].getD n (d, e)).2)] := nth_map (fun x : Int × Int => [.lit (.int kd x.1), .lit (.int ke x.2)]) (d, e) [(a0, b0), (a1, b1), (a2, b2), (a3, b3), (a4, b4), (a5, b5), (a6, b6), (a7, b7), (a8, b8)] n
@[go_sem] theorem nth_i10 {kd : IntKind} {d a0 a1 a2 a3 a4 a5 a6 a7 a8 a9 : Int} {n : Nat} : nth [.lit (.int kd d)] [[.lit (.int kd a0)], [.lit (.int kd a1)], [.lit (.int kd a2)], [.lit (.int kd a3)], [.lit (.int kd a4)], [.lit (.int kd a5)], [.lit (.int kd a6)], [.lit (.int kd a7)], [.lit (.int kd a8)], [.lit (.int kd a9)]] n = [.lit (.int kd ([a0, a1, a2, a3, a4, a5, a6, a7, a8, a9].getD n d))] := nth_map (fun x => [.lit (.int kd x)]) d [a0, a1, a2, a3, a4, a5, a6, a7, a8, a9] n
@[go_sem] theorem nth_s10 {d a0 a1 a2 a3 a4 a5 a6 a7 a8 a9 : ByteArray} {n : Nat} : nth [.lit (.string d)] [[.lit (.string a0)], [.lit (.string a1)], [.lit (.string a2)], [.lit (.string a3)], [.lit (.string a4)], [.lit (.string a5)], [.lit (.string a6)], [.lit (.string a7)], [.lit (.string a8)], [.lit (.string a9)]] n = [.lit (.string ([a0, a1, a2, a3, a4, a5, a6, a7, a8, a9].getD n d))] := nth_map (fun x => [.lit (.string x)]) d [a0, a1, a2, a3, a4, a5, a6, a7, a8, a9] n
@[go_sem] theorem nth_ii10 {kd ke : IntKind} {d e a0 a1 a2 a3 a4 a5 a6 a7 a8 a9 b0 b1 b2 b3 b4 b5 b6 b7 b8 b9 : Int} {n : Nat} : nth [.lit (.int kd d), .lit (.int ke e)] [[.lit (.int kd a0), .lit (.int ke b0)], [.lit (.int kd a1), .lit (.int ke b1)], [.lit (.int kd a2), .lit (.int ke b2)], [.lit (.int kd a3), .lit (.int ke b3)], [.lit (.int kd a4), .lit (.int ke b4)], [.lit (.int kd a5), .lit (.int ke b5)], [.lit (.int kd a6), .lit (.int ke b6)], [.lit (.int kd a7), .lit (.int ke b7)], [.lit (.int kd a8), .lit (.int ke b8)], [.lit (.int kd a9), .lit (.int ke b9)]] n = [.lit (.int kd ([(a0, b0), (a1, b1), (a2, b2), (a3, b3), (a4, b4), (a5, b5), (a6, b6), (a7, b7), (a8, b8), (a9, b9)].getD n (d, e)).1), .lit (.int ke ([(a0, b0), (a1, b1), (a2, b2), (a3, b3), (a4, b4), (a5, b5), (a6, b6), (a7, b7), (a8, b8), (a9, b9)].getD n (d, e)).2)] := nth_map (fun x : Int × Int => [.lit (.int kd x.1), .lit (.int ke x.2)]) (d, e) [(a0, b0), (a1, b1), (a2, b2), (a3, b3), (a4, b4), (a5, b5), (a6, b6), (a7, b7), (a8, b8), (a9, b9)] n
@[go_sem] theorem nth_i11 {kd : IntKind} {d a0 a1 a2 a3 a4 a5 a6 a7 a8 a9 a10 : Int} {n : Nat} : nth [.lit (.int kd d)] [[.lit (.int kd a0)], [.lit (.int kd a1)], [.lit (.int kd a2)], [.lit (.int kd a3)], [.lit (.int kd a4)], [.lit (.int kd a5)], [.lit (.int kd a6)], [.lit (.int kd a7)], [.lit (.int kd a8)], [.lit (.int kd a9)], [.lit (.int kd a10)]] n = [.lit (.int kd ([a0, a1, a2, a3, a4, a5, a6, a7, a8, a9, a10].getD n d))] := nth_map (fun x => [.lit (.int kd x)]) d [a0, a1, a2, a3, a4, a5, a6, a7, a8, a9, a10] n
@[go_sem] theorem nth_s11 {d a0 a1 a2 a3 a4 a5 a6 a7 a8 a9 a10 : ByteArray} {n : Nat} : nth [.lit (.string d)] [[.lit (.string a0)], [.lit (.string a1)], [.lit (.string a2)], [.lit (.string a3)], [.lit (.string a4)], [.lit (.string a5)], [.lit (.string a6)], [.lit (.string a7)], [.lit (.string a8)], [.lit (.string a9)], [.lit (.string a10)]] n = [.lit (.string ([a0, a1, a2, a3, a4, a5, a6, a7, a8, a9, a10].getD n d))] := nth_map (fun x => [.lit (.string x)]) d [a0, a1, a2, a3, a4, a5, a6, a7, a8, a9, a10] n
@[go_sem] theorem nth_ii11 {kd ke : IntKind} {d e a0 a1 a2 a3 a4 a5 a6 a7 a8 a9 a10 b0 b1 b2 b3 b4 b5 b6 b7 b8 b9 b10 : Int} {n : Nat} : nth [.lit (.int kd d), .lit (.int ke e)] [[.lit (.int kd a0), .lit (.int ke b0)], [.lit (.int kd a1), .lit (.int ke b1)], [.lit (.int kd a2), .lit (.int ke b2)], [.lit (.int kd a3), .lit (.int ke b3)], [.lit (.int kd a4), .lit (.int ke b4)], [.lit (.int kd a5), .lit (.int ke b5)], [.lit (.int kd a6), .lit (.int ke b6)], [.lit (.int kd a7), .lit (.int ke b7)], [.lit (.int kd a8), .lit (.int ke b8)], [.lit (.int kd a9), .lit (.int ke b9)], [.lit (.int kd a10), .lit (.int ke b10)]] n = [.lit (.int kd ([(a0, b0), (a1, b1), (a2, b2), (a3, b3), (a4, b4), (a5, b5), (a6, b6), (a7, b7), (a8, b8), (a9, b9), (a10, b10)].getD n (d, e)).1), .lit (.int ke ([(a0, b0), (a1, b1), (a2, b2), (a3, b3), (a4, b4), (a5, b5), (a6, b6), (a7, b7), (a8, b8), (a9, b9), (a10, b10)].getD n (d, e)).2)] := nth_map (fun x : Int × Int => [.lit (.int kd x.1), .lit (.int ke x.2)]) (d, e) [(a0, b0), (a1, b1), (a2, b2), (a3, b3), (a4, b4), (a5, b5), (a6, b6), (a7, b7), (a8, b8), (a9, b9), (a10, b10)] n
@[go_sem] theorem nth_i12 {kd : IntKind} {d a0 a1 a2 a3 a4 a5 a6 a7 a8 a9 a10 a11 : Int} {n : Nat} : nth [.lit (.int kd d)] [[.lit (.int kd a0)], [.lit (.int kd a1)], [.lit (.int kd a2)], [.lit (.int kd a3)], [.lit (.int kd a4)], [.lit (.int kd a5)], [.lit (.int kd a6)], [.lit (.int kd a7)], [.lit (.int kd a8)], [.lit (.int kd a9)], [.lit (.int kd a10)], [.lit (.int kd a11)]] n = [.lit (.int kd ([a0, a1, a2, a3, a4, a5, a6, a7, a8, a9, a10, a11].getD n d))] := nth_map (fun x => [.lit (.int kd x)]) d [a0, a1, a2, a3, a4, a5, a6, a7, a8, a9, a10, a11] n
@[go_sem] theorem nth_s12 {d a0 a1 a2 a3 a4 a5 a6 a7 a8 a9 a10 a11 : ByteArray} {n : Nat} : nth [.lit (.string d)] [[.lit (.string a0)], [.lit (.string a1)], [.lit (.string a2)], [.lit (.string a3)], [.lit (.string a4)], [.lit (.string a5)], [.lit (.string a6)], [.lit (.string a7)], [.lit (.string a8)], [.lit (.string a9)], [.lit (.string a10)], [.lit (.string a11)]] n = [.lit (.string ([a0, a1, a2, a3, a4, a5, a6, a7, a8, a9, a10, a11].getD n d))] := nth_map (fun x => [.lit (.string x)]) d [a0, a1, a2, a3, a4, a5, a6, a7, a8, a9, a10, a11] n
@[go_sem] theorem nth_ii12 {kd ke : IntKind} {d e a0 a1 a2 a3 a4 a5 a6 a7 a8 a9 a10 a11 b0 b1 b2 b3 b4 b5 b6 b7 b8 b9 b10 b11 : Int} {n : Nat} : nth [.lit (.int kd d), .lit (.int ke e)] [[.lit (.int kd a0), .lit (.int ke b0)], [.lit (.int kd a1), .lit (.int ke b1)], [.lit (.int kd a2), .lit (.int ke b2)], [.lit (.int kd a3), .lit (.int ke b3)], [.lit (.int kd a4), .lit (.int ke b4)], [.lit (.int kd a5), .lit (.int ke b5)], [.lit (.int kd a6), .lit (.int ke b6)], [.lit (.int kd a7), .lit (.int ke b7)], [.lit (.int kd a8), .lit (.int ke b8)], [.lit (.int kd a9), .lit (.int ke b9)], [.lit (.int kd a10), .lit (.int ke b10)], [.lit (.int kd a11), .lit (.int ke b11)]] n = [.lit (.int kd ([(a0, b0), (a1, b1), (a2, b2), (a3, b3), (a4, b4), (a5, b5), (a6, b6), (a7, b7), (a8, b8), (a9, b9), (a10, b10), (a11, b11)].getD n (d, e)).1), .lit (.int ke ([(a0, b0), (a1, b1), (a2, b2), (a3, b3), (a4, b4), (a5, b5), (a6, b6), (a7, b7), (a8, b8), (a9, b9), (a10, b10), (a11, b11)].getD n (d, e)).2)] := nth_map (fun x : Int × Int => [.lit (.int kd x.1), .lit (.int ke x.2)]) (d, e) [(a0, b0), (a1, b1), (a2, b2), (a3, b3), (a4, b4), (a5, b5), (a6, b6), (a7, b7), (a8, b8), (a9, b9), (a10, b10), (a11, b11)] n
end Go.Proofs.Ytnbmiejjkkgckaa
/- Proved here: Calls on the abstract machine that return a pointer to a new variable, for use in the proofs of the given statements; conditions stand in each theorem. -/
set_option linter.unusedSimpArgs false
set_option linter.unusedVariables false
namespace Go.Proofs.Ytnbmiejjkkgckaa
open Go.RowKit

/-- the call yields a pair: what reads as r, and a pointer to a new variable that holds cs -/
def CMk (P : Program) (f : FuncId) (args : List V) (r : V) (cs : List V) : Prop :=
  P.enters f = true ∧ ∀ (w : World) (S : Nat → Prop) (vs : List Value), (∀ x, S x → x < w.heap.size) → RdVs w (bareE S) args vs →
    Calls P f vs.toArray w fun e w' => ∃ v0 b S' ty cells, e = .returned (.tuple #[v0, .pointer (some ⟨b, 0, none⟩)]) ∧ w.heap.size ≤ b ∧ (∀ x, S x → S' x) ∧ (∀ x, S' x → S x ∨ w.heap.size ≤ x) ∧
      (∀ x, S' x → x < w'.heap.size) ∧ RdV w' (bareE S') r v0 ∧ w'.heap[b]? = some (.cells cells ty (0, 0)) ∧ RdVs w' (bareE S') cs cells.toList ∧ cells.toList.all (·.oneCell') = true ∧ Below w.heap.size w w' ∧ ¬ S' b
theorem icall_mk {P : Program} {σ : St} {d : Option Tmp} {f : FuncId} {args : List V} {r : V} {cs : List V} {K : St → Prop} (hc : CMk P f args r cs) (ha : V.pures args = true)
    (hK : K (({ σ with h := (σ.nx, .box cs) :: σ.h, nx := σ.nx + 1 } : St).put d (.tup [r, .own σ.nx]))) : ICall P σ d f args K := by
  refine ⟨hc.1, fun E w vs hr hbd hargs => (hc.2 w E.S vs hr.slt (RdVs.bare args ha hargs)).mono ?_⟩
  rintro e w' ⟨v0, b, S', ty, cells, rfl, s0, s1, s2, s3, hrv, hh, hcs, hones, hb, hSb⟩
  have hdf : DefRel ({ σ with fr := [], df := [] } : St).df ({ tmps := #[], defers := [] } : Act).defers := trivial
  have hrF : RelF E { σ with fr := [], df := [] } { tmps := #[], defers := [] } w := ⟨hr, hbd, by show RdVs w E [] []; simp only [RdVs], hdf⟩
  obtain ⟨k1, k2, k3⟩ := hrF.add (hv := .pointer (some ⟨b, 0, none⟩)) (blk := .box cs) (S' := S') hb s1 s2 s3 (fun hE => ⟨b, cells, ty, rfl, hh, RdVs.unbare (E := ({ E with S := S' } : Env).add σ.nx (.pointer (some ⟨b, 0, none⟩))) cs hcs, hones⟩)
    (fun b' hb' => by
      simp only [blockOf, Option.some.injEq] at hb'
      subst hb'
      exact ⟨s0, (Array.getElem?_eq_some_iff.1 hh).1, hSb⟩) rfl rfl
  refine ⟨_, .tup [r, .own σ.nx], _, σ.nx + 1, _, rfl, k1.rel, k1.bound, k2, ?_, hK⟩
  simp only [RdV]
  refine ⟨_, rfl, ?_⟩
  simp only [RdVs, and_true]
  exact ⟨RdV.unbare (E := ({ E with S := S' } : Env).add σ.nx (.pointer (some ⟨b, 0, none⟩))) r hrv, by simpa only [RdV] using k3⟩
def mkK (r : V) (cs' : List V) (x : V) (σ : St) : Prop :=
  match x with
  | .tup [y, .own i] => y.lend σ.h = r ∧ r.pure = true ∧ boxK1 (σ.h.look i) σ.h cs'
  | _ => False
theorem two_list {w : World} {E : Env} {a b : V} {vs : Array Value} (h : RdVs w E [a, b] vs.toList) : ∃ x y, vs = #[x, y] ∧ RdV w E a x ∧ RdV w E b y := by
  obtain ⟨l⟩ := vs
  rcases l with _ | ⟨x, _ | ⟨y, _ | ⟨z, l⟩⟩⟩ <;> simp only [RdVs, and_false, and_true] at h
  exact ⟨x, y, rfl, h⟩
theorem cmk_of {P : Program} {f : FuncId} {fn : Func} {c : Code} {args cs' : List V} {r : V} {n : Nat} {rs : List ResultVar} (he : P.enters f = true) (hf : P.funcs[f]? = some fn) (hb : fn.body = some c) (hn : fn.ntmps = n) (hrs : fn.results.toList = rs)
    (h : AWP P 0 c (retI P rs (mkK r cs')) (entry P n args [] 0)) : CMk P f args r cs' := by
  refine ⟨he, fun w S vs hS hargs => ?_⟩
  let E0 : Env := ⟨S, fun _ => none, fun _ => False, fun x => x < w.heap.size, fun _ => none⟩
  have hrel : Rel w E0 [] := ⟨fun i blk hl => by simp [Heap.look] at hl, fun i hv hB => by simp [E0] at hB, fun i hv hF => by simp [E0] at hF, fun i hv b' hB hbk => by simp [E0] at hB, fun i j hi hj b' hBi hBj _ _ => by simp [E0] at hBi, hS, fun x hx => hx⟩
  refine calls_of_awp hf hb hn hrs h hrel (fun i hi => hi.elim) (fun i hi => hi.elim) (vs := vs) (RdVs.unbare (E := E0) args hargs) ?_
  intro v x σ' E' a' w' h1 h2 h3 hK
  unfold mkK at hK
  split at hK
  · rename_i y i
    obtain ⟨k1, k2, k3⟩ := hK
    simp only [RdV] at h3
    obtain ⟨us, rfl, h3⟩ := h3
    obtain ⟨v0, v1, rfl, h4, h5⟩ := two_list h3
    unfold boxK1 at k3
    split at k3
    · rename_i cs2 hl
      obtain ⟨k4, k5⟩ := k3
      obtain ⟨b', cells', ty', hB, hh', hcs', hones'⟩ := box_at h1.rel hl
      simp only [RdV] at h5
      rw [h5.2.2 _ (.inl hB)]
      have q := h1.rel.own i _ b' hB rfl
      have hbs : w.heap.size ≤ b' := Nat.le_of_not_lt fun hlt => q.2.2 ((h2.D b').2 hlt)
      refine ⟨v0, b', lentS E' σ'.h, ty', cells', rfl, hbs, fun x hx => .inl (h2.S x hx), fun x hx => ?_, fun x hx => ?_, ?_, hh', ?_, hones', ⟨h2.os, h2.tape, h2.output, h2.size, fun k hk => h2.keep k (.inr hk)⟩, fun hsb => ?_⟩
      · rcases hx with hx | ⟨j, hv', _, _, _, _, hB', _, hbk⟩
        · rcases h2.S' x hx with q | q
          · exact .inl q
          · exact .inr (Nat.le_of_not_lt fun hlt => q hlt)
        · have q := (h1.rel.own j hv' x hB' hbk).2.2
          exact .inr (Nat.le_of_not_lt fun hlt => q ((h2.D x).2 hlt))
      · rcases hx with hx | ⟨j, hv', _, _, _, _, hB', _, hbk⟩
        · exact h1.rel.slt x hx
        · exact (h1.rel.own j hv' x hB' hbk).1
      · have := RdV.lend h1.rel y (by rw [k1]; exact k2) h4
        rw [k1] at this
        exact this
      · have := RdVs.lend h1.rel cs2 (by rw [k4]; exact k5) hcs'
        rw [k4] at this
        exact this
      · rcases hsb with hx | ⟨j, hv', _, _, _, _, hB', hlk, hbk⟩
        · exact q.2.1 hx
        · have hi0 := h1.rel.apart j i hv' _ b' hB' hB hbk rfl
          subst hi0
          rw [hl] at hlk
          cases hlk
    · exact k3.elim
  · exact hK.elim
attribute [go_sem] mkK
end Go.Proofs.Ytnbmiejjkkgckaa
/- Proved here: Small helps for walks in the abstract machine, for use in the proofs of the given statements; conditions stand in each theorem. -/
set_option linter.unusedSimpArgs false
set_option linter.unusedVariables false
namespace Go.Proofs.Ytnbmiejjkkgckaa
open Go.RowKit
/-- every block stays what it is -/
@[go_sem] def idRen : Heap → Ren
  | [] => []
  | (i, _) :: r => (i, some i) :: idRen r
theorem weak_self {n0 : Nat} {σ σ' : St} (hok : wkOk n0 (idRen σ'.h) σ σ') : Weak n0 σ σ' := weak_of _ hok
/-- handles of blocks that are gone are dropped -/
def cleanO (b : Option Blk) (x : V) : V :=
  match b with
  | some _ => x
  | none => .dead
mutual
def cleanV (h : Heap) : V → V
  | .own i => cleanO (h.look i) (.own i)
  | .ptr i o => cleanO (h.look i) (.ptr i o)
  | .rptr i k n j => cleanO (h.look i) (.rptr i k n j)
  | .agg cs => .agg (cleanVs h cs)
  | .tup cs => .tup (cleanVs h cs)
  | .cond g x => .cond g (cleanV h x)
  | .clo f cs => .clo f (cleanVs h cs)
  | .t x => .t x
  | .elem k d xs i j => .elem k d xs i j
  | .dead => .dead
def cleanVs (h : Heap) : List V → List V
  | [] => []
  | x :: xs => cleanV h x :: cleanVs h xs
end
def cleanS (σ : St) : St := { σ with fr := cleanVs σ.h σ.fr }
/-- slots that are not looked at again -/
def deadS : List Nat → St → St
  | [], σ => σ
  | i :: r, σ => deadS r (setS i .dead σ)
attribute [go_sem] deadS cleanO cleanV cleanVs cleanS
end Go.Proofs.Ytnbmiejjkkgckaa
/- Proved here: A call that takes and gives blocks of the caller's own, as a step of the abstract machine, for use in the proofs of the given statements; conditions stand in each theorem. -/
set_option linter.unusedSimpArgs false
set_option linter.unusedVariables false
namespace Go.Proofs.Ytnbmiejjkkgckaa
open Go.RowKit

def posG : List Nat → Nat → Nat → Option Nat
  | [], _, _ => none
  | a :: r, i, k => if i = a then some k else posG r i (k + 1)
def numG (is : List Nat) (nx j : Nat) : Nat :=
  match is[j]? with
  | some i => i
  | none => nx + (j - is.length)
def outNew (m : Nat) (g : Nat → Nat) : Heap → Heap
  | [] => []
  | (j, b) :: r => if j < m then outNew m g r else (g j, b.ren g) :: outNew m g r
def outB1 (i : Nat) (g : Nat → Nat) (b : Option Blk) (r : Heap) : Heap :=
  match b with
  | some b => (i, b.ren g) :: r
  | none => r
def outP (i : Nat) (old : Blk) (g : Nat → Nat) (h' : Heap) (p : Option Nat) (r : Heap) : Heap :=
  match p with
  | some j => outB1 i g (h'.look j) r
  | none => (i, old) :: r
def outOld (is : List Nat) (g : Nat → Nat) (h' : Heap) : Heap → Heap
  | [] => []
  | (i, b) :: r => outP i b g h' (posG is i 0) (outOld is g h' r)
def inH (m : Nat) (g : Nat → Nat) (H : Heap) : Heap → Prop
  | [] => True
  | (j, b) :: r => (j < m ∧ lowL m b.ment = true ∧ H.look (g j) = some (b.ren g)) ∧ inH m g H r
def allB (m : Nat) (h : Heap) : Bool := (List.range m).all fun j => (h.look j).isSome
def keysB (n : Nat) (h : Heap) : Bool := h.all fun p => decide (p.1 < n)
theorem look_app (i : Nat) : ∀ (a b : Heap), Heap.look (a ++ b) i = match Heap.look a i with | some x => some x | none => Heap.look b i
  | [], b => rfl
  | (j, x) :: r, b => by
    simp only [List.cons_append, Heap.look]
    split
    · rfl
    · exact look_app i r b
theorem posG_none : ∀ {is : List Nat} {i k : Nat}, i ∉ is → posG is i k = none
  | [], _, _, _ => rfl
  | a :: r, i, k, h => by
    simp only [List.mem_cons, not_or] at h
    rw [posG, if_neg h.1, posG_none h.2]
theorem posG_at : ∀ {is : List Nat} {j k : Nat} (h : j < is.length), is.Nodup → posG is is[j] k = some (k + j)
  | a :: r, 0, k, h, _ => by simp [posG]
  | a :: r, j + 1, k, h, hn => by
    rw [List.nodup_cons] at hn
    simp only [List.getElem_cons_succ, posG]
    rw [if_neg (fun e => hn.1 (by rw [← e]; exact List.getElem_mem _)), posG_at (by simpa using h) hn.2]
    congr 1; omega
section
variable {m n' : Nat} {g : Nat → Nat} (hinj : ∀ i j, i < n' → j < n' → g i = g j → i = j)
include hinj
theorem outNew_at {j : Nat} (hj : j < n') : ∀ {h : Heap}, keysB n' h = true → (outNew m g h).look (g j) = if j < m then none else (h.look j).map (Blk.ren g)
  | [], _ => by simp [outNew, Heap.look]
  | (k, b) :: r, hk => by
    simp only [keysB, List.all_cons, Bool.and_eq_true, decide_eq_true_eq] at hk
    have ih := outNew_at hj (h := r) (by simpa [keysB] using hk.2)
    unfold outNew
    by_cases hkm : k < m
    · rw [if_pos hkm, ih]
      split
      · rfl
      · rename_i hjm
        rw [Heap.look, if_neg (by omega)]
    · rw [if_neg hkm, Heap.look]
      by_cases hjk : j = k
      · subst hjk
        rw [if_pos rfl, if_neg hkm, Heap.look, if_pos rfl]; rfl
      · rw [if_neg (fun e => hjk (hinj _ _ hj hk.1 e)), ih, Heap.look, if_neg hjk]
end
theorem outNew_out {m n' : Nat} {g : Nat → Nat} {i : Nat} (hi : ∀ j, j < n' → g j ≠ i) : ∀ {h : Heap}, keysB n' h = true → (outNew m g h).look i = none
  | [], _ => rfl
  | (k, b) :: r, hk => by
    simp only [keysB, List.all_cons, Bool.and_eq_true, decide_eq_true_eq] at hk
    have ih := outNew_out hi (m := m) (h := r) (by simpa [keysB] using hk.2)
    unfold outNew
    split
    · exact ih
    · rw [Heap.look, if_neg (fun e => hi k hk.1 e.symm), ih]
theorem outOld_at {is : List Nat} {g : Nat → Nat} {h' : Heap} {i : Nat} : ∀ {H : Heap}, (outOld is g h' H).look i = match posG is i 0 with | some j => (match H.look i with | some _ => (h'.look j).map (Blk.ren g) | none => none) | none => H.look i
  | [] => by
    simp only [outOld, Heap.look]
    split <;> rfl
  | (k, b) :: r => by
    have ih := outOld_at (is := is) (g := g) (h' := h') (i := i) (H := r)
    unfold outOld outP
    by_cases hik : i = k
    · subst hik
      cases hp : posG is i 0 with
      | none => simp only [Heap.look, if_true]
      | some j =>
        simp only [Heap.look, if_true]
        rw [hp] at ih
        simp only at ih
        unfold outB1
        cases hl : Heap.look h' j with
        | none => simp only [Option.map_none]; rw [ih, hl]; split <;> rfl
        | some b' => simp only [Heap.look, if_true, Option.map_some]
    · have hne : ∀ r', (match posG is k 0 with | some j => outB1 k g (Heap.look h' j) r' | none => (k, b) :: r').look i = Heap.look r' i := fun r' => by
        cases posG is k 0 with
        | none => simp only [Heap.look, if_neg hik]
        | some j =>
          simp only [outB1]
          cases Heap.look h' j with
          | none => rfl
          | some b' => simp only [Heap.look, if_neg hik]
      rw [hne, ih]
      simp only [Heap.look, if_neg hik]
theorem inH_inv {m : Nat} {g : Nat → Nat} {H : Heap} : ∀ {h : Heap}, inH m g H h → ∀ j blk, h.look j = some blk → j < m ∧ lowL m blk.ment = true ∧ H.look (g j) = some (blk.ren g)
  | [], _, j, blk, hl => by simp [Heap.look] at hl
  | (k, b) :: r, hi, j, blk, hl => by
    rw [Heap.look] at hl
    split at hl
    · rename_i e; subst e
      injection hl with hl; subst hl
      exact hi.1
    · exact inH_inv hi.2 j blk hl
theorem allB_inv {m : Nat} {h : Heap} (ha : allB m h = true) : ∀ j, j < m → ∃ blk, h.look j = some blk := by
  intro j hj
  simp only [allB, List.all_eq_true, List.mem_range] at ha
  have := ha j hj
  cases hl : h.look j with
  | none => rw [hl] at this; cases this
  | some b => exact ⟨b, rfl⟩
theorem numG_lt {is : List Nat} {nx j : Nat} (h : j < is.length) : numG is nx j = is[j] := by unfold numG; rw [List.getElem?_eq_getElem h]
theorem numG_ge {is : List Nat} {nx j : Nat} (h : is.length ≤ j) : numG is nx j = nx + (j - is.length) := by unfold numG; rw [List.getElem?_eq_none h]
/-- the numbers of the contract's blocks are 'is'; the new ones follow -/
theorem icall_io {P : Program} {σ : St} {d : Option Tmp} {f : FuncId} {m n' : Nat} {h h' : Heap} {args xs : List V} {r : V} {K : St → Prop} (hc : CIO P f m h args r h' n') (is : List Nat) (hlen : is.length = m) (hmn : m ≤ n') (hnd : is.Nodup)
    (hin : inH m (numG is σ.nx) σ.h h) (hall : allB m h = true) (hkeys : keysB n' h' = true) (hargs : lowL m (V.ments args) = true) (hxs : xs = V.rens (numG is σ.nx) args)
    (hK : K (({ σ with h := outNew m (numG is σ.nx) h' ++ outOld is (numG is σ.nx) h' σ.h, nx := σ.nx + (n' - m) } : St).put d (r.ren (numG is σ.nx)))) : ICall P σ d f xs K := by
  subst hlen
  refine ⟨hc.1, fun E w vs hr hbd hvs => ?_⟩
  have hlow := inH_inv hin
  have hal := allB_inv hall
  have hold : ∀ j (hj : j < is.length), E.U is[j] ∧ is[j] < σ.nx ∧ ∃ blk, σ.h.look is[j] = some blk := fun j hj => by
    obtain ⟨blk, hb⟩ := hal j hj
    have h2 := (hlow j blk hb).2.2
    rw [numG_lt hj] at h2
    have h3 := hr.uses h2
    exact ⟨h3, hbd _ h3, _, h2⟩
  have hinj : ∀ i j, i < n' → j < n' → numG is σ.nx i = numG is σ.nx j → i = j := fun i j hi hj he => by
    by_cases hi1 : i < is.length
    · by_cases hj1 : j < is.length
      · rw [numG_lt hi1, numG_lt hj1] at he
        exact (List.getElem_inj hnd).1 he
      · rw [numG_lt hi1, numG_ge (by omega)] at he
        have := (hold i hi1).2.1; omega
    · by_cases hj1 : j < is.length
      · rw [numG_lt hj1, numG_ge (by omega)] at he
        have := (hold j hj1).2.1; omega
      · rw [numG_ge (by omega), numG_ge (by omega)] at he; omega
  have hnew : ∀ j, is.length ≤ j → j < n' → ¬ E.U (numG is σ.nx j) := fun j h1 h2 hU => by
    rw [numG_ge h1] at hU
    have := hbd _ hU; omega
  subst hxs
  refine (cio_use hc hmn hinj hlow hal hargs hr hnew hvs).mono ?_
  rintro e w' ⟨v, E', rfl, h1, h2, h3, h4⟩
  refine ⟨v, _, _, _, E', rfl, h1 _ (fun j hj => ?_) (fun i hi => ?_), fun q hq => ?_, h2, h3, hK⟩
  · rw [look_app, outNew_at hinj hj hkeys]
    by_cases hjm : j < is.length
    · rw [if_pos hjm]
      simp only
      rw [outOld_at, numG_lt hjm, posG_at hjm hnd, Nat.zero_add]
      obtain ⟨_, _, blk, hb⟩ := hold j hjm
      simp only [hb]
    · rw [if_neg hjm]
      cases hl : (Heap.look h' j).map (Blk.ren (numG is σ.nx)) with
      | some x => rfl
      | none =>
        simp only
        have hno : σ.h.look (numG is σ.nx j) = none := by
          cases hl2 : σ.h.look (numG is σ.nx j) with
          | none => rfl
          | some b => exact (hnew j (by omega) hj (hr.uses hl2)).elim
        rw [outOld_at, hno]
        split <;> rfl
  · rw [look_app, outNew_out hi hkeys]
    simp only
    rw [outOld_at, posG_none]
    intro hmem
    obtain ⟨j, hj, he⟩ := List.mem_iff_getElem.1 hmem
    exact hi j (by omega) (by rw [numG_lt hj]; exact he)
  · rcases h4 q hq with h4 | ⟨j, h5, h6, rfl⟩
    · have := hbd q h4
      show q < σ.nx + (n' - is.length)
      omega
    · rw [numG_ge h5]
      show _ < σ.nx + (n' - is.length)
      omega
attribute [go_sem] posG numG outNew outB1 outP outOld inH lowL V.ment V.ments mentE mentR Blk.ment ioK
end Go.Proofs.Ytnbmiejjkkgckaa
