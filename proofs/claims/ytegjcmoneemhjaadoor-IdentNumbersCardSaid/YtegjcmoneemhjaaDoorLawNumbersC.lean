/- The law IdentNumbers: the ways to its comparison. -/
import Derived.Test.YtegjcmoneemhjaaDoorLawNumbersA
namespace Go.Proofs.YtegjcmoneemhjaaDoor
open Go.RowKit
set_option linter.unusedVariables false
set_option linter.unusedSimpArgs false

theorem numbers_eq (b a c : ByteArray) (m n : Nat) (E8 : ((m : Int) == (n : Int)) = false) (DB : Hid (∀ (h : b.size - 1 < b.size), isDigit ((b[b.size - 1]).toNat : Int) = false)) (DA : Hid (∀ (h : 0 < a.size), isDigit ((a[0]).toNat : Int) = false)) (DC : Hid (∀ (h : 0 < c.size), isDigit ((c[0]).toNat : Int) = false)) :
    (decide (natural (b.data.toList ++ digitsN m ++ a.data.toList) (b.data.toList ++ digitsN n ++ c.data.toList) < 0) == decide (m < n)) = true := by
  have hmn : m ≠ n := by rintro rfl; simp at E8
  have HN := natural_numbers b.data.toList m n a.data.toList c.data.toList (last_not DB.out) (head_not DA.out) (head_not DC.out) hmn
  have e : decide (natural (b.data.toList ++ digitsN m ++ a.data.toList) (b.data.toList ++ digitsN n ++ c.data.toList) < 0) = decide (m < n) := by rw [decide_eq_decide, HN]
  rw [e]; simp

set_option maxHeartbeats 4000000 in
set_option maxRecDepth 100000 in
theorem numbers_endeee (b : ByteArray) (m n : Nat) (a c : ByteArray) (w : World) (HT : Hid (Tabs w)) (h1 : ¬ 200 < b.size) (h2 : ¬ 200 < a.size) (h3 : ¬ 200 < c.size) (h6 : m ≤ 1000000000) (h7 : n ≤ 1000000000) (E8 : ((m : Int) == (n : Int)) = false) (b0 : b.size = 0) (DB : Hid (∀ (h : b.size - 1 < b.size), isDigit ((b[b.size - 1]).toNat : Int) = false)) (a0 : a.size = 0) (DA : Hid (∀ (h : 0 < a.size), isDigit ((a[0]).toNat : Int) = false)) (c0 : c.size = 0) (DC : Hid (∀ (h : 0 < c.size), isDigit ((c[0]).toNat : Int) = false)) :
    Calls Tryd.prog 6 #[.string b, .int .i64 m, .int .i64 n, .string a, .string c] w fun e w' => e = .returned (.bool true) ∧ Below w.heap.size w w' := by
  have l1 := digitsN_len 9 m (by omega)
  have l2 := digitsN_len 9 n (by omega)
  have s1 : b.size + (ofL (digitsN m)).size ≤ 9223372036854775807 := by rw [ofL_size]; omega
  have s2 : b.size + (ofL (digitsN n)).size ≤ 9223372036854775807 := by rw [ofL_size]; omega
  have s3 : (b ++ ofL (digitsN m)).size + a.size ≤ 9223372036854775807 := by rw [ByteArray.size_append, ofL_size]; omega
  have s4 : (b ++ ofL (digitsN n)).size + c.size ≤ 9223372036854775807 := by rw [ByteArray.size_append, ofL_size]; omega
  have D1 := Lib.hid (fun W => digits4_c (m + 1) m W (by omega) (by omega))
  have D2 := Lib.hid (fun W => digits4_c (n + 1) n W (by omega) (by omega))
  have HE := Lib.hid (numbers_eq b a c m n E8 DB DA DC)
  have XN := Lib.hid (fun W => Natural_c (b ++ ofL (digitsN m) ++ a) (b ++ ofL (digitsN n) ++ c) W (by rw [ByteArray.size_append, ByteArray.size_append, ofL_size]; omega) (by rw [ByteArray.size_append, ByteArray.size_append, ofL_size]; omega))
  rw [app_list, app_list, app_list, app_list, ofL_data, ofL_data] at XN
  generalize natural (b.data.toList ++ digitsN m ++ a.data.toList) (b.data.toList ++ digitsN n ++ c.data.toList) = x at *
  go_enter Tryd.func6, Tryd.ntmps6
  go_wp2_with fail
  refine (awake_c _ HT.out).mono ?_; rintro e w1 ⟨rfl, hb⟩
  have hB := Lib.hid hb; clear hb
  go_wp2_with fail
  refine (D1.out _).mono ?_; rintro e w2 ⟨rfl, hb⟩
  have hB := Lib.hid (blwT hB.out hb); clear hb
  go_wp2_with fail
  refine (D2.out _).mono ?_; rintro e w3 ⟨rfl, hb⟩
  have hB := Lib.hid (blwT hB.out hb); clear hb
  go_wp2_with fail
  refine (XN.out _).mono ?_; rintro e w4 ⟨rfl, hb⟩
  have hB := Lib.hid (blwT hB.out hb); clear hb
  go_wp2_with fail
  go_ret
  exact ⟨ret_bool HE.out, hB.out⟩

set_option maxHeartbeats 4000000 in
set_option maxRecDepth 100000 in
theorem numbers_endeen (b : ByteArray) (m n : Nat) (a c : ByteArray) (w : World) (HT : Hid (Tabs w)) (h1 : ¬ 200 < b.size) (h2 : ¬ 200 < a.size) (h3 : ¬ 200 < c.size) (h6 : m ≤ 1000000000) (h7 : n ≤ 1000000000) (E8 : ((m : Int) == (n : Int)) = false) (b0 : b.size = 0) (DB : Hid (∀ (h : b.size - 1 < b.size), isDigit ((b[b.size - 1]).toNat : Int) = false)) (a0 : a.size = 0) (DA : Hid (∀ (h : 0 < a.size), isDigit ((a[0]).toNat : Int) = false)) (c0 : 0 < c.size) (DC : Hid (∀ (h : 0 < c.size), isDigit ((c[0]).toNat : Int) = false)) :
    Calls Tryd.prog 6 #[.string b, .int .i64 m, .int .i64 n, .string a, .string c] w fun e w' => e = .returned (.bool true) ∧ Below w.heap.size w w' := by
  have l1 := digitsN_len 9 m (by omega)
  have l2 := digitsN_len 9 n (by omega)
  have s1 : b.size + (ofL (digitsN m)).size ≤ 9223372036854775807 := by rw [ofL_size]; omega
  have s2 : b.size + (ofL (digitsN n)).size ≤ 9223372036854775807 := by rw [ofL_size]; omega
  have s3 : (b ++ ofL (digitsN m)).size + a.size ≤ 9223372036854775807 := by rw [ByteArray.size_append, ofL_size]; omega
  have s4 : (b ++ ofL (digitsN n)).size + c.size ≤ 9223372036854775807 := by rw [ByteArray.size_append, ofL_size]; omega
  have D1 := Lib.hid (fun W => digits4_c (m + 1) m W (by omega) (by omega))
  have D2 := Lib.hid (fun W => digits4_c (n + 1) n W (by omega) (by omega))
  have HE := Lib.hid (numbers_eq b a c m n E8 DB DA DC)
  have XN := Lib.hid (fun W => Natural_c (b ++ ofL (digitsN m) ++ a) (b ++ ofL (digitsN n) ++ c) W (by rw [ByteArray.size_append, ByteArray.size_append, ofL_size]; omega) (by rw [ByteArray.size_append, ByteArray.size_append, ofL_size]; omega))
  rw [app_list, app_list, app_list, app_list, ofL_data, ofL_data] at XN
  generalize natural (b.data.toList ++ digitsN m ++ a.data.toList) (b.data.toList ++ digitsN n ++ c.data.toList) = x at *
  go_enter Tryd.func6, Tryd.ntmps6
  go_wp2_with fail
  refine (awake_c _ HT.out).mono ?_; rintro e w1 ⟨rfl, hb⟩
  have hB := Lib.hid hb; clear hb
  go_wp2_with fail
  refine (rDigit_c _ false _ (DC.out _) (u8_lt _).1 (u8_lt _).2).mono ?_; rintro e w' ⟨rfl, rfl⟩
  go_wp2_with fail
  refine (D1.out _).mono ?_; rintro e w2 ⟨rfl, hb⟩
  have hB := Lib.hid (blwT hB.out hb); clear hb
  go_wp2_with fail
  refine (D2.out _).mono ?_; rintro e w3 ⟨rfl, hb⟩
  have hB := Lib.hid (blwT hB.out hb); clear hb
  go_wp2_with fail
  refine (XN.out _).mono ?_; rintro e w4 ⟨rfl, hb⟩
  have hB := Lib.hid (blwT hB.out hb); clear hb
  go_wp2_with fail
  go_ret
  exact ⟨ret_bool HE.out, hB.out⟩

set_option maxHeartbeats 4000000 in
set_option maxRecDepth 100000 in
theorem numbers_endene (b : ByteArray) (m n : Nat) (a c : ByteArray) (w : World) (HT : Hid (Tabs w)) (h1 : ¬ 200 < b.size) (h2 : ¬ 200 < a.size) (h3 : ¬ 200 < c.size) (h6 : m ≤ 1000000000) (h7 : n ≤ 1000000000) (E8 : ((m : Int) == (n : Int)) = false) (b0 : b.size = 0) (DB : Hid (∀ (h : b.size - 1 < b.size), isDigit ((b[b.size - 1]).toNat : Int) = false)) (a0 : 0 < a.size) (DA : Hid (∀ (h : 0 < a.size), isDigit ((a[0]).toNat : Int) = false)) (c0 : c.size = 0) (DC : Hid (∀ (h : 0 < c.size), isDigit ((c[0]).toNat : Int) = false)) :
    Calls Tryd.prog 6 #[.string b, .int .i64 m, .int .i64 n, .string a, .string c] w fun e w' => e = .returned (.bool true) ∧ Below w.heap.size w w' := by
  have l1 := digitsN_len 9 m (by omega)
  have l2 := digitsN_len 9 n (by omega)
  have s1 : b.size + (ofL (digitsN m)).size ≤ 9223372036854775807 := by rw [ofL_size]; omega
  have s2 : b.size + (ofL (digitsN n)).size ≤ 9223372036854775807 := by rw [ofL_size]; omega
  have s3 : (b ++ ofL (digitsN m)).size + a.size ≤ 9223372036854775807 := by rw [ByteArray.size_append, ofL_size]; omega
  have s4 : (b ++ ofL (digitsN n)).size + c.size ≤ 9223372036854775807 := by rw [ByteArray.size_append, ofL_size]; omega
  have D1 := Lib.hid (fun W => digits4_c (m + 1) m W (by omega) (by omega))
  have D2 := Lib.hid (fun W => digits4_c (n + 1) n W (by omega) (by omega))
  have HE := Lib.hid (numbers_eq b a c m n E8 DB DA DC)
  have XN := Lib.hid (fun W => Natural_c (b ++ ofL (digitsN m) ++ a) (b ++ ofL (digitsN n) ++ c) W (by rw [ByteArray.size_append, ByteArray.size_append, ofL_size]; omega) (by rw [ByteArray.size_append, ByteArray.size_append, ofL_size]; omega))
  rw [app_list, app_list, app_list, app_list, ofL_data, ofL_data] at XN
  generalize natural (b.data.toList ++ digitsN m ++ a.data.toList) (b.data.toList ++ digitsN n ++ c.data.toList) = x at *
  go_enter Tryd.func6, Tryd.ntmps6
  go_wp2_with fail
  refine (awake_c _ HT.out).mono ?_; rintro e w1 ⟨rfl, hb⟩
  have hB := Lib.hid hb; clear hb
  go_wp2_with fail
  refine (rDigit_c _ false _ (DA.out _) (u8_lt _).1 (u8_lt _).2).mono ?_; rintro e w' ⟨rfl, rfl⟩
  go_wp2_with fail
  refine (D1.out _).mono ?_; rintro e w2 ⟨rfl, hb⟩
  have hB := Lib.hid (blwT hB.out hb); clear hb
  go_wp2_with fail
  refine (D2.out _).mono ?_; rintro e w3 ⟨rfl, hb⟩
  have hB := Lib.hid (blwT hB.out hb); clear hb
  go_wp2_with fail
  refine (XN.out _).mono ?_; rintro e w4 ⟨rfl, hb⟩
  have hB := Lib.hid (blwT hB.out hb); clear hb
  go_wp2_with fail
  go_ret
  exact ⟨ret_bool HE.out, hB.out⟩

set_option maxHeartbeats 4000000 in
set_option maxRecDepth 100000 in
theorem numbers_endenn (b : ByteArray) (m n : Nat) (a c : ByteArray) (w : World) (HT : Hid (Tabs w)) (h1 : ¬ 200 < b.size) (h2 : ¬ 200 < a.size) (h3 : ¬ 200 < c.size) (h6 : m ≤ 1000000000) (h7 : n ≤ 1000000000) (E8 : ((m : Int) == (n : Int)) = false) (b0 : b.size = 0) (DB : Hid (∀ (h : b.size - 1 < b.size), isDigit ((b[b.size - 1]).toNat : Int) = false)) (a0 : 0 < a.size) (DA : Hid (∀ (h : 0 < a.size), isDigit ((a[0]).toNat : Int) = false)) (c0 : 0 < c.size) (DC : Hid (∀ (h : 0 < c.size), isDigit ((c[0]).toNat : Int) = false)) :
    Calls Tryd.prog 6 #[.string b, .int .i64 m, .int .i64 n, .string a, .string c] w fun e w' => e = .returned (.bool true) ∧ Below w.heap.size w w' := by
  have l1 := digitsN_len 9 m (by omega)
  have l2 := digitsN_len 9 n (by omega)
  have s1 : b.size + (ofL (digitsN m)).size ≤ 9223372036854775807 := by rw [ofL_size]; omega
  have s2 : b.size + (ofL (digitsN n)).size ≤ 9223372036854775807 := by rw [ofL_size]; omega
  have s3 : (b ++ ofL (digitsN m)).size + a.size ≤ 9223372036854775807 := by rw [ByteArray.size_append, ofL_size]; omega
  have s4 : (b ++ ofL (digitsN n)).size + c.size ≤ 9223372036854775807 := by rw [ByteArray.size_append, ofL_size]; omega
  have D1 := Lib.hid (fun W => digits4_c (m + 1) m W (by omega) (by omega))
  have D2 := Lib.hid (fun W => digits4_c (n + 1) n W (by omega) (by omega))
  have HE := Lib.hid (numbers_eq b a c m n E8 DB DA DC)
  have XN := Lib.hid (fun W => Natural_c (b ++ ofL (digitsN m) ++ a) (b ++ ofL (digitsN n) ++ c) W (by rw [ByteArray.size_append, ByteArray.size_append, ofL_size]; omega) (by rw [ByteArray.size_append, ByteArray.size_append, ofL_size]; omega))
  rw [app_list, app_list, app_list, app_list, ofL_data, ofL_data] at XN
  generalize natural (b.data.toList ++ digitsN m ++ a.data.toList) (b.data.toList ++ digitsN n ++ c.data.toList) = x at *
  go_enter Tryd.func6, Tryd.ntmps6
  go_wp2_with fail
  refine (awake_c _ HT.out).mono ?_; rintro e w1 ⟨rfl, hb⟩
  have hB := Lib.hid hb; clear hb
  go_wp2_with fail
  refine (rDigit_c _ false _ (DA.out _) (u8_lt _).1 (u8_lt _).2).mono ?_; rintro e w' ⟨rfl, rfl⟩
  go_wp2_with fail
  refine (rDigit_c _ false _ (DC.out _) (u8_lt _).1 (u8_lt _).2).mono ?_; rintro e w' ⟨rfl, rfl⟩
  go_wp2_with fail
  refine (D1.out _).mono ?_; rintro e w2 ⟨rfl, hb⟩
  have hB := Lib.hid (blwT hB.out hb); clear hb
  go_wp2_with fail
  refine (D2.out _).mono ?_; rintro e w3 ⟨rfl, hb⟩
  have hB := Lib.hid (blwT hB.out hb); clear hb
  go_wp2_with fail
  refine (XN.out _).mono ?_; rintro e w4 ⟨rfl, hb⟩
  have hB := Lib.hid (blwT hB.out hb); clear hb
  go_wp2_with fail
  go_ret
  exact ⟨ret_bool HE.out, hB.out⟩

set_option maxHeartbeats 4000000 in
set_option maxRecDepth 100000 in
theorem numbers_endnee (b : ByteArray) (m n : Nat) (a c : ByteArray) (w : World) (HT : Hid (Tabs w)) (h1 : ¬ 200 < b.size) (h2 : ¬ 200 < a.size) (h3 : ¬ 200 < c.size) (h6 : m ≤ 1000000000) (h7 : n ≤ 1000000000) (E8 : ((m : Int) == (n : Int)) = false) (b0 : 0 < b.size) (DB : Hid (∀ (h : b.size - 1 < b.size), isDigit ((b[b.size - 1]).toNat : Int) = false)) (a0 : a.size = 0) (DA : Hid (∀ (h : 0 < a.size), isDigit ((a[0]).toNat : Int) = false)) (c0 : c.size = 0) (DC : Hid (∀ (h : 0 < c.size), isDigit ((c[0]).toNat : Int) = false)) :
    Calls Tryd.prog 6 #[.string b, .int .i64 m, .int .i64 n, .string a, .string c] w fun e w' => e = .returned (.bool true) ∧ Below w.heap.size w w' := by
  have l1 := digitsN_len 9 m (by omega)
  have l2 := digitsN_len 9 n (by omega)
  have s1 : b.size + (ofL (digitsN m)).size ≤ 9223372036854775807 := by rw [ofL_size]; omega
  have s2 : b.size + (ofL (digitsN n)).size ≤ 9223372036854775807 := by rw [ofL_size]; omega
  have s3 : (b ++ ofL (digitsN m)).size + a.size ≤ 9223372036854775807 := by rw [ByteArray.size_append, ofL_size]; omega
  have s4 : (b ++ ofL (digitsN n)).size + c.size ≤ 9223372036854775807 := by rw [ByteArray.size_append, ofL_size]; omega
  have D1 := Lib.hid (fun W => digits4_c (m + 1) m W (by omega) (by omega))
  have D2 := Lib.hid (fun W => digits4_c (n + 1) n W (by omega) (by omega))
  have HE := Lib.hid (numbers_eq b a c m n E8 DB DA DC)
  have XN := Lib.hid (fun W => Natural_c (b ++ ofL (digitsN m) ++ a) (b ++ ofL (digitsN n) ++ c) W (by rw [ByteArray.size_append, ByteArray.size_append, ofL_size]; omega) (by rw [ByteArray.size_append, ByteArray.size_append, ofL_size]; omega))
  rw [app_list, app_list, app_list, app_list, ofL_data, ofL_data] at XN
  generalize natural (b.data.toList ++ digitsN m ++ a.data.toList) (b.data.toList ++ digitsN n ++ c.data.toList) = x at *
  go_enter Tryd.func6, Tryd.ntmps6
  go_wp2_with fail
  refine (awake_c _ HT.out).mono ?_; rintro e w1 ⟨rfl, hb⟩
  have hB := Lib.hid hb; clear hb
  go_wp2_with fail
  refine (rDigit_c _ false _ (DB.out _) (u8_lt _).1 (u8_lt _).2).mono ?_; rintro e w' ⟨rfl, rfl⟩
  go_wp2_with fail
  refine (D1.out _).mono ?_; rintro e w2 ⟨rfl, hb⟩
  have hB := Lib.hid (blwT hB.out hb); clear hb
  go_wp2_with fail
  refine (D2.out _).mono ?_; rintro e w3 ⟨rfl, hb⟩
  have hB := Lib.hid (blwT hB.out hb); clear hb
  go_wp2_with fail
  refine (XN.out _).mono ?_; rintro e w4 ⟨rfl, hb⟩
  have hB := Lib.hid (blwT hB.out hb); clear hb
  go_wp2_with fail
  go_ret
  exact ⟨ret_bool HE.out, hB.out⟩

set_option maxHeartbeats 4000000 in
set_option maxRecDepth 100000 in
theorem numbers_endnen (b : ByteArray) (m n : Nat) (a c : ByteArray) (w : World) (HT : Hid (Tabs w)) (h1 : ¬ 200 < b.size) (h2 : ¬ 200 < a.size) (h3 : ¬ 200 < c.size) (h6 : m ≤ 1000000000) (h7 : n ≤ 1000000000) (E8 : ((m : Int) == (n : Int)) = false) (b0 : 0 < b.size) (DB : Hid (∀ (h : b.size - 1 < b.size), isDigit ((b[b.size - 1]).toNat : Int) = false)) (a0 : a.size = 0) (DA : Hid (∀ (h : 0 < a.size), isDigit ((a[0]).toNat : Int) = false)) (c0 : 0 < c.size) (DC : Hid (∀ (h : 0 < c.size), isDigit ((c[0]).toNat : Int) = false)) :
    Calls Tryd.prog 6 #[.string b, .int .i64 m, .int .i64 n, .string a, .string c] w fun e w' => e = .returned (.bool true) ∧ Below w.heap.size w w' := by
  have l1 := digitsN_len 9 m (by omega)
  have l2 := digitsN_len 9 n (by omega)
  have s1 : b.size + (ofL (digitsN m)).size ≤ 9223372036854775807 := by rw [ofL_size]; omega
  have s2 : b.size + (ofL (digitsN n)).size ≤ 9223372036854775807 := by rw [ofL_size]; omega
  have s3 : (b ++ ofL (digitsN m)).size + a.size ≤ 9223372036854775807 := by rw [ByteArray.size_append, ofL_size]; omega
  have s4 : (b ++ ofL (digitsN n)).size + c.size ≤ 9223372036854775807 := by rw [ByteArray.size_append, ofL_size]; omega
  have D1 := Lib.hid (fun W => digits4_c (m + 1) m W (by omega) (by omega))
  have D2 := Lib.hid (fun W => digits4_c (n + 1) n W (by omega) (by omega))
  have HE := Lib.hid (numbers_eq b a c m n E8 DB DA DC)
  have XN := Lib.hid (fun W => Natural_c (b ++ ofL (digitsN m) ++ a) (b ++ ofL (digitsN n) ++ c) W (by rw [ByteArray.size_append, ByteArray.size_append, ofL_size]; omega) (by rw [ByteArray.size_append, ByteArray.size_append, ofL_size]; omega))
  rw [app_list, app_list, app_list, app_list, ofL_data, ofL_data] at XN
  generalize natural (b.data.toList ++ digitsN m ++ a.data.toList) (b.data.toList ++ digitsN n ++ c.data.toList) = x at *
  go_enter Tryd.func6, Tryd.ntmps6
  go_wp2_with fail
  refine (awake_c _ HT.out).mono ?_; rintro e w1 ⟨rfl, hb⟩
  have hB := Lib.hid hb; clear hb
  go_wp2_with fail
  refine (rDigit_c _ false _ (DB.out _) (u8_lt _).1 (u8_lt _).2).mono ?_; rintro e w' ⟨rfl, rfl⟩
  go_wp2_with fail
  refine (rDigit_c _ false _ (DC.out _) (u8_lt _).1 (u8_lt _).2).mono ?_; rintro e w' ⟨rfl, rfl⟩
  go_wp2_with fail
  refine (D1.out _).mono ?_; rintro e w2 ⟨rfl, hb⟩
  have hB := Lib.hid (blwT hB.out hb); clear hb
  go_wp2_with fail
  refine (D2.out _).mono ?_; rintro e w3 ⟨rfl, hb⟩
  have hB := Lib.hid (blwT hB.out hb); clear hb
  go_wp2_with fail
  refine (XN.out _).mono ?_; rintro e w4 ⟨rfl, hb⟩
  have hB := Lib.hid (blwT hB.out hb); clear hb
  go_wp2_with fail
  go_ret
  exact ⟨ret_bool HE.out, hB.out⟩

set_option maxHeartbeats 4000000 in
set_option maxRecDepth 100000 in
theorem numbers_endnne (b : ByteArray) (m n : Nat) (a c : ByteArray) (w : World) (HT : Hid (Tabs w)) (h1 : ¬ 200 < b.size) (h2 : ¬ 200 < a.size) (h3 : ¬ 200 < c.size) (h6 : m ≤ 1000000000) (h7 : n ≤ 1000000000) (E8 : ((m : Int) == (n : Int)) = false) (b0 : 0 < b.size) (DB : Hid (∀ (h : b.size - 1 < b.size), isDigit ((b[b.size - 1]).toNat : Int) = false)) (a0 : 0 < a.size) (DA : Hid (∀ (h : 0 < a.size), isDigit ((a[0]).toNat : Int) = false)) (c0 : c.size = 0) (DC : Hid (∀ (h : 0 < c.size), isDigit ((c[0]).toNat : Int) = false)) :
    Calls Tryd.prog 6 #[.string b, .int .i64 m, .int .i64 n, .string a, .string c] w fun e w' => e = .returned (.bool true) ∧ Below w.heap.size w w' := by
  have l1 := digitsN_len 9 m (by omega)
  have l2 := digitsN_len 9 n (by omega)
  have s1 : b.size + (ofL (digitsN m)).size ≤ 9223372036854775807 := by rw [ofL_size]; omega
  have s2 : b.size + (ofL (digitsN n)).size ≤ 9223372036854775807 := by rw [ofL_size]; omega
  have s3 : (b ++ ofL (digitsN m)).size + a.size ≤ 9223372036854775807 := by rw [ByteArray.size_append, ofL_size]; omega
  have s4 : (b ++ ofL (digitsN n)).size + c.size ≤ 9223372036854775807 := by rw [ByteArray.size_append, ofL_size]; omega
  have D1 := Lib.hid (fun W => digits4_c (m + 1) m W (by omega) (by omega))
  have D2 := Lib.hid (fun W => digits4_c (n + 1) n W (by omega) (by omega))
  have HE := Lib.hid (numbers_eq b a c m n E8 DB DA DC)
  have XN := Lib.hid (fun W => Natural_c (b ++ ofL (digitsN m) ++ a) (b ++ ofL (digitsN n) ++ c) W (by rw [ByteArray.size_append, ByteArray.size_append, ofL_size]; omega) (by rw [ByteArray.size_append, ByteArray.size_append, ofL_size]; omega))
  rw [app_list, app_list, app_list, app_list, ofL_data, ofL_data] at XN
  generalize natural (b.data.toList ++ digitsN m ++ a.data.toList) (b.data.toList ++ digitsN n ++ c.data.toList) = x at *
  go_enter Tryd.func6, Tryd.ntmps6
  go_wp2_with fail
  refine (awake_c _ HT.out).mono ?_; rintro e w1 ⟨rfl, hb⟩
  have hB := Lib.hid hb; clear hb
  go_wp2_with fail
  refine (rDigit_c _ false _ (DB.out _) (u8_lt _).1 (u8_lt _).2).mono ?_; rintro e w' ⟨rfl, rfl⟩
  go_wp2_with fail
  refine (rDigit_c _ false _ (DA.out _) (u8_lt _).1 (u8_lt _).2).mono ?_; rintro e w' ⟨rfl, rfl⟩
  go_wp2_with fail
  refine (D1.out _).mono ?_; rintro e w2 ⟨rfl, hb⟩
  have hB := Lib.hid (blwT hB.out hb); clear hb
  go_wp2_with fail
  refine (D2.out _).mono ?_; rintro e w3 ⟨rfl, hb⟩
  have hB := Lib.hid (blwT hB.out hb); clear hb
  go_wp2_with fail
  refine (XN.out _).mono ?_; rintro e w4 ⟨rfl, hb⟩
  have hB := Lib.hid (blwT hB.out hb); clear hb
  go_wp2_with fail
  go_ret
  exact ⟨ret_bool HE.out, hB.out⟩

set_option maxHeartbeats 4000000 in
set_option maxRecDepth 100000 in
theorem numbers_endnnn (b : ByteArray) (m n : Nat) (a c : ByteArray) (w : World) (HT : Hid (Tabs w)) (h1 : ¬ 200 < b.size) (h2 : ¬ 200 < a.size) (h3 : ¬ 200 < c.size) (h6 : m ≤ 1000000000) (h7 : n ≤ 1000000000) (E8 : ((m : Int) == (n : Int)) = false) (b0 : 0 < b.size) (DB : Hid (∀ (h : b.size - 1 < b.size), isDigit ((b[b.size - 1]).toNat : Int) = false)) (a0 : 0 < a.size) (DA : Hid (∀ (h : 0 < a.size), isDigit ((a[0]).toNat : Int) = false)) (c0 : 0 < c.size) (DC : Hid (∀ (h : 0 < c.size), isDigit ((c[0]).toNat : Int) = false)) :
    Calls Tryd.prog 6 #[.string b, .int .i64 m, .int .i64 n, .string a, .string c] w fun e w' => e = .returned (.bool true) ∧ Below w.heap.size w w' := by
  have l1 := digitsN_len 9 m (by omega)
  have l2 := digitsN_len 9 n (by omega)
  have s1 : b.size + (ofL (digitsN m)).size ≤ 9223372036854775807 := by rw [ofL_size]; omega
  have s2 : b.size + (ofL (digitsN n)).size ≤ 9223372036854775807 := by rw [ofL_size]; omega
  have s3 : (b ++ ofL (digitsN m)).size + a.size ≤ 9223372036854775807 := by rw [ByteArray.size_append, ofL_size]; omega
  have s4 : (b ++ ofL (digitsN n)).size + c.size ≤ 9223372036854775807 := by rw [ByteArray.size_append, ofL_size]; omega
  have D1 := Lib.hid (fun W => digits4_c (m + 1) m W (by omega) (by omega))
  have D2 := Lib.hid (fun W => digits4_c (n + 1) n W (by omega) (by omega))
  have HE := Lib.hid (numbers_eq b a c m n E8 DB DA DC)
  have XN := Lib.hid (fun W => Natural_c (b ++ ofL (digitsN m) ++ a) (b ++ ofL (digitsN n) ++ c) W (by rw [ByteArray.size_append, ByteArray.size_append, ofL_size]; omega) (by rw [ByteArray.size_append, ByteArray.size_append, ofL_size]; omega))
  rw [app_list, app_list, app_list, app_list, ofL_data, ofL_data] at XN
  generalize natural (b.data.toList ++ digitsN m ++ a.data.toList) (b.data.toList ++ digitsN n ++ c.data.toList) = x at *
  go_enter Tryd.func6, Tryd.ntmps6
  go_wp2_with fail
  refine (awake_c _ HT.out).mono ?_; rintro e w1 ⟨rfl, hb⟩
  have hB := Lib.hid hb; clear hb
  go_wp2_with fail
  refine (rDigit_c _ false _ (DB.out _) (u8_lt _).1 (u8_lt _).2).mono ?_; rintro e w' ⟨rfl, rfl⟩
  go_wp2_with fail
  refine (rDigit_c _ false _ (DA.out _) (u8_lt _).1 (u8_lt _).2).mono ?_; rintro e w' ⟨rfl, rfl⟩
  go_wp2_with fail
  refine (rDigit_c _ false _ (DC.out _) (u8_lt _).1 (u8_lt _).2).mono ?_; rintro e w' ⟨rfl, rfl⟩
  go_wp2_with fail
  refine (D1.out _).mono ?_; rintro e w2 ⟨rfl, hb⟩
  have hB := Lib.hid (blwT hB.out hb); clear hb
  go_wp2_with fail
  refine (D2.out _).mono ?_; rintro e w3 ⟨rfl, hb⟩
  have hB := Lib.hid (blwT hB.out hb); clear hb
  go_wp2_with fail
  refine (XN.out _).mono ?_; rintro e w4 ⟨rfl, hb⟩
  have hB := Lib.hid (blwT hB.out hb); clear hb
  go_wp2_with fail
  go_ret
  exact ⟨ret_bool HE.out, hB.out⟩

end Go.Proofs.YtegjcmoneemhjaaDoor
