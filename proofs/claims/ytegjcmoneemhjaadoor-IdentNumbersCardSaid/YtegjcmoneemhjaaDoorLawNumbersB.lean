/- The law IdentNumbers: the ways through its test for digits. -/
import Derived.Test.YtegjcmoneemhjaaDoorLawNumbersA
namespace Go.Proofs.YtegjcmoneemhjaaDoor
open Go.RowKit
set_option linter.unusedVariables false
set_option linter.unusedSimpArgs false

set_option maxHeartbeats 4000000 in
set_option maxRecDepth 100000 in
theorem numbers_digB (b : ByteArray) (m n : Nat) (a c : ByteArray) (w : World) (HT : Hid (Tabs w)) (h1 : ¬ 200 < b.size) (h2 : ¬ 200 < a.size) (h3 : ¬ 200 < c.size) (h6 : m ≤ 1000000000) (h7 : n ≤ 1000000000) (E8 : ((m : Int) == (n : Int)) = false) (b0 : 0 < b.size) (DB : Hid (∀ (h : b.size - 1 < b.size), isDigit ((b[b.size - 1]).toNat : Int) = true)) :
    Calls Tryd.prog 6 #[.string b, .int .i64 m, .int .i64 n, .string a, .string c] w fun e w' => e = .returned (.bool true) ∧ Below w.heap.size w w' := by
  go_enter Tryd.func6, Tryd.ntmps6
  go_wp2_with fail
  refine (awake_c _ HT.out).mono ?_; rintro e w1 ⟨rfl, hb⟩
  have hB := Lib.hid hb; clear hb
  go_wp2_with fail
  refine (rDigit_c _ true _ (DB.out _) (u8_lt _).1 (u8_lt _).2).mono ?_; rintro e w' ⟨rfl, rfl⟩
  go_wp2_with fail
  go_ret
  exact ⟨rfl, hB.out⟩

set_option maxHeartbeats 4000000 in
set_option maxRecDepth 100000 in
theorem numbers_digAe (b : ByteArray) (m n : Nat) (a c : ByteArray) (w : World) (HT : Hid (Tabs w)) (h1 : ¬ 200 < b.size) (h2 : ¬ 200 < a.size) (h3 : ¬ 200 < c.size) (h6 : m ≤ 1000000000) (h7 : n ≤ 1000000000) (E8 : ((m : Int) == (n : Int)) = false) (b0 : b.size = 0) (DB : Hid (∀ (h : b.size - 1 < b.size), isDigit ((b[b.size - 1]).toNat : Int) = false)) (a0 : 0 < a.size) (DA : Hid (∀ (h : 0 < a.size), isDigit ((a[0]).toNat : Int) = true)) :
    Calls Tryd.prog 6 #[.string b, .int .i64 m, .int .i64 n, .string a, .string c] w fun e w' => e = .returned (.bool true) ∧ Below w.heap.size w w' := by
  go_enter Tryd.func6, Tryd.ntmps6
  go_wp2_with fail
  refine (awake_c _ HT.out).mono ?_; rintro e w1 ⟨rfl, hb⟩
  have hB := Lib.hid hb; clear hb
  go_wp2_with fail
  refine (rDigit_c _ true _ (DA.out _) (u8_lt _).1 (u8_lt _).2).mono ?_; rintro e w' ⟨rfl, rfl⟩
  go_wp2_with fail
  go_ret
  exact ⟨rfl, hB.out⟩

set_option maxHeartbeats 4000000 in
set_option maxRecDepth 100000 in
theorem numbers_digAn (b : ByteArray) (m n : Nat) (a c : ByteArray) (w : World) (HT : Hid (Tabs w)) (h1 : ¬ 200 < b.size) (h2 : ¬ 200 < a.size) (h3 : ¬ 200 < c.size) (h6 : m ≤ 1000000000) (h7 : n ≤ 1000000000) (E8 : ((m : Int) == (n : Int)) = false) (b0 : 0 < b.size) (DB : Hid (∀ (h : b.size - 1 < b.size), isDigit ((b[b.size - 1]).toNat : Int) = false)) (a0 : 0 < a.size) (DA : Hid (∀ (h : 0 < a.size), isDigit ((a[0]).toNat : Int) = true)) :
    Calls Tryd.prog 6 #[.string b, .int .i64 m, .int .i64 n, .string a, .string c] w fun e w' => e = .returned (.bool true) ∧ Below w.heap.size w w' := by
  go_enter Tryd.func6, Tryd.ntmps6
  go_wp2_with fail
  refine (awake_c _ HT.out).mono ?_; rintro e w1 ⟨rfl, hb⟩
  have hB := Lib.hid hb; clear hb
  go_wp2_with fail
  refine (rDigit_c _ false _ (DB.out _) (u8_lt _).1 (u8_lt _).2).mono ?_; rintro e w' ⟨rfl, rfl⟩
  go_wp2_with fail
  refine (rDigit_c _ true _ (DA.out _) (u8_lt _).1 (u8_lt _).2).mono ?_; rintro e w' ⟨rfl, rfl⟩
  go_wp2_with fail
  go_ret
  exact ⟨rfl, hB.out⟩

set_option maxHeartbeats 4000000 in
set_option maxRecDepth 100000 in
theorem numbers_digCee (b : ByteArray) (m n : Nat) (a c : ByteArray) (w : World) (HT : Hid (Tabs w)) (h1 : ¬ 200 < b.size) (h2 : ¬ 200 < a.size) (h3 : ¬ 200 < c.size) (h6 : m ≤ 1000000000) (h7 : n ≤ 1000000000) (E8 : ((m : Int) == (n : Int)) = false) (b0 : b.size = 0) (DB : Hid (∀ (h : b.size - 1 < b.size), isDigit ((b[b.size - 1]).toNat : Int) = false)) (a0 : a.size = 0) (DA : Hid (∀ (h : 0 < a.size), isDigit ((a[0]).toNat : Int) = false)) (c0 : 0 < c.size) (DC : Hid (∀ (h : 0 < c.size), isDigit ((c[0]).toNat : Int) = true)) :
    Calls Tryd.prog 6 #[.string b, .int .i64 m, .int .i64 n, .string a, .string c] w fun e w' => e = .returned (.bool true) ∧ Below w.heap.size w w' := by
  go_enter Tryd.func6, Tryd.ntmps6
  go_wp2_with fail
  refine (awake_c _ HT.out).mono ?_; rintro e w1 ⟨rfl, hb⟩
  have hB := Lib.hid hb; clear hb
  go_wp2_with fail
  refine (rDigit_c _ true _ (DC.out _) (u8_lt _).1 (u8_lt _).2).mono ?_; rintro e w' ⟨rfl, rfl⟩
  go_wp2_with fail
  go_ret
  exact ⟨rfl, hB.out⟩

set_option maxHeartbeats 4000000 in
set_option maxRecDepth 100000 in
theorem numbers_digCen (b : ByteArray) (m n : Nat) (a c : ByteArray) (w : World) (HT : Hid (Tabs w)) (h1 : ¬ 200 < b.size) (h2 : ¬ 200 < a.size) (h3 : ¬ 200 < c.size) (h6 : m ≤ 1000000000) (h7 : n ≤ 1000000000) (E8 : ((m : Int) == (n : Int)) = false) (b0 : b.size = 0) (DB : Hid (∀ (h : b.size - 1 < b.size), isDigit ((b[b.size - 1]).toNat : Int) = false)) (a0 : 0 < a.size) (DA : Hid (∀ (h : 0 < a.size), isDigit ((a[0]).toNat : Int) = false)) (c0 : 0 < c.size) (DC : Hid (∀ (h : 0 < c.size), isDigit ((c[0]).toNat : Int) = true)) :
    Calls Tryd.prog 6 #[.string b, .int .i64 m, .int .i64 n, .string a, .string c] w fun e w' => e = .returned (.bool true) ∧ Below w.heap.size w w' := by
  go_enter Tryd.func6, Tryd.ntmps6
  go_wp2_with fail
  refine (awake_c _ HT.out).mono ?_; rintro e w1 ⟨rfl, hb⟩
  have hB := Lib.hid hb; clear hb
  go_wp2_with fail
  refine (rDigit_c _ false _ (DA.out _) (u8_lt _).1 (u8_lt _).2).mono ?_; rintro e w' ⟨rfl, rfl⟩
  go_wp2_with fail
  refine (rDigit_c _ true _ (DC.out _) (u8_lt _).1 (u8_lt _).2).mono ?_; rintro e w' ⟨rfl, rfl⟩
  go_wp2_with fail
  go_ret
  exact ⟨rfl, hB.out⟩

set_option maxHeartbeats 4000000 in
set_option maxRecDepth 100000 in
theorem numbers_digCne (b : ByteArray) (m n : Nat) (a c : ByteArray) (w : World) (HT : Hid (Tabs w)) (h1 : ¬ 200 < b.size) (h2 : ¬ 200 < a.size) (h3 : ¬ 200 < c.size) (h6 : m ≤ 1000000000) (h7 : n ≤ 1000000000) (E8 : ((m : Int) == (n : Int)) = false) (b0 : 0 < b.size) (DB : Hid (∀ (h : b.size - 1 < b.size), isDigit ((b[b.size - 1]).toNat : Int) = false)) (a0 : a.size = 0) (DA : Hid (∀ (h : 0 < a.size), isDigit ((a[0]).toNat : Int) = false)) (c0 : 0 < c.size) (DC : Hid (∀ (h : 0 < c.size), isDigit ((c[0]).toNat : Int) = true)) :
    Calls Tryd.prog 6 #[.string b, .int .i64 m, .int .i64 n, .string a, .string c] w fun e w' => e = .returned (.bool true) ∧ Below w.heap.size w w' := by
  go_enter Tryd.func6, Tryd.ntmps6
  go_wp2_with fail
  refine (awake_c _ HT.out).mono ?_; rintro e w1 ⟨rfl, hb⟩
  have hB := Lib.hid hb; clear hb
  go_wp2_with fail
  refine (rDigit_c _ false _ (DB.out _) (u8_lt _).1 (u8_lt _).2).mono ?_; rintro e w' ⟨rfl, rfl⟩
  go_wp2_with fail
  refine (rDigit_c _ true _ (DC.out _) (u8_lt _).1 (u8_lt _).2).mono ?_; rintro e w' ⟨rfl, rfl⟩
  go_wp2_with fail
  go_ret
  exact ⟨rfl, hB.out⟩

set_option maxHeartbeats 4000000 in
set_option maxRecDepth 100000 in
theorem numbers_digCnn (b : ByteArray) (m n : Nat) (a c : ByteArray) (w : World) (HT : Hid (Tabs w)) (h1 : ¬ 200 < b.size) (h2 : ¬ 200 < a.size) (h3 : ¬ 200 < c.size) (h6 : m ≤ 1000000000) (h7 : n ≤ 1000000000) (E8 : ((m : Int) == (n : Int)) = false) (b0 : 0 < b.size) (DB : Hid (∀ (h : b.size - 1 < b.size), isDigit ((b[b.size - 1]).toNat : Int) = false)) (a0 : 0 < a.size) (DA : Hid (∀ (h : 0 < a.size), isDigit ((a[0]).toNat : Int) = false)) (c0 : 0 < c.size) (DC : Hid (∀ (h : 0 < c.size), isDigit ((c[0]).toNat : Int) = true)) :
    Calls Tryd.prog 6 #[.string b, .int .i64 m, .int .i64 n, .string a, .string c] w fun e w' => e = .returned (.bool true) ∧ Below w.heap.size w w' := by
  go_enter Tryd.func6, Tryd.ntmps6
  go_wp2_with fail
  refine (awake_c _ HT.out).mono ?_; rintro e w1 ⟨rfl, hb⟩
  have hB := Lib.hid hb; clear hb
  go_wp2_with fail
  refine (rDigit_c _ false _ (DB.out _) (u8_lt _).1 (u8_lt _).2).mono ?_; rintro e w' ⟨rfl, rfl⟩
  go_wp2_with fail
  refine (rDigit_c _ false _ (DA.out _) (u8_lt _).1 (u8_lt _).2).mono ?_; rintro e w' ⟨rfl, rfl⟩
  go_wp2_with fail
  refine (rDigit_c _ true _ (DC.out _) (u8_lt _).1 (u8_lt _).2).mono ?_; rintro e w' ⟨rfl, rfl⟩
  go_wp2_with fail
  go_ret
  exact ⟨rfl, hB.out⟩

end Go.Proofs.YtegjcmoneemhjaaDoor
