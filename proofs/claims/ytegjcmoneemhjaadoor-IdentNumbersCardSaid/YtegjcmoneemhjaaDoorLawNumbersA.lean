/- The law IdentNumbers: the first tests; what a digit at an end means. -/
import Derived.Test.YtegjcmoneemhjaaDoorIdW
import Derived.Test.YtegjcmoneemhjaaDoorIdT
namespace Go.Proofs.YtegjcmoneemhjaaDoor
open Go.RowKit
set_option linter.unusedVariables false
set_option linter.unusedSimpArgs false

theorem app_list (a b : ByteArray) : (a ++ b).data.toList = a.data.toList ++ b.data.toList := by rw [ByteArray.data_append, Array.toList_append]
theorem first_dig (s : ByteArray) : (0 < s.size ∧ Hid (∀ (h : 0 < s.size), isDigit ((s[0]).toNat : Int) = true)) ∨ Hid (∀ (h : 0 < s.size), isDigit ((s[0]).toNat : Int) = false) := by
  by_cases h : 0 < s.size
  · cases hq : isDigit ((s[0]).toNat : Int)
    · exact .inr (Lib.hid fun _ => hq)
    · exact .inl ⟨h, Lib.hid fun _ => hq⟩
  · exact .inr (Lib.hid fun h' => absurd h' h)
theorem last_dig (s : ByteArray) : (0 < s.size ∧ Hid (∀ (h : s.size - 1 < s.size), isDigit ((s[s.size - 1]).toNat : Int) = true)) ∨ Hid (∀ (h : s.size - 1 < s.size), isDigit ((s[s.size - 1]).toNat : Int) = false) := by
  by_cases h : 0 < s.size
  · have h' : s.size - 1 < s.size := by omega
    cases hq : isDigit ((s[s.size - 1]).toNat : Int)
    · exact .inr (Lib.hid fun _ => hq)
    · exact .inl ⟨h, Lib.hid fun _ => hq⟩
  · exact .inr (Lib.hid fun h' => by omega)
theorem size_list (s : ByteArray) : s.data.toList.length = s.size := by rw [Array.length_toList]; rfl
theorem head_not {s : ByteArray} (hd : ∀ (h : 0 < s.size), isDigit ((s[0]).toNat : Int) = false) : ∀ x r, s.data.toList = x :: r → dig x = false := by
  intro x r e
  have h : 0 < s.size := by rw [← size_list, e]; simp
  have : s[0] = x := by
    have : s.data.toList[0]? = some x := by rw [e]; rfl
    rw [Array.getElem?_toList, Array.getElem?_eq_getElem h] at this
    exact Option.some.inj this
  rw [← this]; exact hd h
theorem last_not {s : ByteArray} (hd : ∀ (h : s.size - 1 < s.size), isDigit ((s[s.size - 1]).toNat : Int) = false) : ∀ x, s.data.toList.getLast? = some x → dig x = false := by
  intro x e
  have h0 : s.data.toList ≠ [] := by intro q; rw [q] at e; simp at e
  have h' : s.size - 1 < s.size := by have := size_list s; have := List.length_pos_iff.2 h0; omega
  have : s[s.size - 1] = x := by
    rw [List.getLast?_eq_getElem?, size_list, Array.getElem?_toList, Array.getElem?_eq_getElem h'] at e
    exact Option.some.inj e
  rw [← this]; exact hd h'

set_option maxHeartbeats 4000000 in
set_option maxRecDepth 100000 in
theorem numbers_big1 (b : ByteArray) (m n : Int) (a c : ByteArray) (w : World) (HT : Hid (Tabs w)) (hs : b.size ≤ 140737488351232) (hs' : a.size ≤ 140737488351232) (hs'' : c.size ≤ 140737488351232)  (h1 : 200 < b.size) :
    Calls Tryd.prog 6 #[.string b, .int .i64 m, .int .i64 n, .string a, .string c] w fun e w' => e = .returned (.bool true) ∧ Below w.heap.size w w' := by
  go_enter Tryd.func6, Tryd.ntmps6
  go_wp2_with fail
  refine (awake_c _ HT.out).mono ?_; rintro e w1 ⟨rfl, hb⟩
  have hB := Lib.hid hb; clear hb
  go_wp2_with fail
  go_ret
  exact ⟨rfl, hB.out⟩

set_option maxHeartbeats 4000000 in
set_option maxRecDepth 100000 in
theorem numbers_big2 (b : ByteArray) (m n : Int) (a c : ByteArray) (w : World) (HT : Hid (Tabs w)) (hs : b.size ≤ 140737488351232) (hs' : a.size ≤ 140737488351232) (hs'' : c.size ≤ 140737488351232) (h1 : ¬ 200 < b.size) (h2 : 200 < a.size) :
    Calls Tryd.prog 6 #[.string b, .int .i64 m, .int .i64 n, .string a, .string c] w fun e w' => e = .returned (.bool true) ∧ Below w.heap.size w w' := by
  go_enter Tryd.func6, Tryd.ntmps6
  go_wp2_with fail
  refine (awake_c _ HT.out).mono ?_; rintro e w1 ⟨rfl, hb⟩
  have hB := Lib.hid hb; clear hb
  go_wp2_with fail
  go_ret
  exact ⟨rfl, hB.out⟩

set_option maxHeartbeats 4000000 in
set_option maxRecDepth 100000 in
theorem numbers_big3 (b : ByteArray) (m n : Int) (a c : ByteArray) (w : World) (HT : Hid (Tabs w)) (hs : b.size ≤ 140737488351232) (hs' : a.size ≤ 140737488351232) (hs'' : c.size ≤ 140737488351232) (h1 : ¬ 200 < b.size) (h2 : ¬ 200 < a.size) (h3 : 200 < c.size) :
    Calls Tryd.prog 6 #[.string b, .int .i64 m, .int .i64 n, .string a, .string c] w fun e w' => e = .returned (.bool true) ∧ Below w.heap.size w w' := by
  go_enter Tryd.func6, Tryd.ntmps6
  go_wp2_with fail
  refine (awake_c _ HT.out).mono ?_; rintro e w1 ⟨rfl, hb⟩
  have hB := Lib.hid hb; clear hb
  go_wp2_with fail
  go_ret
  exact ⟨rfl, hB.out⟩

set_option maxHeartbeats 4000000 in
set_option maxRecDepth 100000 in
theorem numbers_big4 (b : ByteArray) (m n : Int) (a c : ByteArray) (w : World) (HT : Hid (Tabs w)) (hs : b.size ≤ 140737488351232) (hs' : a.size ≤ 140737488351232) (hs'' : c.size ≤ 140737488351232) (h1 : ¬ 200 < b.size) (h2 : ¬ 200 < a.size) (h3 : ¬ 200 < c.size) (h4 : m < 0) :
    Calls Tryd.prog 6 #[.string b, .int .i64 m, .int .i64 n, .string a, .string c] w fun e w' => e = .returned (.bool true) ∧ Below w.heap.size w w' := by
  go_enter Tryd.func6, Tryd.ntmps6
  go_wp2_with fail
  refine (awake_c _ HT.out).mono ?_; rintro e w1 ⟨rfl, hb⟩
  have hB := Lib.hid hb; clear hb
  go_wp2_with fail
  go_ret
  exact ⟨rfl, hB.out⟩

set_option maxHeartbeats 4000000 in
set_option maxRecDepth 100000 in
theorem numbers_big5 (b : ByteArray) (m n : Int) (a c : ByteArray) (w : World) (HT : Hid (Tabs w)) (hs : b.size ≤ 140737488351232) (hs' : a.size ≤ 140737488351232) (hs'' : c.size ≤ 140737488351232) (h1 : ¬ 200 < b.size) (h2 : ¬ 200 < a.size) (h3 : ¬ 200 < c.size) (h4 : ¬ m < 0) (h5 : n < 0) :
    Calls Tryd.prog 6 #[.string b, .int .i64 m, .int .i64 n, .string a, .string c] w fun e w' => e = .returned (.bool true) ∧ Below w.heap.size w w' := by
  go_enter Tryd.func6, Tryd.ntmps6
  go_wp2_with fail
  refine (awake_c _ HT.out).mono ?_; rintro e w1 ⟨rfl, hb⟩
  have hB := Lib.hid hb; clear hb
  go_wp2_with fail
  go_ret
  exact ⟨rfl, hB.out⟩

set_option maxHeartbeats 4000000 in
set_option maxRecDepth 100000 in
theorem numbers_big6 (b : ByteArray) (m n : Int) (a c : ByteArray) (w : World) (HT : Hid (Tabs w)) (hs : b.size ≤ 140737488351232) (hs' : a.size ≤ 140737488351232) (hs'' : c.size ≤ 140737488351232) (h1 : ¬ 200 < b.size) (h2 : ¬ 200 < a.size) (h3 : ¬ 200 < c.size) (h4 : ¬ m < 0) (h5 : ¬ n < 0) (h6 : 1000000000 < m) :
    Calls Tryd.prog 6 #[.string b, .int .i64 m, .int .i64 n, .string a, .string c] w fun e w' => e = .returned (.bool true) ∧ Below w.heap.size w w' := by
  go_enter Tryd.func6, Tryd.ntmps6
  go_wp2_with fail
  refine (awake_c _ HT.out).mono ?_; rintro e w1 ⟨rfl, hb⟩
  have hB := Lib.hid hb; clear hb
  go_wp2_with fail
  go_ret
  exact ⟨rfl, hB.out⟩

set_option maxHeartbeats 4000000 in
set_option maxRecDepth 100000 in
theorem numbers_big7 (b : ByteArray) (m n : Int) (a c : ByteArray) (w : World) (HT : Hid (Tabs w)) (hs : b.size ≤ 140737488351232) (hs' : a.size ≤ 140737488351232) (hs'' : c.size ≤ 140737488351232) (h1 : ¬ 200 < b.size) (h2 : ¬ 200 < a.size) (h3 : ¬ 200 < c.size) (h4 : ¬ m < 0) (h5 : ¬ n < 0) (h6 : ¬ 1000000000 < m) (h7 : 1000000000 < n) :
    Calls Tryd.prog 6 #[.string b, .int .i64 m, .int .i64 n, .string a, .string c] w fun e w' => e = .returned (.bool true) ∧ Below w.heap.size w w' := by
  go_enter Tryd.func6, Tryd.ntmps6
  go_wp2_with fail
  refine (awake_c _ HT.out).mono ?_; rintro e w1 ⟨rfl, hb⟩
  have hB := Lib.hid hb; clear hb
  go_wp2_with fail
  go_ret
  exact ⟨rfl, hB.out⟩

set_option maxHeartbeats 4000000 in
set_option maxRecDepth 100000 in
theorem numbers_big8 (b : ByteArray) (m : Int) (a c : ByteArray) (w : World) (HT : Hid (Tabs w)) (hs : b.size ≤ 140737488351232) (hs' : a.size ≤ 140737488351232) (hs'' : c.size ≤ 140737488351232) (h1 : ¬ 200 < b.size) (h2 : ¬ 200 < a.size) (h3 : ¬ 200 < c.size) (h4 : ¬ m < 0) (h6 : ¬ 1000000000 < m)  :
    Calls Tryd.prog 6 #[.string b, .int .i64 m, .int .i64 m, .string a, .string c] w fun e w' => e = .returned (.bool true) ∧ Below w.heap.size w w' := by
  go_enter Tryd.func6, Tryd.ntmps6
  go_wp2_with fail
  refine (awake_c _ HT.out).mono ?_; rintro e w1 ⟨rfl, hb⟩
  have hB := Lib.hid hb; clear hb
  go_wp2_with fail
  go_ret
  exact ⟨rfl, hB.out⟩

end Go.Proofs.YtegjcmoneemhjaaDoor
