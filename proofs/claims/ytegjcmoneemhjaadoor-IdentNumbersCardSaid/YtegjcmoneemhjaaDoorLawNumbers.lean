/- The law IdentNumbers returns true for all its arguments. -/
import Derived.Test.YtegjcmoneemhjaaDoorLawNumbersB
import Derived.Test.YtegjcmoneemhjaaDoorLawNumbersC
namespace Go.Proofs.YtegjcmoneemhjaaDoor
open Go.RowKit
set_option linter.unusedVariables false
set_option linter.unusedSimpArgs false

theorem emp_or (s : ByteArray) : s.size = 0 ∨ 0 < s.size := by omega

set_option maxHeartbeats 400000 in
theorem IdentNumbers_c (b : ByteArray) (m n : Int) (a c : ByteArray) (w : World) (ht : Tabs w) (hs : b.size ≤ 140737488351232) (hs' : a.size ≤ 140737488351232) (hs'' : c.size ≤ 140737488351232) :
    Calls Tryd.prog 6 #[.string b, .int .i64 m, .int .i64 n, .string a, .string c] w fun e w' => e = .returned (.bool true) ∧ Below w.heap.size w w' := by
  have HT := Lib.hid ht; clear ht
  by_cases h1 : 200 < b.size
  · exact numbers_big1 b m n a c w HT hs hs' hs'' h1
  by_cases h2 : 200 < a.size
  · exact numbers_big2 b m n a c w HT hs hs' hs'' h1 h2
  by_cases h3 : 200 < c.size
  · exact numbers_big3 b m n a c w HT hs hs' hs'' h1 h2 h3
  by_cases h4 : m < 0
  · exact numbers_big4 b m n a c w HT hs hs' hs'' h1 h2 h3 h4
  by_cases h5 : n < 0
  · exact numbers_big5 b m n a c w HT hs hs' hs'' h1 h2 h3 h4 h5
  by_cases h6 : 1000000000 < m
  · exact numbers_big6 b m n a c w HT hs hs' hs'' h1 h2 h3 h4 h5 h6
  by_cases h7 : 1000000000 < n
  · exact numbers_big7 b m n a c w HT hs hs' hs'' h1 h2 h3 h4 h5 h6 h7
  by_cases h8 : m = n
  · subst h8; exact numbers_big8 b m a c w HT hs hs' hs'' h1 h2 h3 h4 h6
  obtain ⟨m, rfl⟩ := Int.eq_ofNat_of_zero_le (by omega : 0 ≤ m)
  obtain ⟨n, rfl⟩ := Int.eq_ofNat_of_zero_le (by omega : 0 ≤ n)
  have E8 : ((m : Int) == (n : Int)) = false := by rw [beq_eq_false_iff_ne]; omega
  have h6 : m ≤ 1000000000 := by omega
  have h7 : n ≤ 1000000000 := by omega
  rcases last_dig b with ⟨b0, DB⟩ | DB
  · exact numbers_digB b m n a c w HT h1 h2 h3 h6 h7 E8 b0 DB
  rcases first_dig a with ⟨a0, DA⟩ | DA
  · rcases emp_or b with b0 | b0
    · exact numbers_digAe b m n a c w HT h1 h2 h3 h6 h7 E8 b0 DB a0 DA
    · exact numbers_digAn b m n a c w HT h1 h2 h3 h6 h7 E8 b0 DB a0 DA
  rcases first_dig c with ⟨c0, DC⟩ | DC
  · rcases emp_or b with b0 | b0 <;> rcases emp_or a with a0 | a0
    · exact numbers_digCee b m n a c w HT h1 h2 h3 h6 h7 E8 b0 DB a0 DA c0 DC
    · exact numbers_digCen b m n a c w HT h1 h2 h3 h6 h7 E8 b0 DB a0 DA c0 DC
    · exact numbers_digCne b m n a c w HT h1 h2 h3 h6 h7 E8 b0 DB a0 DA c0 DC
    · exact numbers_digCnn b m n a c w HT h1 h2 h3 h6 h7 E8 b0 DB a0 DA c0 DC
  rcases emp_or b with b0 | b0 <;> rcases emp_or a with a0 | a0 <;> rcases emp_or c with c0 | c0
  · exact numbers_endeee b m n a c w HT h1 h2 h3 h6 h7 E8 b0 DB a0 DA c0 DC
  · exact numbers_endeen b m n a c w HT h1 h2 h3 h6 h7 E8 b0 DB a0 DA c0 DC
  · exact numbers_endene b m n a c w HT h1 h2 h3 h6 h7 E8 b0 DB a0 DA c0 DC
  · exact numbers_endenn b m n a c w HT h1 h2 h3 h6 h7 E8 b0 DB a0 DA c0 DC
  · exact numbers_endnee b m n a c w HT h1 h2 h3 h6 h7 E8 b0 DB a0 DA c0 DC
  · exact numbers_endnen b m n a c w HT h1 h2 h3 h6 h7 E8 b0 DB a0 DA c0 DC
  · exact numbers_endnne b m n a c w HT h1 h2 h3 h6 h7 E8 b0 DB a0 DA c0 DC
  · exact numbers_endnnn b m n a c w HT h1 h2 h3 h6 h7 E8 b0 DB a0 DA c0 DC

end Go.Proofs.YtegjcmoneemhjaaDoor
