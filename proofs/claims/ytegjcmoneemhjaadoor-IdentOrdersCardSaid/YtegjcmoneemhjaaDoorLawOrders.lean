/- The law IdentOrders returns true for every three strings. -/
import Derived.Test.YtegjcmoneemhjaaDoorIdW
import Derived.Test.YtegjcmoneemhjaaDoorIdO
namespace Go.Proofs.YtegjcmoneemhjaaDoor
open Go.RowKit
set_option linter.unusedVariables false
set_option linter.unusedSimpArgs false

set_option maxHeartbeats 4000000 in
set_option maxRecDepth 100000 in
theorem IdentOrders_c (a b c : ByteArray) (w : World) (ht : Tabs w) (hs : a.size ≤ 140737488351232) (hs' : b.size ≤ 140737488351232) (hs'' : c.size ≤ 140737488351232) :
    Calls Tryd.prog 5 #[.string a, .string b, .string c] w fun e w' => e = .returned (.bool true) ∧ Below w.heap.size w w' := by
  have HT := Lib.hid ht; clear ht
  by_cases h1 : 500 < a.size
  · go_enter Tryd.func5, Tryd.ntmps5
    go_wp2_with fail
    refine (awake_c _ HT.out).mono ?_; rintro e w1 ⟨rfl, hb⟩
    have hB := Lib.hid hb; clear hb
    go_wp2_with fail
    go_ret
    exact ⟨rfl, hB.out⟩
  by_cases h2 : 500 < b.size
  · go_enter Tryd.func5, Tryd.ntmps5
    go_wp2_with fail
    refine (awake_c _ HT.out).mono ?_; rintro e w1 ⟨rfl, hb⟩
    have hB := Lib.hid hb; clear hb
    go_wp2_with fail
    go_ret
    exact ⟨rfl, hB.out⟩
  by_cases h3 : 500 < c.size
  · go_enter Tryd.func5, Tryd.ntmps5
    go_wp2_with fail
    refine (awake_c _ HT.out).mono ?_; rintro e w1 ⟨rfl, hb⟩
    have hB := Lib.hid hb; clear hb
    go_wp2_with fail
    go_ret
    exact ⟨rfl, hB.out⟩
  have N1 := good_natural.neg a.data.toList b.data.toList
  have N2 := good_natural.lo a.data.toList b.data.toList
  have N3 := good_natural.hi a.data.toList b.data.toList
  have N4 := Lib.hid (natural_zero a.data.toList b.data.toList)
  have N5 := good_natural.trans a.data.toList b.data.toList c.data.toList
  have X1 := Lib.hid (fun W => Natural_c a b W hs hs')
  have X2 := Lib.hid (fun W => Natural_c b c W hs' hs'')
  have X3 := Lib.hid (fun W => Natural_c a c W hs hs'')
  have X4 := Lib.hid (fun W => Natural_c b a W hs' hs)
  generalize natural a.data.toList b.data.toList = x at *
  generalize natural b.data.toList c.data.toList = y at *
  generalize natural a.data.toList c.data.toList = z at *
  generalize natural b.data.toList a.data.toList = v at *
  obtain rfl : v = -x := N1
  have E1 : (x == 0) = (a.toList == b.toList) := by
    rw [Lib.toList_data, Lib.toList_data]
    have := N4.out
    by_cases h : x = 0
    · have e := this.1 h; rw [e]; simp [h]
    · have e : (a.data.toList == b.data.toList) = false := by simpa using fun q => h (this.2 q)
      rw [e]; simp [h]
  have N5' : ¬ (x ≤ 0 ∧ y ≤ 0 ∧ 0 < z) := by intro ⟨p, q, r⟩; have := N5 p q; omega
  clear N4 N5
  have hcase : 0 < x ∨ (x ≤ 0 ∧ 0 < y) ∨ (x ≤ 0 ∧ y ≤ 0 ∧ z ≤ 0) := by omega
  clear N5'
  rcases hcase with hx | ⟨hx, hy⟩ | ⟨hx, hy, hz⟩
  all_goals
    go_enter Tryd.func5, Tryd.ntmps5
    go_wp2_with fail
    refine (awake_c _ HT.out).mono ?_; rintro e w1 ⟨rfl, hb⟩
    have hB := Lib.hid hb; clear hb
    go_wp2_with fail
    refine (X1.out _).mono ?_; rintro e w2 ⟨rfl, hb⟩
    have hB := Lib.hid (blwT hB.out hb); clear hb
    go_wp2_with fail
    refine (X2.out _).mono ?_; rintro e w3 ⟨rfl, hb⟩
    have hB := Lib.hid (blwT hB.out hb); clear hb
    go_wp2_with fail
    refine (X3.out _).mono ?_; rintro e w4 ⟨rfl, hb⟩
    have hB := Lib.hid (blwT hB.out hb); clear hb
    go_wp2_with fail
    refine (X4.out _).mono ?_; rintro e w5 ⟨rfl, hb⟩
    have hB := Lib.hid (blwT hB.out hb); clear hb
    go_wp2_with fail
    have E1 := Lib.hid E1
    go_loopw [10] (fun i wr => ∃ k : Nat, k ≤ a.size + 1 ∧ i = .int .i64 k ∧ Below w.heap.size w wr) (fun i _ => a.size + 1 - (intOf i).toNat)
    case atStart => exact ⟨0, by omega, rfl, hB.out⟩
    case round =>
      obtain ⟨k, hk, rfl, hB⟩ := hrel
      have hB := Lib.hid hB
      by_cases hlt : k ≤ a.size
      · have HE := Lib.hid (extract_take a k)
        have hl : (ofL (a.data.toList.take k)).size ≤ 140737488351232 := by rw [ofL_size, List.length_take]; omega
        have hp := natural_prefix a.data.toList k
        have X := Lib.hid (fun W => Natural_c (ofL (a.data.toList.take k)) a W hl hs)
        rw [ofL_data] at X
        generalize natural (a.data.toList.take k) a.data.toList = q at *
        go_wp2_with fail
        rw [HE.out]
        refine (X.out _).mono ?_; rintro e w6 ⟨rfl, hb⟩
        have hB := Lib.hid (blwT hB.out hb); clear hb
        go_wp2_with fail
        go_roundw
        case rel => exact ⟨k + 1, by omega, by go_num, hB.out⟩
        case measure => simp [intOf]; omega
      · go_wp2_with fail
        go_ret
        exact ⟨rfl, hB.out⟩

end Go.Proofs.YtegjcmoneemhjaaDoor
