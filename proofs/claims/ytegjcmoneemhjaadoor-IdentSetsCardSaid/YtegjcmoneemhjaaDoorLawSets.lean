/- The law IdentSets returns true for every two lists and every string. -/
import Derived.Test.YtegjcmoneemhjaaDoorIdAD
import Derived.Test.YtegjcmoneemhjaaDoorLawUnions
namespace Go.Proofs.YtegjcmoneemhjaaDoor
open Go.RowKit
set_option linter.unusedVariables false
set_option linter.unusedSimpArgs false

set_option maxHeartbeats 4000000 in
set_option maxRecDepth 100000 in
theorem IdentSets_c (va vb : Value) (a b : List ByteArray) (s : ByteArray) (w : World) (ht : Tabs w) (ha : RdS w va a) (hb : RdS w vb b) :
    Calls Tryd.prog 9 #[va, vb, .string s] w fun e w' => e = .returned (.bool true) ∧ Below w.heap.size w w' := by
  have HT := Lib.hid ht; clear ht
  obtain ⟨A, c1, rfl, -⟩ := ha.shape
  obtain ⟨B, c2, rfl, -⟩ := hb.shape
  have Ra := Lib.hid ha; have Rb := Lib.hid hb; clear ha hb
  go_enter Tryd.func9, Tryd.ntmps9
  go_wp2_with fail
  refine (awake_c _ HT.out).mono ?_; rintro e w1 ⟨rfl, hb⟩
  have hB := Lib.hid hb; have Ra := RdS.ext Ra hb; have Rb := RdS.ext Rb hb; clear hb
  go_wp2_with fail
  refine (rSmall60_c _ a _ Ra.out).mono ?_; rintro e w' ⟨sm, rfl, hs1, rfl⟩
  cases sm
  · clear hs1
    go_wp2_with fail
    go_ret
    exact ⟨rfl, hB.out⟩
  have l1 := Lib.hid (hs1 rfl); clear hs1
  go_wp2_with fail
  refine (rSmall60_c _ b _ Rb.out).mono ?_; rintro e w' ⟨sm, rfl, hs2, rfl⟩
  cases sm
  · clear hs2
    go_wp2_with fail
    go_ret
    exact ⟨rfl, hB.out⟩
  have l2 := Lib.hid (hs2 rfl); clear hs2
  have h16 : Hid ((a.length + b.length) * 16 ≤ 140737488355328) := Lib.hid (by have := l1.out; have := l2.out; omega)
  go_wp2_with fail
  refine (Sorted_c _ a _ Ra.out).mono ?_; rintro e w2 ⟨rfl, q, hw⟩
  have hb : Below w1.heap.size w1 w2 := by rw [hw]; exact blwN (Below.refl _ _) _
  have hB := Lib.hid (blwT hB.out hb); have Ra := RdS.ext Ra hb; have Rb := RdS.ext Rb hb; clear hb hw
  go_wp2_with fail
  refine (rSorted_c _ a _ Ra.out).mono ?_; rintro e w3 ⟨rfl, q, hw⟩
  have hb : Below w2.heap.size w2 w3 := by rw [hw]; exact blwN (Below.refl _ _) _
  have hB := Lib.hid (blwT hB.out hb); have Ra := RdS.ext Ra hb; have Rb := RdS.ext Rb hb; clear hb hw
  generalize sortedB a = so
  have Eso : (so == so) = true := by simp
  go_wp2_with fail
  refine (Set_c _ a _ Ra.out).mono ?_; rintro e w4 ⟨v4, rfl, hR, hb⟩
  have hB := Lib.hid (blwT hB.out hb); have Ra := RdS.ext Ra hb; have Rb := RdS.ext Rb hb; clear hb
  have R1 := Lib.hid hR; clear hR
  go_wp2_with fail
  refine (rSet_c _ a _ Ra.out).mono ?_; rintro e w5 ⟨v5, rfl, hR, hb⟩
  have hB := Lib.hid (blwT hB.out hb); have Ra := RdS.ext Ra hb; have Rb := RdS.ext Rb hb; have R1 := RdS.ext R1 hb; clear hb
  have R2 := Lib.hid hR; clear hR
  go_wp2_with fail
  refine (rSame_c _ _ _ _ _ R1.out R2.out).mono ?_; rintro e w6 ⟨rfl, q, hw⟩
  have hb : Below w5.heap.size w5 w6 := by rw [hw]; exact blwN (Below.refl _ _) _
  have hB := Lib.hid (blwT hB.out hb); have Ra := RdS.ext Ra hb; have Rb := RdS.ext Rb hb; clear hb hw
  rw [same_self]
  go_wp2_with fail
  refine (Has_c _ a s _ Ra.out).mono ?_; rintro e w' ⟨rfl, rfl⟩
  go_wp2_with fail
  refine (rHas_c _ a s _ Ra.out).mono ?_; rintro e w' ⟨rfl, rfl⟩
  generalize Lib.containsS a s = ha
  have Eha : (ha == ha) = true := by simp
  go_wp2_with fail
  refine (Union_c _ _ a b _ Ra.out Rb.out h16.out).mono ?_; rintro e w7 ⟨v7, rfl, hR, hb⟩
  have hB := Lib.hid (blwT hB.out hb); have Ra := RdS.ext Ra hb; have Rb := RdS.ext Rb hb; clear hb
  have R3 := Lib.hid hR; clear hR
  go_wp2_with fail
  refine (rUnion_c _ _ a b _ Ra.out Rb.out h16.out).mono ?_; rintro e w8 ⟨v8, rfl, hR, hb⟩
  have hB := Lib.hid (blwT hB.out hb); have Ra := RdS.ext Ra hb; have Rb := RdS.ext Rb hb; have R3 := RdS.ext R3 hb; clear hb
  have R4 := Lib.hid hR; clear hR
  go_wp2_with fail
  refine (rSame_c _ _ _ _ _ R3.out R4.out).mono ?_; rintro e w9 ⟨rfl, q, hw⟩
  have hb : Below w8.heap.size w8 w9 := by rw [hw]; exact blwN (Below.refl _ _) _
  have hB := Lib.hid (blwT hB.out hb); have Ra := RdS.ext Ra hb; have Rb := RdS.ext Rb hb; clear hb hw
  rw [same_self]
  go_wp2_with fail
  refine (Minus_c _ _ a b _ Ra.out Rb.out).mono ?_; rintro e w10 ⟨v10, rfl, hR, hb⟩
  have hB := Lib.hid (blwT hB.out hb); have Ra := RdS.ext Ra hb; have Rb := RdS.ext Rb hb; clear hb
  have R5 := Lib.hid hR; clear hR
  go_wp2_with fail
  refine (rMinus_c _ _ a b _ Ra.out Rb.out).mono ?_; rintro e w11 ⟨v11, rfl, hR, hb⟩
  have hB := Lib.hid (blwT hB.out hb); have Ra := RdS.ext Ra hb; have Rb := RdS.ext Rb hb; have R5 := RdS.ext R5 hb; clear hb
  have R6 := Lib.hid hR; clear hR
  go_wp2_with fail
  refine (rSame_c _ _ _ _ _ R5.out R6.out).mono ?_; rintro e w12 ⟨rfl, q, hw⟩
  have hb : Below w11.heap.size w11 w12 := by rw [hw]; exact blwN (Below.refl _ _) _
  have hB := Lib.hid (blwT hB.out hb); have Ra := RdS.ext Ra hb; have Rb := RdS.ext Rb hb; clear hb hw
  rw [same_self]
  go_wp2_with fail
  refine (Subset_c _ _ a b _ Ra.out Rb.out).mono ?_; rintro e w13 ⟨rfl, hb⟩
  have hB := Lib.hid (blwT hB.out hb); have Ra := RdS.ext Ra hb; have Rb := RdS.ext Rb hb; clear hb
  go_wp2_with fail
  refine (rSubset_c _ _ a b _ Ra.out Rb.out).mono ?_; rintro e w14 ⟨rfl, hb⟩
  have hB := Lib.hid (blwT hB.out hb); clear hb
  generalize (minusS a b).isEmpty = em
  have Eem : (em == em) = true := by simp
  go_wp2_with fail
  go_ret
  exact ⟨rfl, hB.out⟩

end Go.Proofs.YtegjcmoneemhjaaDoor
