/- The law IdentNatural returns true for every two strings. -/
import Derived.Test.YtegjcmoneemhjaaDoorIdW
import Derived.Test.YtegjcmoneemhjaaDoorIdJ
namespace Go.Proofs.YtegjcmoneemhjaaDoor
open Go.RowKit
set_option linter.unusedVariables false
set_option linter.unusedSimpArgs false

set_option maxHeartbeats 2000000 in
theorem IdentNatural_c (a b : ByteArray) (w : World) (ht : Tabs w) (hs : a.size ≤ 140737488351232) (hs' : b.size ≤ 140737488351232) :
    Calls Tryd.prog 4 #[.string a, .string b] w fun e w' => e = .returned (.bool true) ∧ Below w.heap.size w w' := by
  have HT := Lib.hid ht; clear ht
  by_cases h1 : 1500 < a.size
  · go_enter Tryd.func4, Tryd.ntmps4
    go_wp2_with fail
    refine (awake_c _ HT.out).mono ?_; rintro e w1 ⟨rfl, hb⟩
    have hB := Lib.hid hb; clear hb
    go_wp2_with fail
    go_ret
    exact ⟨rfl, hB.out⟩
  by_cases h2 : 1500 < b.size
  · go_enter Tryd.func4, Tryd.ntmps4
    go_wp2_with fail
    refine (awake_c _ HT.out).mono ?_; rintro e w1 ⟨rfl, hb⟩
    have hB := Lib.hid hb; clear hb
    go_wp2_with fail
    go_ret
    exact ⟨rfl, hB.out⟩
  go_enter Tryd.func4, Tryd.ntmps4
  go_wp2_with fail
  refine (awake_c _ HT.out).mono ?_; rintro e w1 ⟨rfl, hb⟩
  have hB := Lib.hid hb; clear hb
  have X := Lib.hid (fun W => rNatural_c a b W hs hs')
  go_wp2_with fail
  refine (Natural_c a b _ hs hs').mono ?_; rintro e w2 ⟨rfl, hb⟩
  have hB := Lib.hid (blwT hB.out hb); clear hb
  generalize natural a.data.toList b.data.toList = n at *
  go_wp2_with fail
  refine (X.out _).mono ?_; rintro e w3 ⟨rfl, hb⟩
  have hB := Lib.hid (blwT hB.out hb); clear hb
  go_wp2_with fail
  go_ret
  exact ⟨ret_bool (by simp), hB.out⟩

end Go.Proofs.YtegjcmoneemhjaaDoor
