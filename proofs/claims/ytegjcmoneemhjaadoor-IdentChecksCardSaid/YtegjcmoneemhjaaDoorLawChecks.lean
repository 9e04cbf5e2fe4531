/- The law IdentChecks returns true for every string and number. -/
import Derived.Test.YtegjcmoneemhjaaDoorIdW
namespace Go.Proofs.YtegjcmoneemhjaaDoor
open Go.RowKit
set_option linter.unusedVariables false
set_option linter.unusedSimpArgs false

set_option maxHeartbeats 2000000 in
set_option maxRecDepth 100000 in
theorem IdentChecks_c (s : ByteArray) (n : Int) (w : World) (ht : Tabs w) (hs : s.size ≤ 140737488351232) :
    Calls Tryd.prog 3 #[.string s, .int .i64 n] w fun e w' => e = .returned (.bool true) ∧ Below w.heap.size w w' := by
  have HT := Lib.hid ht; clear ht
  go_enter Tryd.func3, Tryd.ntmps3
  go_wp2_with fail
  refine (awake_c _ HT.out).mono ?_; rintro e w1 ⟨rfl, hb⟩
  have hB := Lib.hid hb
  have HT := Lib.hid (HT.out.below hb)
  clear hb
  go_wp2_with fail
  refine (Name_c s _ (by omega)).mono ?_; rintro e w' ⟨rfl, rfl⟩
  have X := Lib.hid (fun W => rName_c s W (by omega))
  generalize nameS s.data.toList = b at *
  go_wp2_with fail
  refine (X.out _).mono ?_; rintro e w' ⟨rfl, rfl⟩
  clear X
  go_wp2_with fail
  refine (Federation_c s _ (by omega)).mono ?_; rintro e w' ⟨rfl, rfl⟩
  have X := Lib.hid (fun W => rFederation_c s W (by omega))
  generalize federationS s.data.toList = b at *
  go_wp2_with fail
  refine (X.out _).mono ?_; rintro e w' ⟨rfl, rfl⟩
  clear X
  go_wp2_with fail
  refine (Code_c s _ (by omega)).mono ?_; rintro e w2 ⟨rfl, hb⟩
  have HT := Lib.hid (HT.out.below hb); have hB := Lib.hid (blwT hB.out hb); clear hb
  have X := Lib.hid (fun W => rCode_c s W (by omega))
  generalize codeS s.data.toList = b at *
  go_wp2_with fail
  refine (X.out _).mono ?_; rintro e w' ⟨rfl, rfl⟩
  clear X
  go_wp2_with fail
  refine (Title_c s _ (by omega) HT.out).mono ?_; rintro e w3 ⟨rfl, hb⟩
  have HT := Lib.hid (HT.out.below hb); have hB := Lib.hid (blwT hB.out hb); clear hb
  have X := Lib.hid (fun W => rTitle_c s W (by omega))
  generalize titleS s.data.toList = b at *
  go_wp2_with fail
  refine (X.out _).mono ?_; rintro e w' ⟨rfl, rfl⟩
  clear X
  go_wp2_with fail
  refine (Bib_c n _).mono ?_; rintro e w' ⟨rfl, rfl⟩
  have X := Lib.hid (fun W => rBib_c n W)
  generalize (decide (1 ≤ n) && decide (n ≤ 9999)) = b at *
  go_wp2_with fail
  refine (X.out _).mono ?_; rintro e w' ⟨rfl, rfl⟩
  go_wp2_with fail
  go_ret
  exact ⟨ret_bool (by simp), hB.out⟩

end Go.Proofs.YtegjcmoneemhjaaDoor
