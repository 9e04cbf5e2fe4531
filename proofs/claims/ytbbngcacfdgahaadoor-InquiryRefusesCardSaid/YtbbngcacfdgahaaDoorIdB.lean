/- Contracts of the checks of package ident and of the reference. -/
import Derived.Test.YtbbngcacfdgahaaDoorIdA
namespace Go.Proofs.YtbbngcacfdgahaaDoor
open Go.RowKit
set_option linter.unusedVariables false
set_option linter.unusedSimpArgs false

theorem u8_lt (c : UInt8) : (0 : Int) ≤ (c.toNat : Int) ∧ (c.toNat : Int) < 256 := by
  have := c.toNat_lt; omega

def nameChar (c : UInt8) : Bool := isLower c.toNat || isDigit c.toNat || decide ((c.toNat : Int) = 95)
def titleChar (c : UInt8) : Bool := decide (32 ≤ (c.toNat : Int)) && decide ((c.toNat : Int) ≤ 126) && decide ((c.toNat : Int) ≠ 34)

theorem nameB_c (c : UInt8) (w : World) :
    Calls Tryd.prog 54 #[.int .u8 c.toNat] w fun e w' => e = .returned (.bool (nameChar c)) ∧ w = w' := by
  obtain ⟨h0, h1⟩ := u8_lt c
  unfold nameChar
  generalize (c.toNat : Int) = b at *
  cases hl0 : isLower b
  · cases hd0 : isDigit b
    · have hl := Lib.hid hl0; clear hl0
      have hd := Lib.hid hd0; clear hd0
      by_cases h95 : b = 95
      · have H95 := Lib.hid h95
        have hb : (b == 95) = true := by simp [h95]
        clear h95
        go_enter Tryd.func54, Tryd.ntmps54
        go_wp2_with (first | (go_at_call 55; refine (lower_c _ _ (by omega) (by omega)).mono ?_; rintro e w' ⟨rfl, rfl⟩; rw [hl.out]) | (go_at_call 56; refine (digit_c _ _ (by omega) (by omega)).mono ?_; rintro e w' ⟨rfl, rfl⟩; rw [hd.out]))
        go_ret
        exact ⟨by simp [H95.out], rfl⟩
      · have H95 := Lib.hid h95
        have hb : (b == 95) = false := by simp [h95]
        clear h95
        go_enter Tryd.func54, Tryd.ntmps54
        go_wp2_with (first | (go_at_call 55; refine (lower_c _ _ (by omega) (by omega)).mono ?_; rintro e w' ⟨rfl, rfl⟩; rw [hl.out]) | (go_at_call 56; refine (digit_c _ _ (by omega) (by omega)).mono ?_; rintro e w' ⟨rfl, rfl⟩; rw [hd.out]))
        go_ret
        exact ⟨by simp [H95.out], rfl⟩
    · have hl := Lib.hid hl0; clear hl0
      have hd := Lib.hid hd0; clear hd0
      go_enter Tryd.func54, Tryd.ntmps54
      go_wp2_with (first | (go_at_call 55; refine (lower_c _ _ (by omega) (by omega)).mono ?_; rintro e w' ⟨rfl, rfl⟩; rw [hl.out]) | (go_at_call 56; refine (digit_c _ _ (by omega) (by omega)).mono ?_; rintro e w' ⟨rfl, rfl⟩; rw [hd.out]))
      go_ret
      exact ⟨by simp, rfl⟩
  · have hl := Lib.hid hl0; clear hl0
    go_enter Tryd.func54, Tryd.ntmps54
    go_wp2_with (first | (go_at_call 55; refine (lower_c _ _ (by omega) (by omega)).mono ?_; rintro e w' ⟨rfl, rfl⟩; rw [hl.out]))
    go_ret
    exact ⟨by simp, rfl⟩

theorem titleB_c (c : UInt8) (w : World) :
    Calls Tryd.prog 62 #[.int .u8 c.toNat] w fun e w' => e = .returned (.bool (titleChar c)) ∧ w = w' := by
  obtain ⟨h0, h1⟩ := u8_lt c
  unfold titleChar
  generalize (c.toNat : Int) = b at *
  by_cases h1 : 32 ≤ b <;> by_cases h2 : b ≤ 126 <;> by_cases h3 : b = 34
  all_goals
    go_enter Tryd.func62, Tryd.ntmps62
    go_wp2
    all_goals first | (exfalso; omega) | (go_ret; exact ⟨by simp [h1, h2, h3], rfl⟩)

end Go.Proofs.YtbbngcacfdgahaaDoor
