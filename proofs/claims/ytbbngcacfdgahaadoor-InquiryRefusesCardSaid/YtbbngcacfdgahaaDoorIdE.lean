/- Contracts of the reference's checks. -/
import Derived.Test.YtbbngcacfdgahaaDoorIdD
namespace Go.Proofs.YtbbngcacfdgahaaDoor
open Go.RowKit
set_option linter.unusedVariables false
set_option linter.unusedSimpArgs false

theorem rWithin_c (c a b : Int) (r : Bool) (w : World) (hr : (decide (a ≤ c) && decide (c ≤ b)) = r) (h0 : 0 ≤ c) (h1 : c < 256) (a0 : 0 ≤ a) (b1 : b < 256) :
    Calls Tryd.prog 57 #[.int .u8 c, .int .u8 a, .int .u8 b] w fun e w' => e = .returned (.bool r) ∧ w = w' := by
  subst hr
  by_cases h1 : a ≤ c <;> by_cases h2 : c ≤ b
  all_goals
    go_enter Tryd.func57, Tryd.ntmps57
    go_wp2
    all_goals first | (exfalso; omega) | (go_ret; exact ⟨by simp [h1, h2], rfl⟩)

theorem rDigit_c (c : Int) (r : Bool) (w : World) (hr : isDigit c = r) (h0 : 0 ≤ c) (h1 : c < 256) :
    Calls Tryd.prog 58 #[.int .u8 c] w fun e w' => e = .returned (.bool r) ∧ w = w' := by
  have Hr := Lib.hid hr; clear hr
  go_enter Tryd.func58, Tryd.ntmps58
  go_wp2_with (go_at_call 57; refine (rWithin_c _ _ _ r _ Hr.out (by omega) (by omega) (by omega) (by omega)).mono ?_; rintro e w' ⟨rfl, rfl⟩)
  go_ret
  exact ⟨rfl, rfl⟩

theorem rBib_c (n : Int) (w : World) :
    Calls Tryd.prog 33 #[.int .i64 n] w fun e w' => e = .returned (.bool (decide (1 ≤ n) && decide (n ≤ 9999))) ∧ w = w' := by
  by_cases h1 : 1 ≤ n <;> by_cases h2 : n ≤ 9999
  all_goals
    go_enter Tryd.func33, Tryd.ntmps33
    go_wp2
    all_goals first | (exfalso; omega) | (go_ret; exact ⟨by simp [h1, h2], rfl⟩)

theorem getD_get (s : ByteArray) (k : Nat) (h : k < s.size) : s.data.toList.getD k 0 = s[k] := by
  rw [List.getD_eq_getElem?_getD, List.getElem?_eq_getElem (by simpa using h)]; rfl

theorem everyB_short {most : Int} {p : UInt8 → Bool} {s : ByteArray} (h : s.size < 1) : everyB most p s.data.toList = false := by
  unfold everyB; rw [show s.data.toList.length = s.size from rfl]; simp [show ¬ 1 ≤ s.size by omega]
theorem everyB_long {most : Int} {p : UInt8 → Bool} {s : ByteArray} (h : most < s.size) : everyB most p s.data.toList = false := by
  unfold everyB; rw [show s.data.toList.length = s.size from rfl]; simp [show ¬ (s.size : Int) ≤ most by omega]
theorem everyB_fit {most : Int} {p : UInt8 → Bool} {s : ByteArray} (h : 1 ≤ s.size) (h' : (s.size : Int) ≤ most) : everyB most p s.data.toList = s.data.toList.all p := by
  unfold everyB; rw [show s.data.toList.length = s.size from rfl]; simp [h, h']
theorem everyB_false {most : Int} {p : UInt8 → Bool} {s : ByteArray} (k : Nat) (hk : k < s.size) (h : p s[k] = false) : everyB most p s.data.toList = false := by
  unfold everyB; rw [all_take_false s k hk h]; simp

set_option maxHeartbeats 1000000 in
theorem rName_c (s : ByteArray) (w : World) (hs : s.size ≤ 9223372036854775807) :
    Calls Tryd.prog 32 #[.string s] w fun e w' => e = .returned (.bool (nameS s.data.toList)) ∧ w = w' := by
  by_cases h1 : s.size < 1
  · have Hn : Hid (nameS s.data.toList = false) := Lib.hid (by unfold nameS; rw [everyB_short h1]; rfl)
    go_enter Tryd.func32, Tryd.ntmps32
    go_wp2
    go_ret
    exact ⟨by rw [Hn.out]; rfl, rfl⟩
  by_cases h2 : 16 < s.size
  · have Hn : Hid (nameS s.data.toList = false) := Lib.hid (by unfold nameS; rw [everyB_long (by omega)]; rfl)
    go_enter Tryd.func32, Tryd.ntmps32
    go_wp2
    go_ret
    exact ⟨by rw [Hn.out]; rfl, rfl⟩
  have h0 : (0 : Nat) < s.size := by omega
  cases hl0 : isLower (s[0].toNat : Int)
  · have Hn : Hid (nameS s.data.toList = false) := Lib.hid (by unfold nameS; rw [getD_get s 0 h0, hl0, Bool.and_false])
    have hl := Lib.hid hl0; clear hl0
    go_enter Tryd.func32, Tryd.ntmps32
    go_wp2_with (go_at_call 57; refine (rWithin_c _ _ _ false _ hl.out (u8_lt _).1 (u8_lt _).2 (by omega) (by omega)).mono ?_; rintro e w' ⟨rfl, rfl⟩)
    go_ret
    exact ⟨by rw [Hn.out]; rfl, rfl⟩
  have Hn : Hid (nameS s.data.toList = s.data.toList.all nameChar) := Lib.hid (by unfold nameS; rw [getD_get s 0 h0, hl0, Bool.and_true, everyB_fit (by omega) (by omega)])
  have hl := Lib.hid hl0; clear hl0
  go_enter Tryd.func32, Tryd.ntmps32
  go_wp2_with (go_at_call 57; refine (rWithin_c _ _ _ true _ hl.out (u8_lt _).1 (u8_lt _).2 (by omega) (by omega)).mono ?_; rintro e w' ⟨rfl, rfl⟩)
  go_loop [3] (fun i => ∃ k : Nat, k ≤ s.size ∧ i = .int .i64 k ∧ (s.data.toList.take k).all nameChar = true) (fun i => s.size - (intOf i).toNat)
  case atStart => exact ⟨0, Nat.zero_le _, rfl, by simp⟩
  case round =>
    obtain ⟨k, hk, rfl, ha0⟩ := hrel
    have ha := Lib.hid ha0; clear ha0
    by_cases hlt : k < s.size
    · cases hlo0 : isLower (s[k].toNat : Int)
      · cases hdi0 : isDigit (s[k].toNat : Int)
        · have hlo := Lib.hid hlo0
          have hdi := Lib.hid hdi0
          by_cases h95 : (s[k].toNat : Int) = 95
          · have hp : Hid (nameChar s[k] = true) := Lib.hid (by simp [nameChar, h95])
            have hb : ((s[k].toNat : Int) != 95) = false := by simp [h95]
            clear h95 hlo0 hdi0
            go_wp2_with (first | (go_at_call 57; refine (rWithin_c _ _ _ false _ hlo.out (u8_lt _).1 (u8_lt _).2 (by omega) (by omega)).mono ?_; rintro e w' ⟨rfl, rfl⟩) | (go_at_call 58; refine (rDigit_c _ false _ hdi.out (u8_lt _).1 (u8_lt _).2).mono ?_; rintro e w' ⟨rfl, rfl⟩))
            go_round
            case rel => exact ⟨k + 1, by omega, by go_num, all_take_snoc s k hlt ha.out hp.out⟩
            case measure => simp [intOf]; omega
          · have hp : Hid (nameChar s[k] = false) := Lib.hid (by simp [nameChar, h95, hlo0, hdi0])
            have hb : ((s[k].toNat : Int) != 95) = true := by simp [h95]
            clear h95 hlo0 hdi0
            go_wp2_with (first | (go_at_call 57; refine (rWithin_c _ _ _ false _ hlo.out (u8_lt _).1 (u8_lt _).2 (by omega) (by omega)).mono ?_; rintro e w' ⟨rfl, rfl⟩) | (go_at_call 58; refine (rDigit_c _ false _ hdi.out (u8_lt _).1 (u8_lt _).2).mono ?_; rintro e w' ⟨rfl, rfl⟩))
            go_ret
            exact ⟨by rw [Hn.out, all_take_false s k hlt hp.out]; rfl, rfl⟩
        · have hp : Hid (nameChar s[k] = true) := Lib.hid (by simp [nameChar, hdi0])
          have hlo := Lib.hid hlo0; clear hlo0
          have hdi := Lib.hid hdi0; clear hdi0
          go_wp2_with (first | (go_at_call 57; refine (rWithin_c _ _ _ false _ hlo.out (u8_lt _).1 (u8_lt _).2 (by omega) (by omega)).mono ?_; rintro e w' ⟨rfl, rfl⟩) | (go_at_call 58; refine (rDigit_c _ true _ hdi.out (u8_lt _).1 (u8_lt _).2).mono ?_; rintro e w' ⟨rfl, rfl⟩))
          go_round
          case rel => exact ⟨k + 1, by omega, by go_num, all_take_snoc s k hlt ha.out hp.out⟩
          case measure => simp [intOf]; omega
      · have hp : Hid (nameChar s[k] = true) := Lib.hid (by simp [nameChar, hlo0])
        have hlo := Lib.hid hlo0; clear hlo0
        go_wp2_with (first | (go_at_call 57; refine (rWithin_c _ _ _ true _ hlo.out (u8_lt _).1 (u8_lt _).2 (by omega) (by omega)).mono ?_; rintro e w' ⟨rfl, rfl⟩))
        go_round
        case rel => exact ⟨k + 1, by omega, by go_num, all_take_snoc s k hlt ha.out hp.out⟩
        case measure => simp [intOf]; omega
    · go_wp2
      go_ret
      have hk' : s.data.toList.take k = s.data.toList := List.take_of_length_le (by simp; omega)
      exact ⟨by rw [Hn.out, ← hk', ha.out]; rfl, rfl⟩

end Go.Proofs.YtbbngcacfdgahaaDoor
