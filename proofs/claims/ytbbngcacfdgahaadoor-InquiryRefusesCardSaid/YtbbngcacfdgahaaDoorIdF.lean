/- Contracts of the reference's checks, continued. -/
import Derived.Test.YtbbngcacfdgahaaDoorIdE
namespace Go.Proofs.YtbbngcacfdgahaaDoor
open Go.RowKit
set_option linter.unusedVariables false
set_option linter.unusedSimpArgs false

theorem any_snoc (s : ByteArray) (k : Nat) (h : k < s.size) (p : UInt8 → Bool) (b c : Bool) (hb : (s.data.toList.take k).any p = b) (hc : p s[k] = c) : (s.data.toList.take (k + 1)).any p = (b || c) := by
  rw [take_snoc s k h, List.any_append, hb]; simp [hc]

theorem titleS_head {s : ByteArray} (h : 0 < s.size) (h32 : (s[0].toNat : Int) = 32) : titleS s.data.toList = false := by
  have e : s[0] = 32 := by apply UInt8.toNat_inj.1; show s[0].toNat = 32; omega
  have : s.data.toList.head? = some 32 := by
    rw [List.head?_eq_getElem?, List.getElem?_eq_getElem (by simpa using h)]; exact congrArg some e
  unfold titleS; simp [this]
theorem titleS_last {s : ByteArray} (h : s.size - 1 < s.size) (h32 : (s[s.size - 1].toNat : Int) = 32) : titleS s.data.toList = false := by
  have e : s[s.size - 1] = 32 := by apply UInt8.toNat_inj.1; show s[s.size - 1].toNat = 32; omega
  have : s.data.toList.getLast? = some 32 := by
    rw [List.getLast?_eq_getElem?, List.getElem?_eq_getElem (by simpa using h)]; exact congrArg some e
  unfold titleS; rw [this]; simp
theorem titleS_mid {s : ByteArray} (h : 0 < s.size) (h' : s.size - 1 < s.size) (h40 : s.size ≤ 40) (h0 : ¬ (s[0].toNat : Int) = 32) (h1 : ¬ (s[s.size - 1].toNat : Int) = 32) : titleS s.data.toList = s.data.toList.all titleChar := by
  have e0 : s.data.toList.head? ≠ some 32 := by
    rw [List.head?_eq_getElem?, List.getElem?_eq_getElem (by simpa using h)]
    intro e; apply h0
    have e2 : s[0] = 32 := Option.some.inj e
    rw [e2]; rfl
  have e1 : s.data.toList.getLast? ≠ some 32 := by
    rw [List.getLast?_eq_getElem?, List.getElem?_eq_getElem (by simpa using h')]
    intro e; apply h1
    have e2 : s[s.size - 1] = 32 := Option.some.inj e
    rw [e2]; rfl
  unfold titleS
  rw [everyB_fit (by omega) (by omega)]; simp only [e0, e1, ne_eq, not_false_eq_true, decide_true, Bool.and_true]

set_option maxHeartbeats 1000000 in
theorem rTitle_c (s : ByteArray) (w : World) (hs : s.size ≤ 9223372036854775807) :
    Calls Tryd.prog 59 #[.string s] w fun e w' => e = .returned (.bool (titleS s.data.toList)) ∧ w = w' := by
  by_cases h1 : s.size < 1
  · have Hn : Hid (titleS s.data.toList = false) := Lib.hid (by unfold titleS; rw [everyB_short h1]; rfl)
    go_enter Tryd.func59, Tryd.ntmps59
    go_wp2
    go_ret
    exact ⟨by rw [Hn.out]; rfl, rfl⟩
  by_cases h2 : 40 < s.size
  · have Hn : Hid (titleS s.data.toList = false) := Lib.hid (by unfold titleS; rw [everyB_long (by omega)]; rfl)
    go_enter Tryd.func59, Tryd.ntmps59
    go_wp2
    go_ret
    exact ⟨by rw [Hn.out]; rfl, rfl⟩
  have h0 : (0 : Nat) < s.size := by omega
  have hm : s.size - 1 < s.size := by omega
  by_cases hh : (s[0].toNat : Int) = 32
  · have Hn : Hid (titleS s.data.toList = false) := Lib.hid (titleS_head h0 hh)
    have hb : ((s[0].toNat : Int) == 32) = true := by simp [hh]
    clear hh
    go_enter Tryd.func59, Tryd.ntmps59
    go_wp2
    go_ret
    exact ⟨by rw [Hn.out]; rfl, rfl⟩
  have hb : ((s[0].toNat : Int) == 32) = false := by simp [hh]
  by_cases hl : (s[s.size - 1].toNat : Int) = 32
  · have Hn : Hid (titleS s.data.toList = false) := Lib.hid (titleS_last hm hl)
    have hb' : ((s[s.size - 1].toNat : Int) == 32) = true := by simp [hl]
    clear hh hl
    go_enter Tryd.func59, Tryd.ntmps59
    go_wp2
    go_ret
    exact ⟨by rw [Hn.out]; rfl, rfl⟩
  have hb' : ((s[s.size - 1].toNat : Int) == 32) = false := by simp [hl]
  have Hn : Hid (titleS s.data.toList = s.data.toList.all titleChar) := Lib.hid (titleS_mid h0 hm (by omega) hh hl)
  clear hh hl
  go_enter Tryd.func59, Tryd.ntmps59
  go_wp2
  clear hb hb'
  go_loop [3] (fun i => ∃ k : Nat, k ≤ s.size ∧ i = .int .i64 k ∧ (s.data.toList.take k).all titleChar = true) (fun i => s.size - (intOf i).toNat)
  case atStart => exact ⟨0, Nat.zero_le _, rfl, by simp⟩
  case round =>
    obtain ⟨k, hk, rfl, ha0⟩ := hrel
    have ha := Lib.hid ha0; clear ha0
    by_cases hlt : k < s.size
    · cases hu0 : (decide (32 ≤ (s[k].toNat : Int)) && decide ((s[k].toNat : Int) ≤ 126))
      · have hp : Hid (titleChar s[k] = false) := Lib.hid (by simp only [titleChar, hu0, Bool.false_and])
        have hu := Lib.hid hu0; clear hu0
        go_wp2_with (go_at_call 57; refine (rWithin_c _ _ _ false _ hu.out (u8_lt _).1 (u8_lt _).2 (by omega) (by omega)).mono ?_; rintro e w' ⟨rfl, rfl⟩)
        go_ret
        exact ⟨by rw [Hn.out, all_take_false s k hlt hp.out]; rfl, rfl⟩
      · by_cases h34 : (s[k].toNat : Int) = 34
        · have hp : Hid (titleChar s[k] = false) := Lib.hid (by simp [titleChar, h34])
          have hb : ((s[k].toNat : Int) == 34) = true := by simp [h34]
          have hu := Lib.hid hu0; clear hu0 h34
          go_wp2_with (go_at_call 57; refine (rWithin_c _ _ _ true _ hu.out (u8_lt _).1 (u8_lt _).2 (by omega) (by omega)).mono ?_; rintro e w' ⟨rfl, rfl⟩)
          go_ret
          exact ⟨by rw [Hn.out, all_take_false s k hlt hp.out]; rfl, rfl⟩
        · have hp : Hid (titleChar s[k] = true) := Lib.hid (by simp only [titleChar, hu0, Bool.true_and]; simp [h34])
          have hb : ((s[k].toNat : Int) == 34) = false := by simp [h34]
          have hu := Lib.hid hu0; clear hu0 h34
          go_wp2_with (go_at_call 57; refine (rWithin_c _ _ _ true _ hu.out (u8_lt _).1 (u8_lt _).2 (by omega) (by omega)).mono ?_; rintro e w' ⟨rfl, rfl⟩)
          go_round
          case rel => exact ⟨k + 1, by omega, by go_num, all_take_snoc s k hlt ha.out hp.out⟩
          case measure => simp [intOf]; omega
    · go_wp2
      go_ret
      have hk' : s.data.toList.take k = s.data.toList := List.take_of_length_le (by simp; omega)
      exact ⟨by rw [Hn.out, ← hk', ha.out]; rfl, rfl⟩

end Go.Proofs.YtbbngcacfdgahaaDoor
