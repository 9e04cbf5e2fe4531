/- Contracts of the reference's checks, continued. -/
import Derived.Test.YtegjcmoneemhjaaDoorIdE
namespace Go.Proofs.YtegjcmoneemhjaaDoor
open Go.RowKit
set_option linter.unusedVariables false
set_option linter.unusedSimpArgs false

theorem fed_eq (s : ByteArray) (h : s.size = 3) (r0 r1 r2 : Bool) (e0 : isUpper (s[0].toNat : Int) = r0) (e1 : isUpper (s[1].toNat : Int) = r1) (e2 : isUpper (s[2].toNat : Int) = r2) :
    federationS s.data.toList = (r0 && r1 && r2) := by
  unfold federationS
  rw [everyB_fit (by omega) (by omega), show s.data.toList.length = s.size from rfl]
  have hl : s.data.toList = [s[0], s[1], s[2]] := by
    apply List.ext_getElem
    · simp; exact h
    · intro i h1 h2
      have : i = 0 ∨ i = 1 ∨ i = 2 := by simp at h2; omega
      rcases this with rfl | rfl | rfl <;> rfl
  rw [hl]
  simp [h, e0, e1, e2]
  cases r0 <;> cases r1 <;> simp

set_option maxHeartbeats 1000000 in
theorem rFederation_c (s : ByteArray) (w : World) (hs : s.size ≤ 9223372036854775807) :
    Calls Tryd.prog 15 #[.string s] w fun e w' => e = .returned (.bool (federationS s.data.toList)) ∧ w = w' := by
  by_cases h3 : s.size = 3
  · have hb : ((s.size : Int) == 3) = true := by simp [h3]
    have hlt : 2 < s.size := by omega
    have h0 : (0 : Nat) < s.size := by omega
    have h1 : (1 : Nat) < s.size := by omega
    have H3 := Lib.hid h3; clear h3
    cases e00 : isUpper (s[0].toNat : Int)
    · have Hn : Hid (federationS s.data.toList = false) := Lib.hid (by rw [fed_eq s H3.out _ _ _ e00 rfl rfl]; rfl)
      have e0 := Lib.hid e00; clear e00
      go_enter Tryd.func15, Tryd.ntmps15
      go_wp2_with (go_at_call 47; refine (rWithin_c _ _ _ false _ e0.out (u8_lt _).1 (u8_lt _).2 (by omega) (by omega)).mono ?_; rintro e w' ⟨rfl, rfl⟩)
      go_ret
      exact ⟨by rw [Hn.out]; rfl, rfl⟩
    · cases e10 : isUpper (s[1].toNat : Int)
      · have Hn : Hid (federationS s.data.toList = false) := Lib.hid (by rw [fed_eq s H3.out _ _ _ e00 e10 rfl]; rfl)
        have e0 := Lib.hid e00; clear e00
        have e1 := Lib.hid e10; clear e10
        go_enter Tryd.func15, Tryd.ntmps15
        go_wp2_with fail
        refine (rWithin_c _ _ _ true _ e0.out (u8_lt _).1 (u8_lt _).2 (by omega) (by omega)).mono ?_; rintro e w' ⟨rfl, rfl⟩
        go_wp2_with fail
        refine (rWithin_c _ _ _ false _ e1.out (u8_lt _).1 (u8_lt _).2 (by omega) (by omega)).mono ?_; rintro e w' ⟨rfl, rfl⟩
        go_wp2_with fail
        go_ret
        exact ⟨by rw [Hn.out]; rfl, rfl⟩
      · have Hn : Hid (federationS s.data.toList = isUpper (s[2].toNat : Int)) := Lib.hid (by rw [fed_eq s H3.out _ _ _ e00 e10 rfl]; rfl)
        have e0 := Lib.hid e00; clear e00
        have e1 := Lib.hid e10; clear e10
        go_enter Tryd.func15, Tryd.ntmps15
        go_wp2_with fail
        refine (rWithin_c _ _ _ true _ e0.out (u8_lt _).1 (u8_lt _).2 (by omega) (by omega)).mono ?_; rintro e w' ⟨rfl, rfl⟩
        go_wp2_with fail
        refine (rWithin_c _ _ _ true _ e1.out (u8_lt _).1 (u8_lt _).2 (by omega) (by omega)).mono ?_; rintro e w' ⟨rfl, rfl⟩
        go_wp2_with fail
        refine (rWithin_c _ _ _ _ _ rfl (u8_lt _).1 (u8_lt _).2 (by omega) (by omega)).mono ?_; rintro e w' ⟨rfl, rfl⟩
        go_wp2_with fail
        go_ret
        exact ⟨by rw [Hn.out]; rfl, rfl⟩
  · have Hn : Hid (federationS s.data.toList = false) := Lib.hid (by unfold federationS; rw [show s.data.toList.length = s.size from rfl]; simp [h3])
    have hb : ((s.size : Int) == 3) = false := by simp; omega
    clear h3
    go_enter Tryd.func15, Tryd.ntmps15
    go_wp2
    go_ret
    exact ⟨by rw [Hn.out]; rfl, rfl⟩

theorem any_snoc (s : ByteArray) (k : Nat) (h : k < s.size) (p : UInt8 → Bool) (b c : Bool) (hb : (s.data.toList.take k).any p = b) (hc : p s[k] = c) : (s.data.toList.take (k + 1)).any p = (b || c) := by
  rw [take_snoc s k h, List.any_append, hb]; simp [hc]

set_option maxHeartbeats 1000000 in
theorem rCode_c (s : ByteArray) (w : World) (hs : s.size ≤ 9223372036854775807) :
    Calls Tryd.prog 17 #[.string s] w fun e w' => e = .returned (.bool (codeS s.data.toList)) ∧ w = w' := by
  by_cases h1 : s.size < 1
  · have Hn : Hid (codeS s.data.toList = false) := Lib.hid (by unfold codeS; rw [everyB_short h1]; rfl)
    go_enter Tryd.func17, Tryd.ntmps17
    go_wp2
    go_ret
    exact ⟨by rw [Hn.out]; rfl, rfl⟩
  by_cases h2 : 8 < s.size
  · have Hn : Hid (codeS s.data.toList = false) := Lib.hid (by unfold codeS; rw [everyB_long (by omega)]; rfl)
    go_enter Tryd.func17, Tryd.ntmps17
    go_wp2
    go_ret
    exact ⟨by rw [Hn.out]; rfl, rfl⟩
  have Hn : Hid (codeS s.data.toList = (s.data.toList.all codeChar && s.data.toList.any isLetter)) := Lib.hid (by unfold codeS; rw [everyB_fit (by omega) (by omega)])
  go_enter Tryd.func17, Tryd.ntmps17
  go_wp2
  go_loop [3, 4] (fun b i => ∃ k : Nat, ∃ r : Bool, k ≤ s.size ∧ i = .int .i64 k ∧ b = .bool r ∧ (s.data.toList.take k).any isLetter = r ∧ (s.data.toList.take k).all codeChar = true) (fun _ i => s.size - (intOf i).toNat)
  case atStart => exact ⟨0, false, Nat.zero_le _, rfl, rfl, by simp, by simp⟩
  case round =>
    obtain ⟨k, r, hk, rfl, rfl, hr0, ha0⟩ := hrel
    have ha := Lib.hid ha0; clear ha0
    have hr := Lib.hid hr0; clear hr0
    by_cases hlt : k < s.size
    · cases hu0 : isUpper (s[k].toNat : Int)
      · cases hl0 : isLower (s[k].toNat : Int)
        · cases hd0 : isDigit (s[k].toNat : Int)
          · have hp : Hid (codeChar s[k] = false) := Lib.hid (by simp [codeChar, isLetter, hu0, hl0, hd0])
            have hu := Lib.hid hu0; have hl := Lib.hid hl0; have hd := Lib.hid hd0; clear hu0 hl0 hd0
            go_wp2_with fail
            refine (rWithin_c _ _ _ false _ hu.out (u8_lt _).1 (u8_lt _).2 (by omega) (by omega)).mono ?_; rintro e w' ⟨rfl, rfl⟩
            go_wp2_with fail
            refine (rWithin_c _ _ _ false _ hl.out (u8_lt _).1 (u8_lt _).2 (by omega) (by omega)).mono ?_; rintro e w' ⟨rfl, rfl⟩
            go_wp2_with (go_at_call 24; refine (rDigit_c _ false _ hd.out (u8_lt _).1 (u8_lt _).2).mono ?_; rintro e w' ⟨rfl, rfl⟩)
            go_ret
            exact ⟨by rw [Hn.out, all_take_false s k hlt hp.out]; rfl, rfl⟩
          · have hp : Hid (codeChar s[k] = true) := Lib.hid (by simp [codeChar, isLetter, hd0])
            have hq : Hid (isLetter s[k] = false) := Lib.hid (by simp [isLetter, hu0, hl0])
            have hu := Lib.hid hu0; have hl := Lib.hid hl0; have hd := Lib.hid hd0; clear hu0 hl0 hd0
            cases r
            all_goals
              go_wp2_with fail
              refine (rWithin_c _ _ _ false _ hu.out (u8_lt _).1 (u8_lt _).2 (by omega) (by omega)).mono ?_; rintro e w' ⟨rfl, rfl⟩
              go_wp2_with fail
              refine (rWithin_c _ _ _ false _ hl.out (u8_lt _).1 (u8_lt _).2 (by omega) (by omega)).mono ?_; rintro e w' ⟨rfl, rfl⟩
              go_wp2_with (go_at_call 24; refine (rDigit_c _ true _ hd.out (u8_lt _).1 (u8_lt _).2).mono ?_; rintro e w' ⟨rfl, rfl⟩)
              go_round
              case rel => exact ⟨k + 1, _, by omega, by go_num, rfl, any_snoc s k hlt _ _ _ hr.out hq.out, all_take_snoc s k hlt ha.out hp.out⟩
              case measure => simp [intOf]; omega
        · have hp : Hid (codeChar s[k] = true) := Lib.hid (by simp [codeChar, isLetter, hl0])
          have hq : Hid (isLetter s[k] = true) := Lib.hid (by simp [isLetter, hl0])
          have hu := Lib.hid hu0; have hl := Lib.hid hl0; clear hu0 hl0
          cases r
          all_goals
            go_wp2_with fail
            refine (rWithin_c _ _ _ false _ hu.out (u8_lt _).1 (u8_lt _).2 (by omega) (by omega)).mono ?_; rintro e w' ⟨rfl, rfl⟩
            go_wp2_with fail
            refine (rWithin_c _ _ _ true _ hl.out (u8_lt _).1 (u8_lt _).2 (by omega) (by omega)).mono ?_; rintro e w' ⟨rfl, rfl⟩
            go_wp2_with fail
            go_round
            case rel => exact ⟨k + 1, _, by omega, by go_num, rfl, any_snoc s k hlt _ _ _ hr.out hq.out, all_take_snoc s k hlt ha.out hp.out⟩
            case measure => simp [intOf]; omega
      · have hp : Hid (codeChar s[k] = true) := Lib.hid (by simp [codeChar, isLetter, hu0])
        have hq : Hid (isLetter s[k] = true) := Lib.hid (by simp [isLetter, hu0])
        have hu := Lib.hid hu0; clear hu0
        cases r
        all_goals
          go_wp2_with fail
          refine (rWithin_c _ _ _ true _ hu.out (u8_lt _).1 (u8_lt _).2 (by omega) (by omega)).mono ?_; rintro e w' ⟨rfl, rfl⟩
          go_wp2_with fail
          go_round
          case rel => exact ⟨k + 1, _, by omega, by go_num, rfl, any_snoc s k hlt _ _ _ hr.out hq.out, all_take_snoc s k hlt ha.out hp.out⟩
          case measure => simp [intOf]; omega
    · have Hx : Hid (codeS s.data.toList = r) := Lib.hid (by
        have hk' : s.data.toList.take k = s.data.toList := List.take_of_length_le (by simp; omega)
        rw [Hn.out, ← hk', ha.out, hr.out]; rfl)
      go_wp2
      go_ret
      exact ⟨by rw [Hx.out]; rfl, rfl⟩

theorem titleS_head {s : ByteArray} (h : 0 < s.size) (h32 : (s[0].toNat : Int) = 32) : titleS s.data.toList = false := by
  have e : s[0] = 32 := by apply UInt8.toNat_inj.1; show s[0].toNat = 32; omega
  have : s.data.toList.head? = some 32 := by
    rw [List.head?_eq_getElem?, List.getElem?_eq_getElem (by simpa using h)]; exact congrArg some e
  unfold titleS; simp [this]
theorem titleS_last {s : ByteArray} (h : s.size - 1 < s.size) (h32 : (s[s.size - 1].toNat : Int) = 32) : titleS s.data.toList = false := by
  have e : s[s.size - 1] = 32 := by apply UInt8.toNat_inj.1; show s[s.size - 1].toNat = 32; omega
  have : s.data.toList.getLast? = some 32 := by
    rw [List.getLast?_eq_getElem?, List.getElem?_eq_getElem (by simpa using h)]; exact congrArg some e
  unfold titleS; rw [this]; simp
theorem titleS_mid {s : ByteArray} (h : 0 < s.size) (h' : s.size - 1 < s.size) (h40 : s.size ≤ 40) (h0 : ¬ (s[0].toNat : Int) = 32) (h1 : ¬ (s[s.size - 1].toNat : Int) = 32) : titleS s.data.toList = s.data.toList.all titleChar := by
  have e0 : s.data.toList.head? ≠ some 32 := by
    rw [List.head?_eq_getElem?, List.getElem?_eq_getElem (by simpa using h)]
    intro e; apply h0
    have e2 : s[0] = 32 := Option.some.inj e
    rw [e2]; rfl
  have e1 : s.data.toList.getLast? ≠ some 32 := by
    rw [List.getLast?_eq_getElem?, List.getElem?_eq_getElem (by simpa using h')]
    intro e; apply h1
    have e2 : s[s.size - 1] = 32 := Option.some.inj e
    rw [e2]; rfl
  unfold titleS
  rw [everyB_fit (by omega) (by omega)]; simp only [e0, e1, ne_eq, not_false_eq_true, decide_true, Bool.and_true]

set_option maxHeartbeats 1000000 in
theorem rTitle_c (s : ByteArray) (w : World) (hs : s.size ≤ 9223372036854775807) :
    Calls Tryd.prog 19 #[.string s] w fun e w' => e = .returned (.bool (titleS s.data.toList)) ∧ w = w' := by
  by_cases h1 : s.size < 1
  · have Hn : Hid (titleS s.data.toList = false) := Lib.hid (by unfold titleS; rw [everyB_short h1]; rfl)
    go_enter Tryd.func19, Tryd.ntmps19
    go_wp2
    go_ret
    exact ⟨by rw [Hn.out]; rfl, rfl⟩
  by_cases h2 : 40 < s.size
  · have Hn : Hid (titleS s.data.toList = false) := Lib.hid (by unfold titleS; rw [everyB_long (by omega)]; rfl)
    go_enter Tryd.func19, Tryd.ntmps19
    go_wp2
    go_ret
    exact ⟨by rw [Hn.out]; rfl, rfl⟩
  have h0 : (0 : Nat) < s.size := by omega
  have hm : s.size - 1 < s.size := by omega
  by_cases hh : (s[0].toNat : Int) = 32
  · have Hn : Hid (titleS s.data.toList = false) := Lib.hid (titleS_head h0 hh)
    have hb : ((s[0].toNat : Int) == 32) = true := by simp [hh]
    clear hh
    go_enter Tryd.func19, Tryd.ntmps19
    go_wp2
    go_ret
    exact ⟨by rw [Hn.out]; rfl, rfl⟩
  have hb : ((s[0].toNat : Int) == 32) = false := by simp [hh]
  by_cases hl : (s[s.size - 1].toNat : Int) = 32
  · have Hn : Hid (titleS s.data.toList = false) := Lib.hid (titleS_last hm hl)
    have hb' : ((s[s.size - 1].toNat : Int) == 32) = true := by simp [hl]
    clear hh hl
    go_enter Tryd.func19, Tryd.ntmps19
    go_wp2
    go_ret
    exact ⟨by rw [Hn.out]; rfl, rfl⟩
  have hb' : ((s[s.size - 1].toNat : Int) == 32) = false := by simp [hl]
  have Hn : Hid (titleS s.data.toList = s.data.toList.all titleChar) := Lib.hid (titleS_mid h0 hm (by omega) hh hl)
  clear hh hl
  go_enter Tryd.func19, Tryd.ntmps19
  go_wp2
  clear hb hb'
  go_loop [3] (fun i => ∃ k : Nat, k ≤ s.size ∧ i = .int .i64 k ∧ (s.data.toList.take k).all titleChar = true) (fun i => s.size - (intOf i).toNat)
  case atStart => exact ⟨0, Nat.zero_le _, rfl, by simp⟩
  case round =>
    obtain ⟨k, hk, rfl, ha0⟩ := hrel
    have ha := Lib.hid ha0; clear ha0
    by_cases hlt : k < s.size
    · cases hu0 : (decide (32 ≤ (s[k].toNat : Int)) && decide ((s[k].toNat : Int) ≤ 126))
      · have hp : Hid (titleChar s[k] = false) := Lib.hid (by simp only [titleChar, hu0, Bool.false_and])
        have hu := Lib.hid hu0; clear hu0
        go_wp2_with (go_at_call 47; refine (rWithin_c _ _ _ false _ hu.out (u8_lt _).1 (u8_lt _).2 (by omega) (by omega)).mono ?_; rintro e w' ⟨rfl, rfl⟩)
        go_ret
        exact ⟨by rw [Hn.out, all_take_false s k hlt hp.out]; rfl, rfl⟩
      · by_cases h34 : (s[k].toNat : Int) = 34
        · have hp : Hid (titleChar s[k] = false) := Lib.hid (by simp [titleChar, h34])
          have hb : ((s[k].toNat : Int) == 34) = true := by simp [h34]
          have hu := Lib.hid hu0; clear hu0 h34
          go_wp2_with (go_at_call 47; refine (rWithin_c _ _ _ true _ hu.out (u8_lt _).1 (u8_lt _).2 (by omega) (by omega)).mono ?_; rintro e w' ⟨rfl, rfl⟩)
          go_ret
          exact ⟨by rw [Hn.out, all_take_false s k hlt hp.out]; rfl, rfl⟩
        · have hp : Hid (titleChar s[k] = true) := Lib.hid (by simp only [titleChar, hu0, Bool.true_and]; simp [h34])
          have hb : ((s[k].toNat : Int) == 34) = false := by simp [h34]
          have hu := Lib.hid hu0; clear hu0 h34
          go_wp2_with (go_at_call 47; refine (rWithin_c _ _ _ true _ hu.out (u8_lt _).1 (u8_lt _).2 (by omega) (by omega)).mono ?_; rintro e w' ⟨rfl, rfl⟩)
          go_round
          case rel => exact ⟨k + 1, by omega, by go_num, all_take_snoc s k hlt ha.out hp.out⟩
          case measure => simp [intOf]; omega
    · go_wp2
      go_ret
      have hk' : s.data.toList.take k = s.data.toList := List.take_of_length_le (by simp; omega)
      exact ⟨by rw [Hn.out, ← hk', ha.out]; rfl, rfl⟩

end Go.Proofs.YtegjcmoneemhjaaDoor
