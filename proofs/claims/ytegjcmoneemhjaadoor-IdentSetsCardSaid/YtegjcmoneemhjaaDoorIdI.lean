/- Contracts of the reference's natural order, continued. -/
import Derived.Test.YtegjcmoneemhjaaDoorIdH
namespace Go.Proofs.YtegjcmoneemhjaaDoor
open Go.RowKit
set_option linter.unusedVariables false
set_option linter.unusedSimpArgs false

theorem noZ_cons_t (r : List UInt8) : noZeros (48 :: r) = noZeros r := by simp [noZeros]
theorem noZ_cons_f {c : UInt8} (r : List UInt8) (h : c ≠ 48) : noZeros (c :: r) = c :: r := by
  unfold noZeros; rw [List.dropWhile_cons_of_neg (by simpa using h)]
theorem ofL_get (c : UInt8) (r : List UInt8) (h : 0 < (ofL (c :: r)).size) : (ofL (c :: r))[0] = c := rfl
theorem ofL_tail (c : UInt8) (r : List UInt8) : (ofL (c :: r)).extract 1 (ofL (c :: r)).size = ofL r := by rw [extract_drop]; rfl

theorem noZ_tail (xs : List UInt8) (h : 0 < (ofL xs).size) (h48 : (ofL xs)[0] = 48) : noZeros xs = noZeros (xs.drop 1) := by
  cases xs with
  | nil => cases h
  | cons c r => have : c = 48 := h48; subst this; exact noZ_cons_t r
theorem noZ_stop (xs : List UInt8) (h : 0 < (ofL xs).size) (h48 : ¬ (ofL xs)[0] = 48) : noZeros xs = xs := by
  cases xs with
  | nil => cases h
  | cons c r => exact noZ_cons_f r h48
theorem noZ_nil (xs : List UInt8) (h : ¬ 0 < xs.length) : noZeros xs = xs := by
  cases xs with
  | nil => rfl
  | cons c r => simp at h

theorem cmpP_digits {a b : ByteArray} (h0 : 0 < a.size) (h0' : 0 < b.size) (h1 : dig a[0] = true) (h2 : dig b[0] = true) :
    cmpP a.data.toList b.data.toList = firstNZ [cmpI (noZeros a.data.toList).length (noZeros b.data.toList).length, cmpL (noZeros a.data.toList) (noZeros b.data.toList)] := by
  unfold cmpP; rw [getL0 a h0, getL0 b h0', h1, h2]; rfl

theorem single (a : ByteArray) (h : a.size = 1) (h0 : 0 < a.size) : a.data.toList = [a[0]] := by
  have hl : a.data.toList.length = 1 := h
  obtain ⟨c, hc⟩ := List.length_eq_one_iff.1 hl
  have := getL0 a h0
  rw [hc] at this ⊢
  simp at this; rw [this]

theorem cmpP_other {a b : ByteArray} (h0 : 0 < a.size) (h0' : 0 < b.size) (p q : Bool) (h1 : dig a[0] = p) (h2 : dig b[0] = q) (hpq : (p && q) = false) (ha : p = false → a.size = 1) (hb : q = false → b.size = 1) :
    cmpP a.data.toList b.data.toList = cmpL (if p then [48] else a.data.toList) (if q then [48] else b.data.toList) := by
  unfold cmpP keyOf'
  rw [getL0 a h0, getL0 b h0', h1, h2, hpq]
  cases p with
  | true =>
    cases q with
    | true => simp at hpq
    | false => simp only [if_true]; rw [single b (hb rfl) h0']; exact (cmpL_one 48 _).symm
  | false =>
    rw [single a (ha rfl) h0]
    cases q with
    | true => exact (cmpL_one _ 48).symm
    | false => rw [single b (hb rfl) h0']; exact (cmpL_one _ _).symm

theorem firstNZ_cmp (x y : List UInt8) : firstNZ [cmpI x.length y.length, cmpL x y] = if x.length < y.length then -1 else if y.length < x.length then 1 else cmpL x y := by
  rw [firstNZ_two]; unfold cmpI
  by_cases h1 : x.length < y.length
  · simp [h1]
  · by_cases h2 : y.length < x.length
    · simp [h1, h2]
    · simp [h1, h2]

set_option maxHeartbeats 1000000 in
theorem rpieces_c (a b : ByteArray) (w : World) (hs : a.size ≤ 140737488351232) (hs' : b.size ≤ 140737488351232) (h0 : 0 < a.size) (h0' : 0 < b.size)
    (ha1 : dig a[0] = false → a.size = 1) (hb1 : dig b[0] = false → b.size = 1) :
    Calls Tryd.prog 58 #[.string a, .string b] w fun e w' => e = .returned (.int .i64 (cmpP a.data.toList b.data.toList)) ∧ ∃ n, w' = w.drewN n := by
  cases hd0 : dig a[0]
  · cases he0 : dig b[0]
    · have Hn := Lib.hid (cmpP_other h0 h0' _ _ hd0 he0 rfl (fun h => ha1 hd0) (fun h => hb1 he0))
      have hd := Lib.hid (show isDigit (a[0].toNat : Int) = false from hd0)
      have he := Lib.hid (show isDigit (b[0].toNat : Int) = false from he0)
      clear hd0 he0 ha1 hb1
      go_enter Tryd.func58, Tryd.ntmps58
      go_wp2_with fail
      go_quiet ((first | (exact q_left (rDigit_c _ false _ hd.out (u8_lt _).1 (u8_lt _).2)) | (exact q_left (rDigit_c _ false _ he.out (u8_lt _).1 (u8_lt _).2))))
      go_wp2_with (go_at_call 59; refine (rcompare_c _ _ _).mono ?_; rintro e w' ⟨rfl, rfl⟩)
      go_ret
      exact ⟨ret_int (by rw [Hn.out]; rfl), _, rfl⟩
    · have Hn := Lib.hid (cmpP_other h0 h0' _ _ hd0 he0 rfl (fun h => ha1 hd0) (fun h => by cases h))
      have hd := Lib.hid (show isDigit (a[0].toNat : Int) = false from hd0)
      have he := Lib.hid (show isDigit (b[0].toNat : Int) = true from he0)
      clear hd0 he0 ha1 hb1
      go_enter Tryd.func58, Tryd.ntmps58
      go_wp2_with fail
      go_quiet ((first | (exact q_left (rDigit_c _ false _ hd.out (u8_lt _).1 (u8_lt _).2)) | (exact q_left (rDigit_c _ true _ he.out (u8_lt _).1 (u8_lt _).2))))
      go_wp2_with (go_at_call 59; refine (rcompare_c _ _ _).mono ?_; rintro e w' ⟨rfl, rfl⟩)
      go_ret
      exact ⟨ret_int (by rw [Hn.out]; rfl), _, rfl⟩
  · cases he0 : dig b[0]
    · have Hn := Lib.hid (cmpP_other h0 h0' _ _ hd0 he0 rfl (fun h => by cases h) (fun h => hb1 he0))
      have hd := Lib.hid (show isDigit (a[0].toNat : Int) = true from hd0)
      have he := Lib.hid (show isDigit (b[0].toNat : Int) = false from he0)
      clear hd0 he0 ha1 hb1
      go_enter Tryd.func58, Tryd.ntmps58
      go_wp2_with fail
      go_quiet ((first | (exact q_left (rDigit_c _ true _ hd.out (u8_lt _).1 (u8_lt _).2)) | (exact q_left (rDigit_c _ false _ he.out (u8_lt _).1 (u8_lt _).2))))
      go_wp2_with (go_at_call 59; refine (rcompare_c _ _ _).mono ?_; rintro e w' ⟨rfl, rfl⟩)
      go_ret
      exact ⟨ret_int (by rw [Hn.out]; rfl), _, rfl⟩
    · have Hn := Lib.hid ((cmpP_digits h0 h0' hd0 he0).trans (firstNZ_cmp _ _))
      have hd := Lib.hid (show isDigit (a[0].toNat : Int) = true from hd0)
      have he := Lib.hid (show isDigit (b[0].toNat : Int) = true from he0)
      clear hd0 he0 ha1 hb1
      go_enter Tryd.func58, Tryd.ntmps58
      go_wp2_with fail
      go_quiet ((first | (exact q_left (rDigit_c _ true _ hd.out (u8_lt _).1 (u8_lt _).2)) | (exact q_left (rDigit_c _ true _ he.out (u8_lt _).1 (u8_lt _).2))))
      go_wp2_with fail
      go_loop [0] (fun x => ∃ xs : List UInt8, x = .string (ofL xs) ∧ xs.length ≤ a.size ∧ noZeros xs = noZeros a.data.toList) (fun x => match x with | .string s => s.size | _ => 0)
      case atStart => exact ⟨a.data.toList, rfl, Nat.le_refl _, rfl⟩
      case round =>
        obtain ⟨xs, rfl, hxl, hz0⟩ := hrel
        have hl : (ofL xs).size = xs.length := rfl
        by_cases hne : 0 < xs.length
        · have g0 : 0 < (ofL xs).size := hne
          by_cases h48 : (ofL xs)[0] = 48
          · have hb : (((ofL xs)[0].toNat : Int) == 48) = true := by rw [h48]; rfl
            have hz := Lib.hid ((noZ_tail xs g0 h48).symm.trans hz0); clear hz0 h48
            go_wp2_with fail
            go_round
            case rel => exact ⟨xs.drop 1, by rw [← hl, extract_drop]; rfl, by rw [List.length_drop]; omega, hz.out⟩
            case measure => simp; omega
          · have hb : (((ofL xs)[0].toNat : Int) == 48) = false := by rw [beq_eq_false_iff_ne]; intro e; apply h48; apply UInt8.toNat_inj.1; show _ = 48; omega
            have hz := Lib.hid ((noZ_stop xs g0 h48).symm.trans hz0); clear hz0 h48
            go_wp2_with fail
            go_loop [1] (fun x => ∃ ys : List UInt8, x = .string (ofL ys) ∧ ys.length ≤ b.size ∧ noZeros ys = noZeros b.data.toList) (fun x => match x with | .string s => s.size | _ => 0)
            case atStart => exact ⟨b.data.toList, rfl, Nat.le_refl _, rfl⟩
            case round =>
              obtain ⟨ys, rfl, hyl, hz0'⟩ := hrel
              have hl' : (ofL ys).size = ys.length := rfl
              by_cases hne' : 0 < ys.length
              · have g0' : 0 < (ofL ys).size := hne'
                by_cases h48' : (ofL ys)[0] = 48
                · have hb' : (((ofL ys)[0].toNat : Int) == 48) = true := by rw [h48']; rfl
                  have hz' := Lib.hid ((noZ_tail ys g0' h48').symm.trans hz0'); clear hz0' h48'
                  go_wp2_with fail
                  go_round
                  case rel => exact ⟨ys.drop 1, by rw [← hl', extract_drop]; rfl, by rw [List.length_drop]; omega, hz'.out⟩
                  case measure => simp; omega
                · have hb' : (((ofL ys)[0].toNat : Int) == 48) = false := by rw [beq_eq_false_iff_ne]; intro e; apply h48'; apply UInt8.toNat_inj.1; show _ = 48; omega
                  have hz' := Lib.hid ((noZ_stop ys g0' h48').symm.trans hz0'); clear hz0' h48'
                  have hl3 := Lib.hid hz.out; have hl4 := Lib.hid hz'.out
                  by_cases q1 : xs.length < ys.length
                  · go_wp2_with fail
                    go_ret
                    exact ⟨ret_int (by rw [Hn.out, ← hl3.out, ← hl4.out, if_pos q1]), _, rfl⟩
                  by_cases q2 : ys.length < xs.length
                  · go_wp2_with fail
                    go_ret
                    exact ⟨ret_int (by rw [Hn.out, ← hl3.out, ← hl4.out, if_neg q1, if_pos q2]), _, rfl⟩
                  go_wp2_with fail
                  refine (rcompare_c _ _ _).mono ?_; rintro e w' ⟨rfl, rfl⟩
                  go_wp2_with fail
                  go_ret
                  exact ⟨ret_int (by rw [Hn.out, ← hl3.out, ← hl4.out, if_neg q1, if_neg q2, ofL_data, ofL_data]), _, rfl⟩
              · have hz' := Lib.hid ((noZ_nil ys hne').symm.trans hz0'); clear hz0'
                have hl3 := Lib.hid hz.out; have hl4 := Lib.hid hz'.out
                by_cases q1 : xs.length < ys.length
                · go_wp2_with fail
                  go_ret
                  exact ⟨ret_int (by rw [Hn.out, ← hl3.out, ← hl4.out, if_pos q1]), _, rfl⟩
                by_cases q2 : ys.length < xs.length
                · go_wp2_with fail
                  go_ret
                  exact ⟨ret_int (by rw [Hn.out, ← hl3.out, ← hl4.out, if_neg q1, if_pos q2]), _, rfl⟩
                go_wp2_with fail
                refine (rcompare_c _ _ _).mono ?_; rintro e w' ⟨rfl, rfl⟩
                go_wp2_with fail
                go_ret
                exact ⟨ret_int (by rw [Hn.out, ← hl3.out, ← hl4.out, if_neg q1, if_neg q2, ofL_data, ofL_data]), _, rfl⟩
        · have hz := Lib.hid ((noZ_nil xs hne).symm.trans hz0); clear hz0
          go_wp2_with fail
          go_loop [1] (fun x => ∃ ys : List UInt8, x = .string (ofL ys) ∧ ys.length ≤ b.size ∧ noZeros ys = noZeros b.data.toList) (fun x => match x with | .string s => s.size | _ => 0)
          case atStart => exact ⟨b.data.toList, rfl, Nat.le_refl _, rfl⟩
          case round =>
            obtain ⟨ys, rfl, hyl, hz0'⟩ := hrel
            have hl' : (ofL ys).size = ys.length := rfl
            by_cases hne' : 0 < ys.length
            · have g0' : 0 < (ofL ys).size := hne'
              by_cases h48' : (ofL ys)[0] = 48
              · have hb' : (((ofL ys)[0].toNat : Int) == 48) = true := by rw [h48']; rfl
                have hz' := Lib.hid ((noZ_tail ys g0' h48').symm.trans hz0'); clear hz0' h48'
                go_wp2_with fail
                go_round
                case rel => exact ⟨ys.drop 1, by rw [← hl', extract_drop]; rfl, by rw [List.length_drop]; omega, hz'.out⟩
                case measure => simp; omega
              · have hb' : (((ofL ys)[0].toNat : Int) == 48) = false := by rw [beq_eq_false_iff_ne]; intro e; apply h48'; apply UInt8.toNat_inj.1; show _ = 48; omega
                have hz' := Lib.hid ((noZ_stop ys g0' h48').symm.trans hz0'); clear hz0' h48'
                have hl3 := Lib.hid hz.out; have hl4 := Lib.hid hz'.out
                by_cases q1 : xs.length < ys.length
                · go_wp2_with fail
                  go_ret
                  exact ⟨ret_int (by rw [Hn.out, ← hl3.out, ← hl4.out, if_pos q1]), _, rfl⟩
                by_cases q2 : ys.length < xs.length
                · go_wp2_with fail
                  go_ret
                  exact ⟨ret_int (by rw [Hn.out, ← hl3.out, ← hl4.out, if_neg q1, if_pos q2]), _, rfl⟩
                go_wp2_with fail
                refine (rcompare_c _ _ _).mono ?_; rintro e w' ⟨rfl, rfl⟩
                go_wp2_with fail
                go_ret
                exact ⟨ret_int (by rw [Hn.out, ← hl3.out, ← hl4.out, if_neg q1, if_neg q2, ofL_data, ofL_data]), _, rfl⟩
            · have hz' := Lib.hid ((noZ_nil ys hne').symm.trans hz0'); clear hz0'
              have hl3 := Lib.hid hz.out; have hl4 := Lib.hid hz'.out
              by_cases q1 : xs.length < ys.length
              · go_wp2_with fail
                go_ret
                exact ⟨ret_int (by rw [Hn.out, ← hl3.out, ← hl4.out, if_pos q1]), _, rfl⟩
              by_cases q2 : ys.length < xs.length
              · go_wp2_with fail
                go_ret
                exact ⟨ret_int (by rw [Hn.out, ← hl3.out, ← hl4.out, if_neg q1, if_pos q2]), _, rfl⟩
              go_wp2_with fail
              refine (rcompare_c _ _ _).mono ?_; rintro e w' ⟨rfl, rfl⟩
              go_wp2_with fail
              go_ret
              exact ⟨ret_int (by rw [Hn.out, ← hl3.out, ← hl4.out, if_neg q1, if_neg q2, ofL_data, ofL_data]), _, rfl⟩

end Go.Proofs.YtegjcmoneemhjaaDoor
