/- Contracts of cmp's functions, piece and compare of package ident. -/
import Derived.Test.YtegjcmoneemhjaaDoorIdN
import Derived.Test.YtegjcmoneemhjaaDoorIdD
namespace Go.Proofs.YtegjcmoneemhjaaDoor
open Go.RowKit
set_option linter.unusedVariables false
set_option linter.unusedSimpArgs false

theorem blwN {B : Nat} {a w : World} (h : Below B a w) (n : Nat) : Below B a (w.drewN n) := ⟨h.os, h.tape, h.output, h.size, h.block⟩
/-- One call behind the other. -/
theorem blwT {w w1 w2 : World} (h : Below w.heap.size w w1) (k : Below w1.heap.size w1 w2) : Below w.heap.size w w2 :=
  h.trans (k.mono h.size)

theorem nanS_c (s : ByteArray) (w : World) : Calls Tryd.prog 76 #[.string s] w fun e w' => e = .returned (.bool false) ∧ w = w' := by
  have h : (s.toList != s.toList) = false := by simp
  go_enter Tryd.func76, Tryd.ntmps76
  go_wp2
  go_ret
  exact ⟨by simp, rfl⟩

theorem cmpS_c (a b : ByteArray) (w : World) : Calls Tryd.prog 56 #[.string a, .string b] w fun e w' => e = .returned (.int .i64 (cmpL a.data.toList b.data.toList)) ∧ w = w' := by
  have ea : a.toList = a.data.toList := Lib.toList_data a
  have eb : b.toList = b.data.toList := Lib.toList_data b
  cases h1 : Op.bytesLess a.data.toList b.data.toList
  · cases h2 : Op.bytesLess b.data.toList a.data.toList
    all_goals
      have hn := Lib.hid (show cmpL a.data.toList b.data.toList = _ from by unfold cmpL; rw [h1, h2])
      have h3 := bl_eq h1 _ h2
      rw [← ea, ← eb] at h1 h2 h3
      clear ea eb
      go_enter Tryd.func56, Tryd.ntmps56
      go_wp2_with (go_at_call 76; refine (nanS_c _ _).mono ?_; rintro e w' ⟨rfl, rfl⟩)
      go_ret
      exact ⟨by rw [hn.out]; rfl, rfl⟩
  · have hn := Lib.hid (show cmpL a.data.toList b.data.toList = -1 from by unfold cmpL; rw [h1]; rfl)
    rw [← ea, ← eb] at h1
    clear ea eb
    go_enter Tryd.func56, Tryd.ntmps56
    go_wp2_with (go_at_call 76; refine (nanS_c _ _).mono ?_; rintro e w' ⟨rfl, rfl⟩)
    go_ret
    exact ⟨by rw [hn.out]; rfl, rfl⟩

theorem nanB_c (x : Int) (w : World) : Calls Tryd.prog 86 #[.int .u8 x] w fun e w' => e = .returned (.bool false) ∧ w = w' := by
  go_enter Tryd.func86, Tryd.ntmps86
  go_wp2
  go_ret
  exact ⟨by simp, rfl⟩

theorem cmpB_c (x y : Int) (w : World) (h0 : 0 ≤ x) (h1 : x < 256) (h2 : 0 ≤ y) (h3 : y < 256) : Calls Tryd.prog 73 #[.int .u8 x, .int .u8 y] w fun e w' => e = .returned (.int .i64 (cmpI x y)) ∧ w = w' := by
  unfold cmpI
  by_cases h1 : x < y <;> by_cases h2 : y < x
  all_goals
    go_enter Tryd.func73, Tryd.ntmps73
    go_wp2_with (go_at_call 86; refine (nanB_c _ _).mono ?_; rintro e w' ⟨rfl, rfl⟩)
    all_goals first | (exfalso; omega) | (go_ret; exact ⟨by simp [h1, h2], rfl⟩)

theorem cmpI_c (x y : Int) (w : World) : Calls Tryd.prog 55 #[.int .i64 x, .int .i64 y] w fun e w' => e = .returned (.int .i64 (cmpI x y)) ∧ w = w' :=
  (Tryd.cmp_Compare_int x y w).mono (by rintro e w' ⟨he, hw⟩; exact ⟨he, hw.symm⟩)

set_option maxHeartbeats 400000 in
/-- cmp.Or of numbers: the first that is not 0. -/
theorem cmpOr_c (b : Nat) (xs : List Int) (c : Nat) (w : World) (hn : xs.length ≤ 9223372036854775807) (hc : ∀ j, j < xs.length → w.cell? ⟨b, j, none⟩ = some (.int .i64 (xs.getD j 0))) :
    Calls Tryd.prog 54 #[.slice (some ⟨b, 0, none⟩) xs.length c] w fun e w' => e = .returned (.int .i64 (firstNZ xs)) ∧ w = w' := by
  have Hc := Lib.hid hc; clear hc
  go_enter Tryd.func54, Tryd.ntmps54
  go_wp2
  go_loop [8] (fun i => ∃ k : Nat, k ≤ xs.length ∧ i = .int .i64 k ∧ firstNZ xs = firstNZ (xs.drop k)) (fun i => xs.length - (intOf i).toNat)
  case atStart => exact ⟨0, Nat.zero_le _, rfl, rfl⟩
  case round =>
    obtain ⟨k, hk, rfl, hz0⟩ := hrel
    by_cases hlt : k < xs.length
    · have hcell := Hc.out k hlt
      have hd : xs.drop k = xs.getD k 0 :: xs.drop (k + 1) := by
        rw [List.drop_eq_getElem_cons hlt, List.getD_eq_getElem?_getD, List.getElem?_eq_getElem hlt]; rfl
      rw [hd, firstNZ] at hz0
      clear hd
      generalize xs.getD k 0 = x at *
      by_cases hx : x = 0
      · rw [if_neg (by simp [hx])] at hz0
        have hb : (x != 0) = false := by simp [hx]
        have hz := Lib.hid hz0; clear hz0 hx
        go_wp2
        go_round
        case rel => exact ⟨k + 1, by omega, by go_num, hz.out⟩
        case measure => simp [intOf]; omega
      · rw [if_pos hx] at hz0
        have hb : (x != 0) = true := by simp [hx]
        have hz := Lib.hid hz0; clear hz0 hx
        go_wp2
        go_ret
        exact ⟨by rw [hz.out]; rfl, rfl⟩
    · have hz : Hid (firstNZ xs = 0) := Lib.hid (by rw [hz0, List.drop_of_length_le (by omega)]; rfl)
      clear hz0
      go_wp2
      go_ret
      exact ⟨by rw [hz.out]; rfl, rfl⟩

theorem takeWhile_of (l : List UInt8) (k : Nat) (h1 : k ≤ l.length) (h2 : (l.take k).all dig = true) (h3 : ∀ h : k < l.length, dig l[k] = false) : (l.takeWhile dig).length = k := by
  induction l generalizing k with
  | nil => simp at h1; simp [h1]
  | cons c r ih =>
    cases k with
    | zero =>
      have := h3 (by simp)
      simp at this
      simp [List.takeWhile_cons, this]
    | succ k =>
      simp only [List.take_succ_cons, List.all_cons, Bool.and_eq_true] at h2
      rw [List.takeWhile_cons_of_pos h2.1, List.length_cons, ih k (by simpa using h1) h2.2 (fun h => by have := h3 (by simpa using h); simpa using this)]

set_option maxHeartbeats 400000 in
theorem piece_c (s : ByteArray) (w : World) (hs : s.size ≤ 9223372036854775807) (h0 : 0 < s.size) :
    Calls Tryd.prog 52 #[.string s] w fun e w' => e = .returned (.string (ofL (pieceL s.data.toList))) ∧ w = w' := by
  go_enter Tryd.func52, Tryd.ntmps52
  go_wp2
  go_loop [3] (fun i => ∃ k : Nat, k ≤ s.size ∧ i = .int .i64 k ∧ (s.data.toList.take k).all dig = true) (fun i => s.size - (intOf i).toNat)
  case atStart => exact ⟨0, Nat.zero_le _, rfl, by simp⟩
  case round =>
    obtain ⟨k, hk, rfl, ha0⟩ := hrel
    have ha := Lib.hid ha0; clear ha0
    by_cases hlt : k < s.size
    · cases hd0 : dig s[k]
      · have hn : pieceN s.data.toList = max 1 k := by
          unfold pieceN; rw [takeWhile_of _ k (by simpa using hk) ha.out (fun _ => hd0)]
        have Hn : Hid (pieceL s.data.toList = s.data.toList.take (max 1 k)) := Lib.hid (by unfold pieceL; rw [hn])
        have hd := Lib.hid hd0; clear hd0 hn
        by_cases hk1 : k < 1
        all_goals
          go_wp2_with (go_at_call 46; refine (digit_c _ _ (u8_lt _).1 (u8_lt _).2).mono ?_; rintro e w' ⟨rfl, rfl⟩; rw [show isDigit (s[k].toNat : Int) = false from hd.out])
          go_ret
          exact ⟨ret_str (by rw [Hn.out, extract_take, show (max (k : Int) 1).toNat = max 1 k by omega]), rfl⟩
      · have hp : dig s[k] = true := hd0
        have hd := Lib.hid hd0; clear hd0
        have hp := Lib.hid hp
        go_wp2_with (go_at_call 46; refine (digit_c _ _ (u8_lt _).1 (u8_lt _).2).mono ?_; rintro e w' ⟨rfl, rfl⟩; rw [show isDigit (s[k].toNat : Int) = true from hd.out])
        go_round
        case rel => exact ⟨k + 1, by omega, by go_num, all_take_snoc s k hlt ha.out hp.out⟩
        case measure => simp [intOf]; omega
    · have hn : pieceN s.data.toList = k := by
        unfold pieceN; rw [takeWhile_of _ k (by simpa using hk) ha.out (fun h => by simp at h; omega)]; omega
      have Hn : Hid (pieceL s.data.toList = s.data.toList.take k) := Lib.hid (by unfold pieceL; rw [hn])
      clear hn
      have hk1 : ¬ k < 1 := by omega
      go_wp2
      go_ret
      exact ⟨ret_str (by rw [Hn.out, extract_take, show (max (k : Int) 1).toNat = k by omega]), rfl⟩

theorem getL0 (s : ByteArray) (h : 0 < s.size) : s.data.toList.getD 0 0 = s[0] := by
  rw [List.getD_eq_getElem?_getD, List.getElem?_eq_getElem (by simpa using h)]; rfl

theorem TrimLeft0_c (s : ByteArray) (w : World) : Calls Tryd.prog 74 #[.string s, .string ⟨#[48]⟩] w fun e w' => e = .returned (.string (ofL (noZeros s.data.toList))) ∧ w = w' :=
  (Tryd.strings_TrimLeft_one s 48 (by decide) w).mono (by rintro e w' ⟨he, hw⟩; exact ⟨he, hw.symm⟩)

theorem cell_lit2 (w : World) (x y : Int) (t : TypeId) : ∀ j, j < [x, y].length → (w.alloc (.cells #[.int .i64 x, .int .i64 y] t)).cell? ⟨w.heap.size, j, none⟩ = some (.int .i64 ([x, y].getD j 0)) := by
  intro j hj
  have : j = 0 ∨ j = 1 := by simp at hj; omega
  rcases this with rfl | rfl <;> simp

set_option maxHeartbeats 1000000 in
theorem compare_c (a b : ByteArray) (w : World) (hs : a.size ≤ 140737488351232) (hs' : b.size ≤ 140737488351232) (h0 : 0 < a.size) (h0' : 0 < b.size) :
    Calls Tryd.prog 53 #[.string a, .string b] w fun e w' => e = .returned (.int .i64 (cmpP a.data.toList b.data.toList)) ∧ Below w.heap.size w w' := by
  have ha := Lib.hid (getL0 a h0)
  have hb := Lib.hid (getL0 b h0')
  have hza : (noZeros a.data.toList).length ≤ a.size := (List.dropWhile_suffix _).length_le
  have hzb : (noZeros b.data.toList).length ≤ b.size := (List.dropWhile_suffix _).length_le
  cases hd0 : dig a[0]
  · cases he0 : dig b[0]
    · have Hn : Hid (cmpP a.data.toList b.data.toList = cmpI a[0].toNat b[0].toNat) := Lib.hid (by unfold cmpP keyOf'; rw [ha.out, hb.out, hd0, he0]; rfl)
      have hd := Lib.hid (show isDigit (a[0].toNat : Int) = false from hd0)
      have he := Lib.hid (show isDigit (b[0].toNat : Int) = false from he0)
      clear hd0 he0 hza hzb
      go_enter Tryd.func53, Tryd.ntmps53
      go_wp2_with fail
      refine (digit_c _ _ (u8_lt _).1 (u8_lt _).2).mono ?_; rintro e w' ⟨rfl, rfl⟩; rw [hd.out]
      go_wp2_with fail
      go_quiet (fail)
      go_wp2_with fail
      refine (digit_c _ _ (u8_lt _).1 (u8_lt _).2).mono ?_; rintro e w' ⟨rfl, rfl⟩; rw [hd.out]
      go_wp2_with fail
      refine (digit_c _ _ (u8_lt _).1 (u8_lt _).2).mono ?_; rintro e w' ⟨rfl, rfl⟩; rw [he.out]
      go_wp2_with fail
      refine (cmpB_c _ _ _ (u8_lt _).1 (u8_lt _).2 (u8_lt _).1 (u8_lt _).2).mono ?_; rintro e w' ⟨rfl, rfl⟩
      go_wp2_with fail
      go_ret
      exact ⟨ret_int (by rw [Hn.out]), blwN (Below.refl _ _) _⟩
    · have Hn : Hid (cmpP a.data.toList b.data.toList = cmpI a[0].toNat 48) := Lib.hid (by unfold cmpP keyOf'; rw [ha.out, hb.out, hd0, he0]; rfl)
      have hd := Lib.hid (show isDigit (a[0].toNat : Int) = false from hd0)
      have he := Lib.hid (show isDigit (b[0].toNat : Int) = true from he0)
      clear hd0 he0 hza hzb
      go_enter Tryd.func53, Tryd.ntmps53
      go_wp2_with fail
      refine (digit_c _ _ (u8_lt _).1 (u8_lt _).2).mono ?_; rintro e w' ⟨rfl, rfl⟩; rw [hd.out]
      go_wp2_with fail
      go_quiet (fail)
      go_wp2_with fail
      refine (digit_c _ _ (u8_lt _).1 (u8_lt _).2).mono ?_; rintro e w' ⟨rfl, rfl⟩; rw [hd.out]
      go_wp2_with fail
      refine (digit_c _ _ (u8_lt _).1 (u8_lt _).2).mono ?_; rintro e w' ⟨rfl, rfl⟩; rw [he.out]
      go_wp2_with fail
      refine (cmpB_c _ _ _ (u8_lt _).1 (u8_lt _).2 (by omega) (by omega)).mono ?_; rintro e w' ⟨rfl, rfl⟩
      go_wp2_with fail
      go_ret
      exact ⟨ret_int (by rw [Hn.out]), blwN (Below.refl _ _) _⟩
  · cases he0 : dig b[0]
    · have Hn : Hid (cmpP a.data.toList b.data.toList = cmpI 48 b[0].toNat) := Lib.hid (by unfold cmpP keyOf'; rw [ha.out, hb.out, hd0, he0]; rfl)
      have hd := Lib.hid (show isDigit (a[0].toNat : Int) = true from hd0)
      have he := Lib.hid (show isDigit (b[0].toNat : Int) = false from he0)
      clear hd0 he0 hza hzb
      go_enter Tryd.func53, Tryd.ntmps53
      go_wp2_with fail
      refine (digit_c _ _ (u8_lt _).1 (u8_lt _).2).mono ?_; rintro e w' ⟨rfl, rfl⟩; rw [hd.out]
      go_wp2_with fail
      refine (digit_c _ _ (u8_lt _).1 (u8_lt _).2).mono ?_; rintro e w' ⟨rfl, rfl⟩; rw [he.out]
      go_wp2_with fail
      go_quiet (fail)
      go_wp2_with fail
      refine (digit_c _ _ (u8_lt _).1 (u8_lt _).2).mono ?_; rintro e w' ⟨rfl, rfl⟩; rw [hd.out]
      go_wp2_with fail
      refine (digit_c _ _ (u8_lt _).1 (u8_lt _).2).mono ?_; rintro e w' ⟨rfl, rfl⟩; rw [he.out]
      go_wp2_with fail
      refine (cmpB_c _ _ _ (by omega) (by omega) (u8_lt _).1 (u8_lt _).2).mono ?_; rintro e w' ⟨rfl, rfl⟩
      go_wp2_with fail
      go_ret
      exact ⟨ret_int (by rw [Hn.out]), blwN (Below.refl _ _) _⟩
    · have Hn : Hid (cmpP a.data.toList b.data.toList = firstNZ [cmpI (noZeros a.data.toList).length (noZeros b.data.toList).length, cmpL (noZeros a.data.toList) (noZeros b.data.toList)]) := Lib.hid (by unfold cmpP; rw [ha.out, hb.out, hd0, he0]; rfl)
      have hd := Lib.hid (show isDigit (a[0].toNat : Int) = true from hd0)
      have he := Lib.hid (show isDigit (b[0].toNat : Int) = true from he0)
      clear hd0 he0
      go_enter Tryd.func53, Tryd.ntmps53
      go_wp2_with fail
      refine (digit_c _ _ (u8_lt _).1 (u8_lt _).2).mono ?_; rintro e w' ⟨rfl, rfl⟩; rw [hd.out]
      go_wp2_with fail
      refine (digit_c _ _ (u8_lt _).1 (u8_lt _).2).mono ?_; rintro e w' ⟨rfl, rfl⟩; rw [he.out]
      go_wp2_with fail
      refine (TrimLeft0_c _ _).mono ?_; rintro e w' ⟨rfl, rfl⟩
      go_wp2_with fail
      refine (TrimLeft0_c _ _).mono ?_; rintro e w' ⟨rfl, rfl⟩
      generalize noZeros a.data.toList = za at *
      generalize noZeros b.data.toList = zb at *
      have hl : (ofL za).size = za.length := rfl
      have hl' : (ofL zb).size = zb.length := rfl
      go_wp2_with fail
      refine (cmpI_c _ _ _).mono ?_; rintro e w' ⟨rfl, rfl⟩
      go_wp2_with fail
      refine (cmpS_c _ _ _).mono ?_; rintro e w' ⟨rfl, rfl⟩
      rw [ofL_data, ofL_data]
      generalize cmpI za.length zb.length = x1 at *
      generalize cmpL za zb = x2 at *
      go_wp2_with fail
      refine (cmpOr_c w.heap.size [x1, x2] 2 _ (by simp) (cell_lit2 w x1 x2 _)).mono ?_; rintro e w' ⟨rfl, rfl⟩
      go_wp2_with fail
      go_ret
      exact ⟨ret_int (by rw [Hn.out]), (Below.refl _ _).alloc (Nat.le_refl _) _⟩

theorem ofL_ne {l : List UInt8} (h : l ≠ []) : ((ofL l).toList != []) = true := by
  rw [Lib.toList_data, ofL_data]; simpa using h

theorem str_ne_t (s : ByteArray) (h : 0 < s.size) : (s.toList != []) = true := by
  rw [Lib.toList_data]
  have : s.data.toList.length = s.size := rfl
  rw [bne_iff_ne]; intro e; rw [e] at this; simp at this; omega

set_option maxHeartbeats 1000000 in
theorem Natural_c (a b : ByteArray) (w : World) (hs : a.size ≤ 140737488351232) (hs' : b.size ≤ 140737488351232) :
    Calls Tryd.prog 22 #[.string a, .string b] w fun e w' => e = .returned (.int .i64 (natural a.data.toList b.data.toList)) ∧ Below w.heap.size w w' := by
  go_enter Tryd.func22, Tryd.ntmps22
  go_wp2
  go_loopw [5, 6] (fun x y wr => ∃ xs ys : List UInt8, x = .string (ofL xs) ∧ y = .string (ofL ys) ∧ xs.length ≤ a.size ∧ ys.length ≤ b.size ∧ natR (a.size + 1) a.data.toList b.data.toList = natR (a.size + 1) xs ys ∧ Below w.heap.size w wr)
    (fun x _ _ => match x with | .string s => s.size | _ => 0)
  case atStart => exact ⟨a.data.toList, b.data.toList, rfl, rfl, Nat.le_refl _, Nat.le_refl _, rfl, Below.refl _ _⟩
  case round =>
    obtain ⟨xs, ys, rfl, rfl, hx, hy, hr0, hB⟩ := hrel
    have hl : (ofL xs).size = xs.length := rfl
    have hl' : (ofL ys).size = ys.length := rfl
    have ht : (ofL xs).toList = xs := Lib.toList_data _
    have ht' : (ofL ys).toList = ys := Lib.toList_data _
    have hr := Lib.hid hr0; clear hr0
    have hB := Lib.hid hB
    by_cases hx0 : xs = []
    · have Hn : Hid (natural a.data.toList b.data.toList = firstNZ [cmpI 0 ys.length, cmpL a.data.toList b.data.toList]) :=
        Lib.hid (by unfold natural; rw [show a.data.toList.length = a.size from rfl, hr.out, natR_end (by omega) (.inl hx0), hx0]; rfl)
      clear hr
      subst hx0
      have hl0 : (ofL []).size = 0 := rfl
      go_wp2_with fail
      refine (cmpI_c _ _ _).mono ?_; rintro e w' ⟨rfl, rfl⟩
      go_wp2_with fail
      refine (cmpS_c _ _ _).mono ?_; rintro e w' ⟨rfl, rfl⟩
      generalize cmpI 0 ys.length = x1 at *
      generalize cmpL a.data.toList b.data.toList = x2 at *
      go_wp2_with fail
      refine (cmpOr_c wr.heap.size [x1, x2] 2 _ (by simp) (cell_lit2 wr x1 x2 _)).mono ?_; rintro e w' ⟨rfl, rfl⟩
      go_wp2_with fail
      go_ret
      exact ⟨ret_int (by rw [Hn.out]), hB.out.alloc hB.out.size _⟩
    by_cases hy0 : ys = []
    · have Hn : Hid (natural a.data.toList b.data.toList = firstNZ [cmpI xs.length 0, cmpL a.data.toList b.data.toList]) :=
        Lib.hid (by unfold natural; rw [show a.data.toList.length = a.size from rfl, hr.out, natR_end (by omega) (.inr hy0), hy0]; rfl)
      have hb : (xs != []) = true := by simp [hx0]
      have hbe : xs.isEmpty = false := by simp [hx0]
      clear hr hx0
      subst hy0
      have hl0 : (ofL []).size = 0 := rfl
      go_wp2_with fail
      refine (cmpI_c _ _ _).mono ?_; rintro e w' ⟨rfl, rfl⟩
      go_wp2_with fail
      refine (cmpS_c _ _ _).mono ?_; rintro e w' ⟨rfl, rfl⟩
      generalize cmpI xs.length 0 = x1 at *
      generalize cmpL a.data.toList b.data.toList = x2 at *
      go_wp2_with fail
      refine (cmpOr_c wr.heap.size [x1, x2] 2 _ (by simp) (cell_lit2 wr x1 x2 _)).mono ?_; rintro e w' ⟨rfl, rfl⟩
      go_wp2_with fail
      go_ret
      exact ⟨ret_int (by rw [Hn.out]), hB.out.alloc hB.out.size _⟩
    have hbe : xs.isEmpty = false := by simp [hx0]
    have hbe' : ys.isEmpty = false := by simp [hy0]
    have hb : (xs != []) = true := by simp [hx0]
    have hb' : (ys != []) = true := by simp [hy0]
    have hxp : 0 < xs.length := List.length_pos_iff.2 hx0
    have hyp : 0 < ys.length := List.length_pos_iff.2 hy0
    have hpx := pieceL_length hx0
    have hpy := pieceL_length hy0
    have hpx1 := pieceN_pos xs
    have hpy1 := pieceN_pos ys
    have hpx2 := pieceN_le hx0
    have hpy2 := pieceN_le hy0
    have q1 : 0 < (pieceL xs).length := by omega
    have q2 : 0 < (pieceL ys).length := by omega
    have q3 : (pieceL xs).length ≤ xs.length := by omega
    have q4 : (pieceL ys).length ≤ ys.length := by omega
    clear hpx hpy hpx1 hpy1 hpx2 hpy2
    have Hs := Lib.hid (fun h => natR_stop (n := a.size + 1) (by omega) hx0 hy0 h)
    have Ht := Lib.hid (fun h => natR_step (n := a.size + 1) (by omega) hx0 hy0 h)
    clear hx0 hy0
    go_wp2_with fail
    refine (piece_c (ofL xs) _ (by omega) (by omega)).mono ?_; rintro e w' ⟨rfl, rfl⟩; rw [ofL_data]
    go_wp2_with fail
    refine (piece_c (ofL ys) _ (by omega) (by omega)).mono ?_; rintro e w' ⟨rfl, rfl⟩; rw [ofL_data]
    generalize pieceL xs = p at *
    generalize pieceL ys = q at *
    have hp1 : (ofL p).size = p.length := rfl
    have hq1 : (ofL q).size = q.length := rfl
    go_wp2_with fail
    refine (compare_c (ofL p) (ofL q) _ (by omega) (by omega) (by omega) (by omega)).mono ?_; rintro e w1 ⟨rfl, hb1⟩; rw [ofL_data, ofL_data]
    have hb1 := Lib.hid hb1
    have Hs := Lib.hid Hs.out
    generalize hc : cmpP p q = c at *
    by_cases hc0 : c = 0
    · have hcb : (c != 0) = false := by simp [hc0]
      have Hn := Lib.hid (hr.out.trans (Ht.out hc0))
      have hc := Lib.hid hc
      clear hc0 Hs Ht
      go_wp2_with fail
      go_quiet (fail)
      go_wp2_with fail
      go_roundw
      case rel => exact ⟨xs.drop p.length, ys.drop q.length, by rw [← hl, extract_drop]; rfl, by rw [← hl', extract_drop]; rfl, by rw [List.length_drop]; omega, by rw [List.length_drop]; omega, Hn.out, blwN (blwT hB.out hb1.out) _⟩
      case measure => simp; omega
    · have hcb : (c != 0) = true := by simp [hc0]
      have Hn : Hid (natural a.data.toList b.data.toList = c) := Lib.hid (by
        unfold natural; rw [show a.data.toList.length = a.size from rfl, hr.out, Hs.out hc0, firstNZ_two, if_pos hc0])
      have hc := Lib.hid hc
      clear hc0 Hs Ht
      go_wp2_with fail
      go_ret
      exact ⟨ret_int (by rw [Hn.out]), blwT hB.out hb1.out⟩

end Go.Proofs.YtegjcmoneemhjaaDoor
