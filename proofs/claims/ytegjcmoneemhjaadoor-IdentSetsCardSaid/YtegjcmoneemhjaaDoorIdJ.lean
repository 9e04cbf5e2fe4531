/- The contract of the reference's natural order. -/
import Derived.Test.YtegjcmoneemhjaaDoorIdI
namespace Go.Proofs.YtegjcmoneemhjaaDoor
open Go.RowKit
set_option linter.unusedVariables false
set_option linter.unusedSimpArgs false

theorem extract_mid (s : ByteArray) (i e : Nat) : s.extract i e = ofL ((s.data.toList.drop i).take (e - i)) := by
  apply ext_data
  rw [ofL_data, ByteArray.data_extract, Array.toList_extract, List.extract_eq_take_drop]

theorem drop_ne {s : ByteArray} {i : Nat} (h : i < s.size) : s.data.toList.drop i ≠ [] := by
  intro e
  have := congrArg List.length e
  rw [List.length_drop, show s.data.toList.length = s.size from rfl] at this
  simp at this; omega
theorem piece_fits {s : ByteArray} {i : Nat} (h : i < s.size) : i + pieceN (s.data.toList.drop i) ≤ s.size := by
  have := pieceN_le (drop_ne h)
  rw [List.length_drop, show s.data.toList.length = s.size from rfl] at this
  omega

/-- A piece that begins with no digit is one byte. -/
theorem piece_single {l : List UInt8} (hne : l ≠ []) (h0 : 0 < (ofL (pieceL l)).size) (h : dig (ofL (pieceL l))[0] = false) : (ofL (pieceL l)).size = 1 := by
  cases l with
  | nil => exact absurd rfl hne
  | cons c r =>
    have hp : pieceL (c :: r) = c :: r.take (pieceN (c :: r) - 1) := by
      unfold pieceL
      have := pieceN_pos (c :: r)
      rw [show pieceN (c :: r) = (pieceN (c :: r) - 1) + 1 by omega, List.take_succ_cons]; simp
    have hc : dig c = false := by
      have : (ofL (pieceL (c :: r)))[0] = c := by
        have e := getL0 (ofL (pieceL (c :: r))) h0
        rw [← e, ofL_data, hp]; rfl
      rw [this] at h; exact h
    have : pieceN (c :: r) = 1 := by
      unfold pieceN; rw [List.takeWhile_cons_of_neg (by simp [hc])]; rfl
    rw [ofL_size, pieceL_length (by simp), this]

theorem cmpI_pos {x y : Nat} (h : y = 0) (hx : 0 < x) : cmpI x y = 1 := by unfold cmpI; subst h; rw [if_neg (by omega), if_pos (by omega)]
theorem cmpI_neg {x y : Nat} (h : x = 0) (hy : 0 < y) : cmpI x y = -1 := by unfold cmpI; subst h; rw [if_pos (by omega)]
theorem cmpI_zero {x y : Nat} (h : x = 0) (hy : y = 0) : cmpI x y = 0 := by subst h; subst hy; rfl

theorem natural_end {al bl xs ys : List UInt8} (hr : natR (al.length + 1) al bl = natR (al.length + 1) xs ys) (hl : xs.length < al.length + 1) (hc : xs = [] ∨ ys = []) :
    natural al bl = firstNZ [cmpI xs.length ys.length, cmpL al bl] := by unfold natural; rw [hr, natR_end hl hc]
theorem natural_stop {al bl xs ys : List UInt8} (hr : natR (al.length + 1) al bl = natR (al.length + 1) xs ys) (hl : xs.length < al.length + 1) (hx : xs ≠ []) (hy : ys ≠ []) (hp : cmpP (pieceL xs) (pieceL ys) ≠ 0) :
    natural al bl = cmpP (pieceL xs) (pieceL ys) := by unfold natural; rw [hr, natR_stop hl hx hy hp, firstNZ_two, if_pos hp]

theorem len_drop (s : ByteArray) (i : Nat) : (s.data.toList.drop i).length = s.size - i := by rw [List.length_drop]; rfl
theorem drop_nil {s : ByteArray} {i : Nat} (h : ¬ i < s.size) : s.data.toList.drop i = [] := List.drop_of_length_le (by show s.size ≤ i; omega)

set_option maxHeartbeats 1000000 in
theorem rNatural_c (a b : ByteArray) (w : World) (hs : a.size ≤ 140737488351232) (hs' : b.size ≤ 140737488351232) :
    Calls Tryd.prog 23 #[.string a, .string b] w fun e w' => e = .returned (.int .i64 (natural a.data.toList b.data.toList)) ∧ Below w.heap.size w w' := by
  go_enter Tryd.func23, Tryd.ntmps23
  go_wp2
  go_loopw [5, 6] (fun x y wr => ∃ i k : Nat, x = .int .i64 i ∧ y = .int .i64 k ∧ i ≤ a.size ∧ k ≤ b.size ∧ natR (a.data.toList.length + 1) a.data.toList b.data.toList = natR (a.data.toList.length + 1) (a.data.toList.drop i) (b.data.toList.drop k) ∧ Below w.heap.size w wr)
    (fun x _ _ => a.size - (intOf x).toNat)
  case atStart => exact ⟨0, 0, rfl, rfl, Nat.zero_le _, Nat.zero_le _, rfl, Below.refl _ _⟩
  case round =>
    obtain ⟨i, k, rfl, rfl, hi, hk, hr0, hB⟩ := hrel
    have hr := Lib.hid hr0; clear hr0
    have hB := Lib.hid hB
    have hll : (a.data.toList.drop i).length < a.data.toList.length + 1 := by rw [len_drop]; show _ < a.size + 1; omega
    have hll := Lib.hid hll
    by_cases hx : i < a.size
    · by_cases hy : k < b.size
      · have f1 := piece_fits hx
        have f2 := piece_fits hy
        have p1 := pieceN_pos (a.data.toList.drop i)
        have p2 := pieceN_pos (b.data.toList.drop k)
        have Hp := Lib.hid (show a.extract i (i + pieceN (a.data.toList.drop i)) = ofL (pieceL (a.data.toList.drop i)) by rw [extract_mid]; unfold pieceL; rw [Nat.add_sub_cancel_left])
        have Hq := Lib.hid (show b.extract k (k + pieceN (b.data.toList.drop k)) = ofL (pieceL (b.data.toList.drop k)) by rw [extract_mid]; unfold pieceL; rw [Nat.add_sub_cancel_left])
        have L1 := Lib.hid (pieceL_length (drop_ne hx))
        have L2 := Lib.hid (pieceL_length (drop_ne hy))
        have S1 := Lib.hid (piece_single (drop_ne hx))
        have S2 := Lib.hid (piece_single (drop_ne hy))
        have Hs := Lib.hid (fun h => natural_stop hr.out hll.out (drop_ne hx) (drop_ne hy) h)
        have Ht := Lib.hid (fun h => natR_step hll.out (drop_ne hx) (drop_ne hy) h)
        rw [L1.out, L2.out, List.drop_drop, List.drop_drop] at Ht
        have hc0 := Lib.hid (rfl : cmpP (pieceL (a.data.toList.drop i)) (pieceL (b.data.toList.drop k)) = _)
        generalize hcc : cmpP (pieceL (a.data.toList.drop i)) (pieceL (b.data.toList.drop k)) = c at *
        have hcc := Lib.hid hcc
        generalize hp : pieceL (a.data.toList.drop i) = p at *
        generalize hq : pieceL (b.data.toList.drop k) = q at *
        have hp := Lib.hid hp
        have hq := Lib.hid hq
        have RP := Lib.hid (rpiece_c a i · hs hx)
        have RQ := Lib.hid (rpiece_c b k · hs' hy)
        generalize pieceN (a.data.toList.drop i) = m at *
        generalize pieceN (b.data.toList.drop k) = n at *
        have q1 : 0 < (ofL p).size := by rw [ofL_size, L1.out]; omega
        have q2 : 0 < (ofL q).size := by rw [ofL_size, L2.out]; omega
        have q3 : (ofL p).size ≤ 140737488351232 := by rw [ofL_size, L1.out]; omega
        have q4 : (ofL q).size ≤ 140737488351232 := by rw [ofL_size, L2.out]; omega
        go_wp2_with fail
        refine (RP.out _).mono ?_; rintro e w' ⟨rfl, rfl⟩
        go_wp2_with fail
        refine (RQ.out _).mono ?_; rintro e w' ⟨rfl, rfl⟩
        go_wp2_with fail
        go_quiet ((rw [Hp.out, Hq.out]; exact q_draw (rpieces_c (ofL p) (ofL q) _ q3 q4 q1 q2 (S1.out q1) (S2.out q2))))
        rw [ofL_data, ofL_data, hcc.out]
        by_cases hc : c = 0
        · have hcb : (c != 0) = false := by simp [hc]
          have Hn := Lib.hid (hr.out.trans (Ht.out hc))
          clear hc Hs Ht
          go_wp2_with fail
          go_roundw
          case rel => exact ⟨i + m, k + n, by go_num, by go_num, by omega, by omega, Hn.out, blwN hB.out _⟩
          case measure => simp [intOf]; omega
        · have hcb : (c != 0) = true := by simp [hc]
          have Hn := Lib.hid (Hs.out hc)
          clear hc Hs Ht
          go_wp2_with fail
          go_ret
          exact ⟨ret_int (by rw [Hn.out]), blwN hB.out _⟩
      · have Hn : Hid (natural a.data.toList b.data.toList = 1) := Lib.hid (by
          rw [natural_end hr.out hll.out (.inr (drop_nil hy)), firstNZ_two, len_drop, len_drop, cmpI_pos (by omega) (by omega)]; rfl)
        go_wp2_with fail
        go_ret
        exact ⟨ret_int (by rw [Hn.out]), hB.out⟩
    · by_cases hy : k < b.size
      · have Hn : Hid (natural a.data.toList b.data.toList = -1) := Lib.hid (by
          rw [natural_end hr.out hll.out (.inl (drop_nil hx)), firstNZ_two, len_drop, len_drop, cmpI_neg (by omega) (by omega)]; rfl)
        go_wp2_with fail
        go_ret
        exact ⟨ret_int (by rw [Hn.out]), hB.out⟩
      · have Hn : Hid (natural a.data.toList b.data.toList = cmpL a.data.toList b.data.toList) := Lib.hid (by
          rw [natural_end hr.out hll.out (.inl (drop_nil hx)), firstNZ_two, len_drop, len_drop, cmpI_zero (by omega) (by omega)]; rfl)
        go_wp2_with fail
        refine (rcompare_c _ _ _).mono ?_; rintro e w' ⟨rfl, rfl⟩
        go_wp2_with fail
        go_ret
        exact ⟨ret_int (by rw [Hn.out]), hB.out⟩

end Go.Proofs.YtegjcmoneemhjaaDoor
