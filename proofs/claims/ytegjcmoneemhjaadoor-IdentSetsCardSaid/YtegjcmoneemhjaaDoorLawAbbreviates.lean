/- The law IdentAbbreviates returns true for every list and number. -/
import Derived.Test.YtegjcmoneemhjaaDoorIdW
import Derived.Test.YtegjcmoneemhjaaDoorIdR
namespace Go.Proofs.YtegjcmoneemhjaaDoor
open Go.RowKit
set_option linter.unusedVariables false
set_option linter.unusedSimpArgs false

theorem abbrR_size (ss : List ByteArray) (s : ByteArray) : ∀ f n, (abbrR ss s f n).size ≤ s.size := by
  intro f
  induction f with
  | zero => intro n; exact Nat.le_refl _
  | succ f ih =>
    intro n
    simp only [abbrR]
    split
    · split
      · exact ih _
      · rw [ofL_size, List.length_take]; exact Nat.min_le_right _ _
    · exact Nat.le_refl _
theorem abbrs_sizes {ss : List ByteArray} {least : Nat} (h : ∀ s ∈ ss, s.size ≤ 140737488351232) : ∀ s ∈ abbrs ss least, s.size ≤ 140737488351232 := by
  intro s hs
  obtain ⟨t, ht, rfl⟩ := List.mem_map.1 hs
  exact Nat.le_trans (abbrR_size _ _ _ _) (h t ht)
theorem abbrs_length (ss : List ByteArray) (least : Nat) : (abbrs ss least).length = ss.length := by unfold abbrs; simp
theorem abbrs_getD {ss : List ByteArray} {least k : Nat} (h : k < ss.length) : (abbrs ss least).getD k ByteArray.empty = abbrS ss least (ss.getD k ByteArray.empty) := by
  unfold abbrs; rw [List.getD_eq_getElem?_getD, List.getElem?_map, List.getD_eq_getElem?_getD, List.getElem?_eq_getElem h]; rfl

set_option maxHeartbeats 4000000 in
set_option maxRecDepth 100000 in
theorem IdentAbbreviates_c (v : Value) (ss : List ByteArray) (least : Int) (w : World) (ht : Tabs w) (h : RdS w v ss) (hlo : -9223372036854775808 ≤ least) (hhi : least ≤ 9223372036854775807) :
    Calls Tryd.prog 7 #[v, .int .i64 least] w fun e w' => e = .returned (.bool true) ∧ Below w.heap.size w w' := by
  have HT := Lib.hid ht; clear ht
  have HR := Lib.hid h
  have hlen := h.1
  have hsz := Lib.hid h.2.1
  obtain ⟨A, cap, rfl⟩ : ∃ A cap, v = .slice A ss.length cap := by
    rcases h.2.2 with ⟨rfl, A, cap, rfl⟩ | ⟨b, off, cap, rfl, _⟩ <;> exact ⟨_, _, rfl⟩
  clear h
  go_enter Tryd.func7, Tryd.ntmps7
  go_wp2_with fail
  refine (awake_c _ HT.out).mono ?_; rintro e w1 ⟨rfl, hb⟩
  have hB := Lib.hid hb; have HR := Lib.hid (HR.out.below hb); clear hb
  go_wp2_with fail
  refine (rSmall_c _ ss _ HR.out).mono ?_; rintro e w' ⟨sm, rfl, rfl⟩
  cases sm
  · go_wp2_with fail
    go_ret
    exact ⟨rfl, hB.out⟩
  go_wp2_with fail
  refine (Abbreviate_c _ ss least _ HR.out hlo hhi).mono ?_; rintro e w2 hP
  have hb := hP.1
  have HR := Lib.hid (HR.out.below hb)
  have hB := Lib.hid (blwT hB.out hb)
  have HS := Lib.hid (rSorted_c _ ss w2 HR.out)
  cases hs0 : sortedB ss
  · obtain rfl := hP.2.1 hs0
    have hs := Lib.hid hs0; clear hs0 hP hb
    go_wp2_with fail
    refine HS.out.mono ?_; rintro e w' ⟨rfl, n, rfl⟩; rw [hs.out]
    go_wp2_with fail
    go_ret
    exact ⟨rfl, blwN hB.out _⟩
  · by_cases hl1 : least < 1
    · obtain rfl := hP.2.2.1 hs0 hl1
      have hs := Lib.hid hs0; clear hs0 hP hb
      go_wp2_with fail
      refine HS.out.mono ?_; rintro e w' ⟨rfl, n, rfl⟩; rw [hs.out]
      go_wp2_with fail
      go_ret
      exact ⟨rfl, blwN hB.out _⟩
    · obtain ⟨m, rfl⟩ : ∃ m : Nat, least = m := ⟨least.toNat, by omega⟩
      obtain ⟨v', rfl, hown⟩ := hP.2.2.2 hs0 (by omega)
      have hs := Lib.hid hs0
      rw [Int.toNat_natCast] at hown
      rw [← abbrs_length ss m] at hown
      have HO := RdS.own hown (by rw [abbrs_length]; exact hlen) (abbrs_sizes hsz.out)
      have hO2 := HO.2.2
      have hA := Lib.hid (fun i (hi : i < ss.length) W (hW : RdS W (.slice A ss.length cap) ss) => rAbbr_c (.slice A ss.length cap) ss i m W hW hs0 hi (by omega))
      clear hs0 hP hb hown
      obtain ⟨A', cap', rfl⟩ : ∃ A' cap', v' = .slice A' ss.length cap' := by
        rcases hO2 with ⟨e, A, cap, rfl⟩ | ⟨b, off, cap, rfl, _⟩
        · have e2 := congrArg List.length e
          rw [abbrs_length] at e2
          exact ⟨A, cap, by rw [e2]; rfl⟩
        · exact ⟨_, _, by rw [abbrs_length]⟩
      have hO2 := Lib.hid hO2
      clear HO
      go_wp2_with fail
      refine HS.out.mono ?_; rintro e w3 ⟨rfl, n, hw3⟩; rw [hs.out]
      have hb : Below w2.heap.size w2 w3 := by rw [hw3]; exact blwN (Below.refl _ _) _
      have HR := Lib.hid (HR.out.below hb)
      have hB := Lib.hid (blwT hB.out hb)
      have hb := Lib.hid hb
      clear hw3
      go_wp2_with fail
      go_loopw [7] (fun x wr => ∃ k : Nat, k ≤ ss.length ∧ x = .int .i64 k ∧ ∃ q, wr = w3.drewN q) (fun x _ => ss.length - (intOf x).toNat)
      case atStart => exact ⟨0, Nat.zero_le _, rfl, 0, rfl⟩
      case round =>
        obtain ⟨k, hk, rfl, q, rfl⟩ := hrel
        by_cases hlt : k < ss.length
        · obtain ⟨b, off, hA', hc⟩ : ∃ b off, A' = some ⟨b, off, none⟩ ∧ w2.cell? ⟨b, off + k, none⟩ = some (.string (abbrS ss m (ss.getD k ByteArray.empty))) := by
            rcases hO2.out with ⟨e, _⟩ | ⟨b, off, cap, e, _, _, hc⟩
            · have e2 := congrArg List.length e
              rw [abbrs_length] at e2; simp at e2; subst e2; simp at hlt
            · injection e with e1
              exact ⟨b, off, e1, by rw [← abbrs_getD hlt]; exact hc k (by rw [abbrs_length]; exact hlt)⟩
          have hc := (hb.out.cell (World.block_lt_of_cell? w2 _ hc)).trans hc
          subst hA'
          have X := Lib.hid (fun n => hA.out k hlt (w3.drewN n) (HR.out.below (blwN (Below.refl _ _) _)))
          generalize abbrS ss m (ss.getD k ByteArray.empty) = s at *
          go_wp2_with fail
          go_quiet ((exact qq_add (X.out _)))
          go_wp2_with fail
          go_roundw
          case rel => exact ⟨k + 1, by omega, by go_num, _, rfl⟩
          case measure => simp [intOf]; omega
        · go_wp2_with fail
          go_ret
          exact ⟨rfl, blwN hB.out _⟩

end Go.Proofs.YtegjcmoneemhjaaDoor
