/- Chapter 46: the law InquiryNew, walked. -/
import Derived.Test.YtbbngcacfdgahaaDoorInR
namespace Go.Proofs.YtbbngcacfdgahaaDoor
open Go.RowKit
set_option linter.unusedVariables false
set_option linter.unusedSimpArgs false

theorem newD_pending (p s : ByteArray) (bib limit fee : Int) : pendingB (newD p s bib limit fee) = false := rfl
theorem newD_fees (p s : ByteArray) (bib limit fee : Int) : feesV (newD p s bib limit fee) (newD p s bib limit fee).list.length = 0 := rfl
theorem newD_facts (p s : ByteArray) (bib limit fee : Int) : (newD p s bib limit fee).facts.length = 0 := rfl
theorem newE_fee {p s : ByteArray} {bib limit fee : Int} (h : newE p s bib limit fee = 0) : (0 ≤ limit ∧ limit ≤ 1000000000) ∧ 0 ≤ fee ∧ fee ≤ 1000000 := by
  unfold newE at h
  split at h
  · split at h
    · rename_i h1
      simp only [Bool.and_eq_true, decide_eq_true_eq, inTime] at h1
      exact ⟨h1.1.2, h1.2⟩
    · cases h
  · cases h

set_option maxHeartbeats 4000000 in
set_option maxRecDepth 100000 in
theorem InquiryNew_c (p s : ByteArray) (bib limit fee : Int) (w : World) (ht : Tabs w) (hp : p.size ≤ 140737488351232) (hs : s.size ≤ 140737488351232) :
    Calls Tryd.prog 3 #[.string p, .string s, .int .i64 bib, .int .i64 limit, .int .i64 fee] w fun e w' => e = .returned (.bool true) ∧ Below w.heap.size w w' := by
  have HA := Lib.hid (awake_c w ht)
  have HF := Lib.hid (@newE_fee p s bib limit fee)
  go_enter Tryd.func3, Tryd.ntmps3
  go_wp2_with fail
  refine HA.out.mono ?_; rintro e w1 ⟨rfl, hb1⟩
  have HB1 := Lib.hid hb1; clear hb1
  have HN := Lib.hid (INew_c p s bib limit fee w1 (by omega) (by omega))
  go_wp2_with fail
  refine HN.out.mono ?_
  clear HN
  rintro e w2 (⟨h, rfl, rfl⟩ | ⟨h, rfl, rfl⟩)
  · have b0 : (newE p s bib limit fee == 0) = false := by rw [beq_eq_false_iff_ne]; exact h
    have b1 : (newE p s bib limit fee != 0) = true := by rw [bne_iff_ne]; exact h
    have HR := Lib.hid (rINew_c p s bib limit fee w1 (by omega) (by omega))
    clear h HF
    go_wp2_with fail
    refine HR.out.mono ?_; rintro e w' ⟨rfl, rfl⟩
    go_wp2_with fail
    go_ret
    exact ⟨rfl, HB1.out⟩
  · obtain ⟨-, f0, f1⟩ := HF.out h
    have HR := Lib.hid (rINew_c p s bib limit fee (w1.alloc (.cells (deskCells p s bib limit fee) 65)) (by omega) (by omega))
    have HD := newDeskI w1 p s bib limit fee
    have HB2 := HB1.out.alloc HB1.out.size (.cells (deskCells p s bib limit fee) 65)
    rw [h] at HR
    generalize hw2 : w1.alloc (.cells (deskCells p s bib limit fee) 65) = w2 at *
    clear hw2 h HF
    have HD := Lib.hid HD
    have HB2 := Lib.hid HB2
    have CP := Lib.hid (Pending_c _ _ _ _ _ w2 HD.out)
    have e3 : (newD p s bib limit fee).facts.length = 0 := rfl
    have HP := Lib.hid (newD_pending p s bib limit fee)
    have HE := Lib.hid (newD_fees p s bib limit fee)
    go_wp2_with fail
    refine HR.out.mono ?_; rintro e w' ⟨rfl, rfl⟩
    go_wp2_with fail
    refine CP.out.mono ?_; rintro e w' ⟨rfl, rfl⟩
    rw [HP.out]
    go_wp2_with fail
    refine (Facts_c _ _ _ _ _ w2 HD.out (by show (0 : Nat) ≤ 200; omega)).mono ?_; rintro e w3 ⟨v, rfl, ho, hb⟩
    rw [e3] at ho
    have HB3 := Lib.hid (HB2.out.trans (hb.mono HB2.out.size))
    have HD3 := Lib.hid (HD.out.ext hb)
    obtain ⟨A, k, c, rfl, rfl⟩ : ∃ A k c, v = .slice A k c ∧ k = 0 := by
      rcases Joins.ownsRow_forms ho with ⟨rfl, -⟩ | ⟨g, c, rfl⟩
      · exact ⟨_, _, _, rfl, rfl⟩
      · exact ⟨_, _, _, rfl, rfl⟩
    clear ho hb
    go_wp2_with fail
    refine (Fees_c _ _ _ _ _ w3 HD3.out f0 f1).mono ?_; rintro e w4 ⟨rfl, hb⟩
    rw [HE.out]
    have HB4 := Lib.hid (HB3.out.trans (hb.mono HB3.out.size))
    clear hb
    go_wp2_with fail
    go_ret
    exact ⟨rfl, HB4.out⟩

end Go.Proofs.YtbbngcacfdgahaaDoor
