/- The examples of the chapter hold: awake returns true. -/
import Derived.Test.YtegjcmoneemhjaaDoorIdM
import Derived.Test.YtegjcmoneemhjaaDoorIdF
namespace Go.Proofs.YtegjcmoneemhjaaDoor
open Go.RowKit
set_option linter.unusedVariables false
set_option linter.unusedSimpArgs false

/-- A row of the call's own reads as a list of strings. -/
theorem RdS.own {w : World} {base : Nat} {v : Value} {ss : List ByteArray} (h : w.ownsRow base 9 1 v ss.length (strVals ss)) (hb : ss.length * 16 ≤ 140737488355328) (hs : ∀ s ∈ ss, s.size ≤ 140737488351232) : RdS w v ss := by
  refine ⟨hb, hs, ?_⟩
  by_cases hne : ss = []
  · subst hne
    rcases h.2 with ⟨rfl, _⟩ | ⟨g, cap, cur, rfl, _⟩ <;> exact .inl ⟨rfl, _, _, rfl⟩
  · right
    rcases h.2 with ⟨rfl, h0⟩ | ⟨g, cap, cur, rfl, hbg, hh, hcap, _⟩
    · exact absurd (List.eq_nil_of_length_eq_zero h0) hne
    · refine ⟨g, 0, cap, rfl, hcap, hne, fun j hj => ?_⟩
      have := h.cells (g := g) rfl j (.string (ss.getD j ByteArray.empty)) (by
        unfold strVals; rw [List.getElem?_map, List.getElem?_eq_getElem hj, List.getD_eq_getElem?_getD, List.getElem?_eq_getElem hj]; rfl)
      have e : (⟨g, 0, none⟩ : Addr).add j = ⟨g, 0 + j, none⟩ := by unfold Addr.add; split <;> simp_all
      rw [e] at this; exact this

/-- A literal of strings reads as its list. -/
theorem RdS.lit (w : World) (ss : List ByteArray) (t : TypeId) (hne : ss ≠ []) (hb : ss.length * 16 ≤ 140737488355328) (hs : ∀ s ∈ ss, s.size ≤ 140737488351232) :
    RdS (w.alloc (.cells (strVals ss).toArray t)) (.slice (some ⟨w.heap.size, 0, none⟩) ss.length ss.length) ss := by
  refine ⟨hb, hs, .inr ⟨w.heap.size, 0, ss.length, rfl, Nat.le_refl _, hne, fun j hj => ?_⟩⟩
  show (w.alloc _).cell? _ = _
  unfold World.cell?
  rw [show (w.alloc (.cells (strVals ss).toArray t)).heap[w.heap.size]? = some (.cells (strVals ss).toArray t) from by
    show (w.heap.push _)[w.heap.size]? = _; simp]
  simp [strVals, List.getElem?_eq_getElem hj, List.getD_eq_getElem?_getD]

theorem litSizes (l : List (List UInt8)) (h : ∀ x ∈ l, x.length ≤ 100) : ∀ s ∈ l.map ofL, s.size ≤ 140737488351232 := by
  intro s hs
  obtain ⟨x, hx, rfl⟩ := List.mem_map.1 hs
  have := h x hx
  rw [ofL_size]; omega

def lit3 : List ByteArray := [⟨#[102, 108, 105, 112]⟩, ⟨#[102, 108, 111, 111, 114]⟩, ⟨#[118, 97, 117, 108, 116]⟩]
def out3 : List ByteArray := [⟨#[102, 108, 105]⟩, ⟨#[102, 108, 111]⟩, ⟨#[118]⟩]
theorem lit3_sorted : sortedB lit3 = true := by decide +kernel
theorem lit3_abbrs : abbrs lit3 (Int.toNat 1) = out3 := by decide +kernel
theorem out3_same : sameB out3 out3 = true := by unfold sameB; simp
theorem out3_has : Lib.containsS out3 ⟨#[118]⟩ = true := by decide +kernel
theorem lit3_sizes : ∀ s ∈ lit3, s.size ≤ 140737488351232 := by decide +kernel
theorem out3_sizes : ∀ s ∈ out3, s.size ≤ 140737488351232 := by decide +kernel

theorem aw_name1 : nameS [98, 97, 114, 115, 95, 50] = true := by decide +kernel
theorem aw_name2 : nameS [86, 97, 117, 108, 116] = false := by decide +kernel
theorem aw_code1 : codeS [51, 65] = true := by decide +kernel
theorem aw_code2 : codeS [51, 51] = false := by decide +kernel
theorem aw_title1 : titleS [65, 110, 110, 97, 32, 77, 97, 114, 105, 97] = true := by decide +kernel
theorem aw_title2 : titleS [32, 65, 110, 110, 97] = false := by decide +kernel
theorem aw_fed : federationS [65, 85, 84] = true := by decide +kernel
theorem aw_nat1 : natural [97, 50] [97, 49, 48] = -1 := by decide +kernel
theorem aw_nat2 : natural [97, 50] [97, 48, 50] = 1 := by decide +kernel

theorem awN1 (w : World) : Calls Tryd.prog 12 #[.string ⟨#[98, 97, 114, 115, 95, 50]⟩] w fun e w' => e = .returned (.bool true) ∧ w = w' :=
  (Name_c ⟨#[98, 97, 114, 115, 95, 50]⟩ w (by decide)).mono (by rintro e w' ⟨rfl, rfl⟩; exact ⟨ret_bool aw_name1, rfl⟩)
theorem awN2 (w : World) : Calls Tryd.prog 12 #[.string ⟨#[86, 97, 117, 108, 116]⟩] w fun e w' => e = .returned (.bool false) ∧ w = w' :=
  (Name_c ⟨#[86, 97, 117, 108, 116]⟩ w (by decide)).mono (by rintro e w' ⟨rfl, rfl⟩; exact ⟨ret_bool aw_name2, rfl⟩)
theorem awC1 (w : World) : Calls Tryd.prog 16 #[.string ⟨#[51, 65]⟩] w fun e w' => e = .returned (.bool true) ∧ Below w.heap.size w w' :=
  (Code_c ⟨#[51, 65]⟩ w (by decide)).mono (by rintro e w' ⟨rfl, hb⟩; exact ⟨ret_bool aw_code1, hb⟩)
theorem awC2 (w : World) : Calls Tryd.prog 16 #[.string ⟨#[51, 51]⟩] w fun e w' => e = .returned (.bool false) ∧ Below w.heap.size w w' :=
  (Code_c ⟨#[51, 51]⟩ w (by decide)).mono (by rintro e w' ⟨rfl, hb⟩; exact ⟨ret_bool aw_code2, hb⟩)
theorem awT1 (w : World) (ht : Tabs w) : Calls Tryd.prog 18 #[.string ⟨#[65, 110, 110, 97, 32, 77, 97, 114, 105, 97]⟩] w fun e w' => e = .returned (.bool true) ∧ Below w.heap.size w w' :=
  (Title_c ⟨#[65, 110, 110, 97, 32, 77, 97, 114, 105, 97]⟩ w (by decide) ht).mono (by rintro e w' ⟨rfl, hb⟩; exact ⟨ret_bool aw_title1, hb⟩)
theorem awT2 (w : World) (ht : Tabs w) : Calls Tryd.prog 18 #[.string ⟨#[32, 65, 110, 110, 97]⟩] w fun e w' => e = .returned (.bool false) ∧ Below w.heap.size w w' :=
  (Title_c ⟨#[32, 65, 110, 110, 97]⟩ w (by decide) ht).mono (by rintro e w' ⟨rfl, hb⟩; exact ⟨ret_bool aw_title2, hb⟩)
theorem awF (w : World) : Calls Tryd.prog 14 #[.string ⟨#[65, 85, 84]⟩] w fun e w' => e = .returned (.bool true) ∧ w = w' :=
  (Federation_c ⟨#[65, 85, 84]⟩ w (by decide)).mono (by rintro e w' ⟨rfl, rfl⟩; exact ⟨ret_bool aw_fed, rfl⟩)
theorem awA1 (w : World) : Calls Tryd.prog 22 #[.string ⟨#[97, 50]⟩, .string ⟨#[97, 49, 48]⟩] w fun e w' => e = .returned (.int .i64 (-1)) ∧ Below w.heap.size w w' :=
  (Natural_c ⟨#[97, 50]⟩ ⟨#[97, 49, 48]⟩ w (by decide) (by decide)).mono (by rintro e w' ⟨rfl, hb⟩; exact ⟨ret_int aw_nat1, hb⟩)
theorem awA2 (w : World) : Calls Tryd.prog 22 #[.string ⟨#[97, 50]⟩, .string ⟨#[97, 48, 50]⟩] w fun e w' => e = .returned (.int .i64 (1)) ∧ Below w.heap.size w w' :=
  (Natural_c ⟨#[97, 50]⟩ ⟨#[97, 48, 50]⟩ w (by decide) (by decide)).mono (by rintro e w' ⟨rfl, hb⟩; exact ⟨ret_int aw_nat2, hb⟩)
theorem awB (w : World) : Calls Tryd.prog 20 #[.int .i64 1] w fun e w' => e = .returned (.bool true) ∧ w = w' := Bib_c 1 w

set_option maxHeartbeats 2000000 in
set_option maxRecDepth 100000 in
theorem awake_c (w : World) (ht : Tabs w) :
    Calls Tryd.prog 11 #[] w fun e w' => e = .returned (.bool true) ∧ Below w.heap.size w w' := by
  have h3 := RdS.lit w lit3 9 (by decide) (by decide) lit3_sizes
  have HA := Lib.hid (Abbreviate_c _ lit3 1 _ h3 (by omega) (by omega))
  clear h3
  have HT := Lib.hid ht; clear ht
  go_enter Tryd.func11, Tryd.ntmps11
  go_wp2_with fail
  refine HA.out.mono ?_
  rintro e w1 ⟨hb1, -, -, h4⟩
  obtain ⟨v, rfl, hown⟩ := h4 lit3_sorted (by omega)
  rw [lit3_abbrs] at hown
  have hR := RdS.own (ss := out3) hown (by decide) out3_sizes
  have hB := (Below.refl w.heap.size w).alloc (Nat.le_refl _) (.cells (strVals lit3).toArray 9)
  have hB := hB.trans (hb1.mono (by simp))
  have hHT := HT.out.below hB
  have hR := Lib.hid hR
  have hB := Lib.hid hB
  have hT := Lib.hid hHT
  clear hown hb1 h4 hHT HA HT
  go_wp2_with fail
  refine (awN1 _).mono ?_; rintro e w' ⟨rfl, rfl⟩
  go_wp2_with fail
  refine (awN2 _).mono ?_; rintro e w' ⟨rfl, rfl⟩
  go_wp2_with fail
  refine (awC1 _).mono ?_; rintro e w2 ⟨rfl, hb⟩
  have hR := Lib.hid (hR.out.below hb); have hB := Lib.hid (blwT hB.out hb); have hT := Lib.hid (hT.out.below hb); clear hb
  go_wp2_with fail
  refine (awC2 _).mono ?_; rintro e w3 ⟨rfl, hb⟩
  have hR := Lib.hid (hR.out.below hb); have hB := Lib.hid (blwT hB.out hb); have hT := Lib.hid (hT.out.below hb); clear hb
  go_wp2_with fail
  refine (awT1 _ hT.out).mono ?_; rintro e w4 ⟨rfl, hb⟩
  have hR := Lib.hid (hR.out.below hb); have hB := Lib.hid (blwT hB.out hb); have hT := Lib.hid (hT.out.below hb); clear hb
  go_wp2_with fail
  refine (awT2 _ hT.out).mono ?_; rintro e w5 ⟨rfl, hb⟩
  have hR := Lib.hid (hR.out.below hb); have hB := Lib.hid (blwT hB.out hb); have hT := Lib.hid (hT.out.below hb); clear hb
  go_wp2_with fail
  refine (awF _).mono ?_; rintro e w' ⟨rfl, rfl⟩
  go_wp2_with fail
  refine (awB _).mono ?_; rintro e w' ⟨rfl, rfl⟩
  go_wp2_with fail
  refine (awA1 _).mono ?_; rintro e w6 ⟨rfl, hb⟩
  have hR := Lib.hid (hR.out.below hb); have hB := Lib.hid (blwT hB.out hb); have hT := Lib.hid (hT.out.below hb); clear hb
  go_wp2_with fail
  refine (awA2 _).mono ?_; rintro e w7 ⟨rfl, hb⟩
  have hR := Lib.hid (hR.out.below hb); have hB := Lib.hid (blwT hB.out hb); have hT := Lib.hid (hT.out.below hb); clear hb
  have h5 := Lib.hid (RdS.lit w7 out3 9 (by decide) (by decide) out3_sizes)
  have hb := (Below.refl w7.heap.size w7).alloc (Nat.le_refl _) (.cells (strVals out3).toArray 9)
  have hR := Lib.hid (hR.out.below hb); have hB := Lib.hid (blwT hB.out hb); clear hb
  have HS := Lib.hid (rSame_c v _ out3 out3 _ hR.out h5.out)
  rw [out3_same] at HS
  go_wp2_with fail
  refine HS.out.mono ?_
  rintro e w' ⟨rfl, q, hq⟩
  have hb : Below (w7.alloc (.cells (strVals out3).toArray 9)).heap.size (w7.alloc (.cells (strVals out3).toArray 9)) w' := by rw [hq]; exact blwN (Below.refl _ _) q
  have hR := Lib.hid (hR.out.below hb); have hB := Lib.hid (blwT hB.out hb); clear hb hq HS
  have HH := Lib.hid (Has_c v out3 ⟨#[118]⟩ w' hR.out)
  rw [out3_has] at HH
  go_wp2_with fail
  refine HH.out.mono ?_
  rintro e w'' ⟨rfl, rfl⟩
  go_wp2_with fail
  go_ret
  exact ⟨rfl, hB.out⟩

end Go.Proofs.YtegjcmoneemhjaaDoor
