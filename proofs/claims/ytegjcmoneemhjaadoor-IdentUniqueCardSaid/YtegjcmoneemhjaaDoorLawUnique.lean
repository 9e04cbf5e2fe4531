/- The law IdentUnique returns true for every list and number. -/
import Derived.Test.YtegjcmoneemhjaaDoorIdV
import Derived.Test.YtegjcmoneemhjaaDoorLawAbbreviates
namespace Go.Proofs.YtegjcmoneemhjaaDoor
open Go.RowKit
set_option linter.unusedVariables false
set_option linter.unusedSimpArgs false

theorem setS_sizes {ss : List ByteArray} (h : ∀ s ∈ ss, s.size ≤ 140737488351232) : ∀ s ∈ setS ss, s.size ≤ 140737488351232 := fun s hs => h s ((mem_setS ss s).1 hs)

theorem RdS.someB {w : World} {A : Option Addr} {cap n : Nat} {ss : List ByteArray} (h : RdS w (.slice A n cap) ss) (hn : 0 < ss.length) : ∃ b off, A = some ⟨b, off, none⟩ ∧ ∀ j, j < ss.length → w.cell? ⟨b, off + j, none⟩ = some (.string (ss.getD j ByteArray.empty)) := by
  obtain ⟨A', cap', e, h⟩ := h.shape
  injection e with e1 e2 e3
  subst e1
  exact h hn

/-- What the law asks of the abbreviation o of s, which stands at i. -/
structure AbbrO (S : List ByteArray) (m i : Nat) (s o : ByteArray) : Prop where
  size : o.size ≤ s.size
  pre : ((s.extract 0 o.size).toList == o.toList) = true
  other : ∀ k (hk : k < S.length), k ≠ i → ((abbrS S m S[k]).toList == o.toList) = false
  begins : ∀ k (hk : k < S.length), k ≠ i → o.size < s.size → beginsB S[k].data.toList o.data.toList = false
  shared : m < o.size → ∃ k, ∃ hk : k < S.length, k ≠ i ∧ beginsB S[k].data.toList (o.data.toList.take (o.size - 1)) = true

theorem abbrO_of {S : List ByteArray} (hs : sortedB S = true) (m : Nat) {i : Nat} (hi : i < S.length) : AbbrO S m i S[i] (abbrS S m S[i]) := by
  obtain ⟨n, h1, h2, h3, h4⟩ := uniq_facts hs m hi
  rw [h2]
  have hon : (ofL (S[i].data.toList.take n)).size = n := by rw [ofL_size, List.length_take, length_data]; omega
  refine ⟨by rw [hon]; exact h1, by rw [hon, extract_take]; simp, ?_, ?_, ?_⟩
  · intro k hk hne
    have := (h3 k hk hne).1
    rw [Lib.toList_data, Lib.toList_data]
    rw [beq_eq_false_iff_ne]
    intro e
    apply this
    have e2 := congrArg ofL e
    rwa [ofL_toList, ofL_toList] at e2
  · intro k hk hne h
    rw [hon] at h
    rw [ofL_data]; exact (h3 k hk hne).2 h
  · intro h
    rw [hon] at h ⊢
    obtain ⟨k, hk, a, b⟩ := h4 h
    refine ⟨k, hk, a, ?_⟩
    rw [ofL_data, List.take_take, Nat.min_eq_left (by omega)]; exact b

/-- The inner loop's shared: one of the first k others begins with o less a byte. -/
def sharedO (S : List ByteArray) (i : Nat) (o : ByteArray) (k : Nat) : Bool := (List.range k).any fun j => decide (j ≠ i) && (decide (0 < o.size) && beginsB (S.getD j ByteArray.empty).data.toList (o.data.toList.take (o.size - 1)))
theorem sharedO_succ (S : List ByteArray) (i : Nat) (o : ByteArray) (k : Nat) : sharedO S i o (k + 1) = (sharedO S i o k || (decide (k ≠ i) && (decide (0 < o.size) && beginsB (S.getD k ByteArray.empty).data.toList (o.data.toList.take (o.size - 1))))) := by
  unfold sharedO; rw [List.range_succ, List.any_append]; simp
theorem sharedO_all {S : List ByteArray} {m i : Nat} {s o : ByteArray} (h : AbbrO S m i s o) (hm : m < o.size) : sharedO S i o S.length = true := by
  obtain ⟨k, hk, h1, h2⟩ := h.shared hm
  unfold sharedO
  rw [List.any_eq_true]
  refine ⟨k, List.mem_range.2 hk, ?_⟩
  rw [getD_of hk]
  simp only [Bool.and_eq_true, decide_eq_true_eq]
  exact ⟨h1, by omega, h2⟩

/-- The law's loops: S strictly increasing, P its abbreviations. -/
structure UniqI (w3 : World) (S : List ByteArray) (m : Nat) (b1 o1 b2 o2 : Nat) : Prop where
  c1 : ∀ j (h : j < S.length), w3.cell? ⟨b1, o1 + j, none⟩ = some (.string S[j])
  c2 : ∀ j (h : j < S.length), w3.cell? ⟨b2, o2 + j, none⟩ = some (.string (abbrS S m S[j]))
  sorted : sortedB S = true
  sizes : ∀ j (h : j < S.length), S[j].size ≤ 140737488351232

set_option maxHeartbeats 4000000 in
set_option maxRecDepth 100000 in
theorem IdentUnique_c (v : Value) (ss : List ByteArray) (least : Int) (w : World) (ht : Tabs w) (h : RdS w v ss) (hlo : -9223372036854775808 ≤ least) (hhi : least ≤ 9223372036854775807) :
    Calls Tryd.prog 8 #[v, .int .i64 least] w fun e w' => e = .returned (.bool true) ∧ Below w.heap.size w w' := by
  have HT := Lib.hid ht; clear ht
  have HR := Lib.hid h
  have hsz0 := Lib.hid (setS_sizes h.2.1)
  obtain ⟨A, cap, rfl⟩ : ∃ A cap, v = .slice A ss.length cap := by
    rcases h.2.2 with ⟨rfl, A, cap, rfl⟩ | ⟨b, off, cap, rfl, _⟩ <;> exact ⟨_, _, rfl⟩
  clear h
  go_enter Tryd.func8, Tryd.ntmps8
  go_wp2_with fail
  refine (awake_c _ HT.out).mono ?_; rintro e w1 ⟨rfl, hb⟩
  have hB := Lib.hid hb; have HR := Lib.hid (HR.out.below hb); clear hb
  go_wp2_with fail
  refine (rSmall_c _ ss _ HR.out).mono ?_; rintro e w' ⟨sm, rfl, rfl⟩
  cases sm
  · go_wp2_with fail
    go_ret
    exact ⟨rfl, hB.out⟩
  go_wp2_with fail
  refine (Set_c _ ss _ HR.out).mono ?_; rintro e w2 ⟨v2, rfl, hR2, hb⟩
  have hB := Lib.hid (blwT hB.out hb)
  have hs0 := sorted_setS ss
  clear hb HR
  generalize setS ss = S at *
  obtain ⟨A2, cap2, rfl, -⟩ := hR2.shape
  have hlen := hR2.1
  have HR := Lib.hid hR2; clear hR2
  go_wp2_with fail
  refine (Abbreviate_c _ S least _ HR.out hlo hhi).mono ?_; rintro e w3 hP
  have hb := hP.1
  have HR := Lib.hid (HR.out.below hb)
  have hB := Lib.hid (blwT hB.out hb)
  by_cases hl1 : least < 1
  · obtain rfl := hP.2.2.1 hs0 hl1
    have hs := Lib.hid hs0; clear hs0 hP hb
    go_wp2_with fail
    go_ret
    exact ⟨rfl, hB.out⟩
  obtain ⟨m, rfl⟩ : ∃ m : Nat, least = m := ⟨least.toNat, by omega⟩
  obtain ⟨v', rfl, hown⟩ := hP.2.2.2 hs0 (by omega)
  rw [Int.toNat_natCast] at hown
  rw [← abbrs_length S m] at hown
  have HO := RdS.own hown (by rw [abbrs_length]; exact hlen) (abbrs_sizes hsz0.out)
  clear hown hP hb
  obtain ⟨A3, cap3, rfl, -⟩ := HO.shape
  by_cases hn0 : 0 < S.length
  · obtain ⟨b1, o1, rfl, hc1⟩ := HR.out.someB hn0
    obtain ⟨b2, o2, rfl, hc2⟩ := HO.someB (by rw [abbrs_length]; exact hn0)
    have U : UniqI w3 S m b1 o1 b2 o2 := ⟨fun j h => by rw [hc1 j h, getD_of h], fun j h => by rw [hc2 j (by rw [abbrs_length]; exact h), abbrs_getD h, getD_of h], hs0, fun j h => hsz0.out _ (List.getElem_mem h)⟩
    have HU := Lib.hid U
    clear hc1 hc2 HO U hs0 hsz0 HR HT
    rw [abbrs_length]
    go_wp2_with fail
    go_loopw [8] (fun x wr => ∃ k : Nat, k ≤ S.length ∧ x = .int .i64 k ∧ ∃ q, wr = w3.drewN q) (fun x _ => S.length - (intOf x).toNat)
    case atStart => exact ⟨0, Nat.zero_le _, rfl, 0, rfl⟩
    case round =>
      obtain ⟨i, hi, rfl, q, rfl⟩ := hrel
      by_cases hlt : i < S.length
      · have hO := Lib.hid (abbrO_of HU.out.sorted m hlt)
        have c1 := HU.out.c1 i hlt
        have c2 := HU.out.c2 i hlt
        have hss := HU.out.sizes i hlt
        generalize hs : S[i] = s at *
        generalize ho : abbrS S m s = o at *
        clear hs ho
        have hos := hO.out.size
        have E15 := hO.out.pre
        go_wp2_with fail
        go_quiet (fail)
        go_wp2_with fail
        clear E15
        go_loopw [10, 11] (fun sh x wr => ∃ k : Nat, ∃ r : Bool, k ≤ S.length ∧ x = .int .i64 k ∧ sh = .bool r ∧ sharedO S i o k = r ∧ ∃ q, wr = w3.drewN q) (fun _ x _ => S.length - (intOf x).toNat)
        case atStart => first | exact ⟨0, false, Nat.zero_le _, rfl, rfl, rfl, _, rfl⟩ | exact ⟨0, false, Nat.zero_le _, rfl, rfl, rfl, _, World.drewN_drewN _ _ _⟩
        case round =>
          obtain ⟨k, r, hk, rfl, rfl, hr0, q2, rfl⟩ := hrel
          have hr := Lib.hid hr0; clear hr0
          by_cases hklt : k < S.length
          · have hsucc := Lib.hid (sharedO_succ S i o k)
            rw [hr.out, getD_of hklt] at hsucc
            by_cases hki : k = i
            · have hb : ((k : Int) == (i : Int)) = true := by simp [hki]
              have hx : Hid (sharedO S i o (k + 1) = r) := Lib.hid (by rw [hsucc.out]; simp [hki])
              clear hki
              go_wp2_with fail
              go_roundw
              case rel => exact ⟨k + 1, r, by omega, by go_num, rfl, hx.out, _, rfl⟩
              case measure => simp [intOf]; omega
            · have hb : ((k : Int) == (i : Int)) = false := by rw [beq_eq_false_iff_ne]; omega
              have d1 := HU.out.c1 k hklt
              have d2 := HU.out.c2 k hklt
              have hts := HU.out.sizes k hklt
              have E22 := hO.out.other k hklt hki
              have HB := Lib.hid (hO.out.begins k hklt hki)
              have hd : decide (k ≠ i) = true := by simp [hki]
              rw [hd, Bool.true_and] at hsucc
              clear hki hd
              generalize S[k] = t at *
              generalize abbrS S m t = p at *
              have hext := Lib.hid (extract_take o (o.size - 1))
              have X2 := Lib.hid (fun W => rBegins_c t (o.extract 0 (o.size - 1)) W (by omega) (by rw [extract_take, ofL_size, List.length_take]; omega))
              rw [hext.out, ofL_data] at X2
              by_cases hos2 : o.size < s.size
              · have X1 := Lib.hid (fun W => rBegins_c t o W (by omega) (by omega))
                rw [HB.out hos2] at X1
                go_wp2_with fail
                go_quiet ((exact q_add (X1.out _)))
                go_wp2_with fail
                cases r
                · by_cases h0 : 0 < o.size
                  · have hx := Lib.hid hsucc.out
                    rw [show decide (0 < o.size) = true from by simp [h0], Bool.true_and, Bool.false_or] at hx
                    go_quiet ((rw [hext.out]; exact q_add (X2.out _)))
                    go_wp2_with fail
                    go_roundw
                    case rel => exact ⟨k + 1, _, by omega, by go_num, rfl, hx.out, _, rfl⟩
                    case measure => simp [intOf]; omega
                  · have hx := Lib.hid hsucc.out
                    rw [show decide (0 < o.size) = false from by simp [h0], Bool.false_and, Bool.false_or] at hx
                    go_quiet (fail)
                    go_wp2_with fail
                    go_roundw
                    case rel => exact ⟨k + 1, _, by omega, by go_num, rfl, hx.out, _, rfl⟩
                    case measure => simp [intOf]; omega
                · have hx := Lib.hid hsucc.out
                  rw [Bool.true_or] at hx
                  go_quiet (fail)
                  go_wp2_with fail
                  go_roundw
                  case rel => exact ⟨k + 1, _, by omega, by go_num, rfl, hx.out, _, rfl⟩
                  case measure => simp [intOf]; omega
              · go_wp2_with fail
                go_quiet (fail)
                go_wp2_with fail
                cases r
                · by_cases h0 : 0 < o.size
                  · have hx := Lib.hid hsucc.out
                    rw [show decide (0 < o.size) = true from by simp [h0], Bool.true_and, Bool.false_or] at hx
                    go_quiet ((rw [hext.out]; exact q_add (X2.out _)))
                    go_wp2_with fail
                    go_roundw
                    case rel => exact ⟨k + 1, _, by omega, by go_num, rfl, hx.out, _, rfl⟩
                    case measure => simp [intOf]; omega
                  · have hx := Lib.hid hsucc.out
                    rw [show decide (0 < o.size) = false from by simp [h0], Bool.false_and, Bool.false_or] at hx
                    go_quiet (fail)
                    go_wp2_with fail
                    go_roundw
                    case rel => exact ⟨k + 1, _, by omega, by go_num, rfl, hx.out, _, rfl⟩
                    case measure => simp [intOf]; omega
                · have hx := Lib.hid hsucc.out
                  rw [Bool.true_or] at hx
                  go_quiet (fail)
                  go_wp2_with fail
                  go_roundw
                  case rel => exact ⟨k + 1, _, by omega, by go_num, rfl, hx.out, _, rfl⟩
                  case measure => simp [intOf]; omega
          · obtain rfl : k = S.length := by omega
            by_cases hm : m < o.size
            · have hr2 := hr.out
              rw [sharedO_all hO.out hm] at hr2
              subst hr2
              go_wp2_with fail
              go_roundw
              case rel => exact ⟨i + 1, by omega, by go_num, _, rfl⟩
              case measure => simp [intOf]; omega
            · go_wp2_with fail
              go_roundw
              case rel => exact ⟨i + 1, by omega, by go_num, _, rfl⟩
              case measure => simp [intOf]; omega
      · go_wp2_with fail
        go_ret
        exact ⟨rfl, blwN hB.out _⟩
  · rw [abbrs_length]
    clear HO hs0
    go_wp2_with fail
    refine wp_loop_rounds 1 ?_
    rw [rounds_succ]
    go_wp2_with fail
    go_ret
    exact ⟨rfl, hB.out⟩

end Go.Proofs.YtegjcmoneemhjaaDoor
