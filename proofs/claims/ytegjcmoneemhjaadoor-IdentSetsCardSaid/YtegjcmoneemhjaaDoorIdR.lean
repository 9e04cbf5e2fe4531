/- The contract of the reference's Abbreviation. -/
import Derived.Test.YtegjcmoneemhjaaDoorIdQ
namespace Go.Proofs.YtegjcmoneemhjaaDoor
open Go.RowKit
set_option linter.unusedVariables false
set_option linter.unusedSimpArgs false

theorem q_add {P : Program} {f : FuncId} {args : Array Value} {w : World} {a n : Nat} {v : Value}
    (h : Calls P f args (w.drewN (a + n)) fun e w' => e = .returned v ∧ w.drewN (a + n) = w') : Calls P f args (w.drewN (a + n)) fun e w'' => e = .returned v ∧ ∃ m, w'' = w.drewN (a + m) :=
  h.mono fun _ _ ⟨he, hm⟩ => ⟨he, n, hm.symm⟩

theorem qq_add {P : Program} {f : FuncId} {args : Array Value} {w : World} {a n : Nat} {v : Value}
    (h : Calls P f args (w.drewN (a + n)) fun e w' => e = .returned v ∧ ∃ m, w' = (w.drewN (a + n)).drewN m) : Calls P f args (w.drewN (a + n)) fun e w'' => e = .returned v ∧ ∃ m, w'' = w.drewN (a + m) :=
  h.mono fun _ _ ⟨he, m, hm⟩ => ⟨he, n + m, by rw [hm, World.drewN_drewN, Nat.add_assoc]⟩

set_option maxHeartbeats 2000000 in
set_option maxRecDepth 100000 in
theorem rAbbr_c (v : Value) (ss : List ByteArray) (i least : Nat) (w : World) (h : RdS w v ss) (hs : sortedB ss = true) (hi : i < ss.length) (hl : least ≤ 9223372036854775807) :
    Calls Tryd.prog 29 #[v, .int .i64 i, .int .i64 least] w fun e w' => e = .returned (.string (abbrS ss least (ss.getD i ByteArray.empty))) ∧ ∃ n, w' = w.drewN n := by
  obtain ⟨h1, h2, h3⟩ := h
  rcases h3 with ⟨rfl, A, cap, rfl⟩ | ⟨b, off, cap, rfl, hcap, hne, hc⟩
  · simp at hi
  · have Hs := Lib.hid (fun n => aloneB_all hs hi n)
    obtain ⟨s, -, hmem, gs0, hcs⟩ := RdS.cellAt hc i hi
    have hss := h2 s hmem
    have Hc := Lib.hid hc; clear hc hne hmem hs
    have H2 := Lib.hid h2; clear h2
    rw [gs0]
    have gs := Lib.hid gs0; clear gs0
    go_enter Tryd.func29, Tryd.ntmps29
    go_wp2_with fail
    go_loopw [7] (fun x wr => ∃ n : Nat, n ≤ 9223372036854775807 ∧ x = .int .i64 n ∧ abbrS ss least s = abbrR ss s (s.size + 1) n ∧ ∃ q, wr = w.drewN q) (fun x _ => s.size - (intOf x).toNat)
    case atStart => exact ⟨least, hl, rfl, rfl, 0, rfl⟩
    case round =>
      obtain ⟨n, hn9, rfl, ha0, q, rfl⟩ := hrel
      have ha := Lib.hid ha0; clear ha0
      by_cases hn : n < s.size
      · have hext := Lib.hid (extract_take s n)
        have hal := Lib.hid (Hs.out n)
        rw [gs.out] at hal
        go_wp2_with fail
        go_loopw [8, 9] (fun al x wr => ∃ k : Nat, ∃ r : Bool, k ≤ ss.length ∧ x = .int .i64 k ∧ al = .bool r ∧ aloneB ss i n k = r ∧ ∃ q, wr = w.drewN q) (fun _ x _ => ss.length - (intOf x).toNat)
        case atStart => exact ⟨0, true, by omega, rfl, rfl, rfl, q, rfl⟩
        case round =>
          obtain ⟨k, r, hk, rfl, rfl, hr0, q2, rfl⟩ := hrel
          have hr := Lib.hid hr0; clear hr0
          by_cases hlt : k < ss.length
          · obtain ⟨t, -, hmem, gt, hct⟩ := RdS.cellAt Hc.out k hlt
            have hts := H2.out t hmem
            have hsucc := Lib.hid (aloneB_succ ss i n k)
            rw [hr.out, gs.out, gt] at hsucc
            clear hmem gt
            cases r
            · have hx := Lib.hid hsucc.out
              go_wp2_with fail
              go_quiet (fail)
              go_wp2_with fail
              go_roundw
              case rel => exact ⟨k + 1, false, by omega, by go_num, rfl, by rw [hx.out]; rfl, _, rfl⟩
              case measure => simp [intOf]; omega
            · by_cases hki : k = i
              · have hb : ((k : Int) == (i : Int)) = true := by simp [hki]
                have hx : Hid (aloneB ss i n (k + 1) = true) := Lib.hid (by rw [hsucc.out]; simp [hki])
                clear hki
                go_wp2_with fail
                go_quiet (fail)
                go_wp2_with fail
                go_roundw
                case rel => exact ⟨k + 1, true, by omega, by go_num, rfl, hx.out, _, rfl⟩
                case measure => simp [intOf]; omega
              · have hb : ((k : Int) == (i : Int)) = false := by rw [beq_eq_false_iff_ne]; omega
                cases hbe0 : beginsB t.data.toList (s.data.toList.take n)
                · have hx : Hid (aloneB ss i n (k + 1) = true) := Lib.hid (by rw [hsucc.out, hbe0]; simp)
                  have hbe := Lib.hid hbe0
                  clear hki hbe0
                  have X := Lib.hid (fun W => rBegins_c t (ofL (s.data.toList.take n)) W (by omega) (by rw [ofL_size, List.length_take]; omega))
                  rw [ofL_data, hbe.out] at X
                  go_wp2_with fail
                  go_quiet ((rw [hext.out]; exact q_add (X.out _)))
                  go_wp2_with fail
                  go_roundw
                  case rel => exact ⟨k + 1, true, by omega, by go_num, rfl, hx.out, _, rfl⟩
                  case measure => simp [intOf]; omega
                · have hx : Hid (aloneB ss i n (k + 1) = false) := Lib.hid (by rw [hsucc.out, hbe0]; simp [hki])
                  have hbe := Lib.hid hbe0
                  clear hki hbe0
                  have X := Lib.hid (fun W => rBegins_c t (ofL (s.data.toList.take n)) W (by omega) (by rw [ofL_size, List.length_take]; omega))
                  rw [ofL_data, hbe.out] at X
                  go_wp2_with fail
                  go_quiet ((rw [hext.out]; exact q_add (X.out _)))
                  go_wp2_with fail
                  go_roundw
                  case rel => exact ⟨k + 1, false, by omega, by go_num, rfl, hx.out, _, rfl⟩
                  case measure => simp [intOf]; omega
          · obtain rfl : k = ss.length := by omega
            rw [hr.out] at hal
            cases r
            · have hp : Hid (ss.any (abbrP s n) = true) := Lib.hid (by have := hal.out; simpa using this)
              go_wp2_with fail
              go_roundw
              case rel => exact ⟨n + 1, by omega, by go_num, by rw [ha.out, abbrR_step hn hp.out], _, rfl⟩
              case measure => simp [intOf]; omega
            · have hp : Hid (ss.any (abbrP s n) = false) := Lib.hid (by have := hal.out; simpa using this)
              go_wp2_with fail
              go_ret
              exact ⟨ret_str (by rw [ha.out, abbrR_hit hn hp.out, hext.out]), _, rfl⟩
      · have Hx := Lib.hid (ha.out.trans (abbrR_end hn))
        go_wp2_with fail
        go_ret
        exact ⟨ret_str (by rw [Hx.out]), _, rfl⟩

end Go.Proofs.YtegjcmoneemhjaaDoor
