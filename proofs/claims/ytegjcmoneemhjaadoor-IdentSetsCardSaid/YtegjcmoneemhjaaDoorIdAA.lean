/- The reference's Has, Set, Union, Minus, Subset: their contracts. -/
import Derived.Test.YtegjcmoneemhjaaDoorIdZ
namespace Go.Proofs.YtegjcmoneemhjaaDoor
open Go.RowKit
set_option linter.unusedVariables false
set_option linter.unusedSimpArgs false

theorem contains_drop (x : ByteArray) (ss : List ByteArray) (k : Nat) (h : k < ss.length) : Lib.containsS (ss.drop k) x = ((ss[k].toList == x.toList) || Lib.containsS (ss.drop (k + 1)) x) := by
  rw [Bool.eq_iff_iff, Bool.or_eq_true, Lib.containsS_iff, Lib.containsS_iff, List.drop_eq_getElem_cons h, List.mem_cons, beq_iff_eq, Lib.toList_data, Lib.toList_data]
  constructor
  · rintro (e | e)
    · exact .inl (by rw [e])
    · exact .inr e
  · rintro (e | e)
    · left
      have := congrArg ofL e
      rw [ofL_toList, ofL_toList] at this
      exact this.symm
    · exact .inr e

theorem rHas_c (v : Value) (ss : List ByteArray) (x : ByteArray) (w : World) (h : RdS w v ss) :
    Calls Tryd.prog 36 #[v, .string x] w fun e w' => e = .returned (.bool (Lib.containsS ss x)) ∧ w = w' := by
  obtain ⟨A, cap, rfl, hsh⟩ := h.shape
  have hle := h.1
  have HS := Lib.hid hsh; clear hsh h
  go_enter Tryd.func36, Tryd.ntmps36
  go_wp2_with fail
  go_loop [5] (fun i => ∃ k : Nat, k ≤ ss.length ∧ i = .int .i64 k ∧ Lib.containsS ss x = Lib.containsS (ss.drop k) x) (fun i => ss.length - (intOf i).toNat)
  case atStart => exact ⟨0, Nat.zero_le _, rfl, rfl⟩
  case round =>
    obtain ⟨k, hk, rfl, hd0⟩ := hrel
    have hd := Lib.hid hd0; clear hd0
    by_cases hlt : k < ss.length
    · obtain ⟨b, off, rfl, hc⟩ := HS.out (by omega)
      have ck := hc k hlt
      rw [getD_of hlt] at ck
      have hn := Lib.hid (hd.out.trans (contains_drop x ss k hlt))
      clear hc
      generalize ss[k] = s at *
      cases he : (s.toList == x.toList)
      · go_wp2_with fail
        go_round
        case rel => exact ⟨k + 1, by omega, by go_num, by rw [hn.out, he, Bool.false_or]⟩
        case measure => simp [intOf]; omega
      · go_wp2_with fail
        go_ret
        exact ⟨ret_bool (by rw [hn.out, he, Bool.true_or]), rfl⟩
    · have hn : Hid (Lib.containsS ss x = false) := Lib.hid (by rw [hd.out, List.drop_of_length_le (by omega)]; rfl)
      go_wp2_with fail
      go_ret
      exact ⟨ret_bool (by rw [hn.out]), rfl⟩

end Go.Proofs.YtegjcmoneemhjaaDoor
