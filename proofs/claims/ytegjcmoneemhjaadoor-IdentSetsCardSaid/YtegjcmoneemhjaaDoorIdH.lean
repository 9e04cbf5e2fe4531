/- Contracts of the reference's natural order. -/
import Derived.Test.YtegjcmoneemhjaaDoorIdG
import Derived.Test.YtegjcmoneemhjaaDoorIdE
namespace Go.Proofs.YtegjcmoneemhjaaDoor
open Go.RowKit
set_option linter.unusedVariables false
set_option linter.unusedSimpArgs false

theorem q_left {P : Program} {f : FuncId} {args : Array Value} {w : World} {n : Nat} {v : Value}
    (h : Calls P f args (w.drewN n) fun e w' => e = .returned v ∧ w.drewN n = w') : Calls P f args (w.drewN n) fun e w'' => e = .returned v ∧ ∃ m, w'' = w.drewN m :=
  h.mono fun _ _ ⟨he, hm⟩ => ⟨he, n, hm.symm⟩
theorem q_draw {P : Program} {f : FuncId} {args : Array Value} {w : World} {n : Nat} {v : Value}
    (h : Calls P f args (w.drewN n) fun e w' => e = .returned v ∧ ∃ m, w' = (w.drewN n).drewN m) : Calls P f args (w.drewN n) fun e w'' => e = .returned v ∧ ∃ m, w'' = w.drewN m :=
  h.mono fun _ _ ⟨he, m, hm⟩ => ⟨he, n + m, by rw [hm, World.drewN_drewN]⟩

theorem rcompare_c (a b : ByteArray) (w : World) : Calls Tryd.prog 59 #[.string a, .string b] w fun e w' => e = .returned (.int .i64 (cmpL a.data.toList b.data.toList)) ∧ w = w' := by
  have ea : a.toList = a.data.toList := Lib.toList_data a
  have eb : b.toList = b.data.toList := Lib.toList_data b
  cases h1 : Op.bytesLess a.data.toList b.data.toList
  · cases h2 : Op.bytesLess b.data.toList a.data.toList
    all_goals
      have hn := Lib.hid (show cmpL a.data.toList b.data.toList = _ from by unfold cmpL; rw [h1, h2])
      have h3 := bl_eq h1 _ h2
      rw [← ea, ← eb] at h1 h2 h3
      clear ea eb
      go_enter Tryd.func59, Tryd.ntmps59
      go_wp2
      go_ret
      exact ⟨by rw [hn.out]; rfl, rfl⟩
  · have hn := Lib.hid (show cmpL a.data.toList b.data.toList = -1 from by unfold cmpL; rw [h1]; rfl)
    rw [← ea, ← eb] at h1
    clear ea eb
    go_enter Tryd.func59, Tryd.ntmps59
    go_wp2
    go_ret
    exact ⟨by rw [hn.out]; rfl, rfl⟩

theorem piece_at (s : ByteArray) (i e : Nat) (h : i < e) (he : e ≤ s.size) (hall : ∀ j (hj : j < s.size), i ≤ j → j < e → dig s[j] = true) (hend : ∀ hj : e < s.size, dig s[e] = false) :
    pieceN (s.data.toList.drop i) = e - i := by
  unfold pieceN
  rw [takeWhile_of _ (e - i) (by rw [List.length_drop]; exact Nat.sub_le_sub_right (by simpa using he) _) ?_ ?_]
  · omega
  · rw [List.all_eq_true]
    intro c hc
    obtain ⟨j, hj, rfl⟩ := List.mem_iff_getElem.1 hc
    have hj' : j < e - i := by simp at hj; omega
    have := hall (i + j) (by omega) (by omega) (by omega)
    rw [List.getElem_take, List.getElem_drop]
    exact this
  · intro hj
    have hj' : e < s.size := by simp at hj; omega
    rw [List.getElem_drop]
    have := hend hj'
    simp only [show i + (e - i) = e by omega]
    exact this

theorem piece_one (s : ByteArray) (i : Nat) (h : i < s.size) (hd : dig s[i] = false) : pieceN (s.data.toList.drop i) = 1 := by
  unfold pieceN
  rw [List.drop_eq_getElem_cons (by simpa using h), List.takeWhile_cons_of_neg (by
    have : s.data.toList[i] = s[i] := rfl
    rw [this, hd]; simp)]
  rfl

set_option maxHeartbeats 400000 in
theorem rpiece_c (s : ByteArray) (i : Nat) (w : World) (hs : s.size ≤ 140737488351232) (hi : i < s.size) :
    Calls Tryd.prog 57 #[.string s, .int .i64 i] w fun e w' => e = .returned (.int .i64 ((i : Int) + pieceN (s.data.toList.drop i))) ∧ w = w' := by
  cases hd0 : dig s[i]
  · have Hn := Lib.hid (piece_one s i hi hd0)
    have hd := Lib.hid (show isDigit (s[i].toNat : Int) = false from hd0)
    clear hd0
    go_enter Tryd.func57, Tryd.ntmps57
    go_wp2
    go_loop [5] (fun x => x = .int .i64 ((i : Int) + 1)) (fun _ => 0)
    case atStart => rfl
    case round =>
      subst hrel
      go_wp2_with (go_at_call 24; refine (rDigit_c _ false _ hd.out (u8_lt _).1 (u8_lt _).2).mono ?_; rintro e w' ⟨rfl, rfl⟩)
      go_ret
      exact ⟨ret_int (by rw [Hn.out]; rfl), rfl⟩
  · have hd := Lib.hid (show isDigit (s[i].toNat : Int) = true from hd0)
    have hdd := Lib.hid hd0
    clear hd0
    go_enter Tryd.func57, Tryd.ntmps57
    go_wp2
    go_loop [5] (fun x => ∃ e : Nat, i < e ∧ e ≤ s.size ∧ x = .int .i64 e ∧ ∀ j (hj : j < s.size), i ≤ j → j < e → dig s[j] = true) (fun x => s.size - (intOf x).toNat)
    case atStart => exact ⟨i + 1, by omega, by omega, by go_num, fun j hj h1 h2 => by obtain rfl : j = i := by omega
                                                                                      exact hdd.out⟩
    case round =>
      obtain ⟨e, he1, he2, rfl, hall⟩ := hrel
      have hall := Lib.hid hall
      by_cases hlt : e < s.size
      · cases hc0 : dig s[e]
        · have Hn := Lib.hid (piece_at s i e he1 he2 hall.out (fun _ => hc0))
          have hc := Lib.hid (show isDigit (s[e].toNat : Int) = false from hc0)
          clear hc0
          go_wp2_with fail
          refine (rDigit_c _ true _ hd.out (u8_lt _).1 (u8_lt _).2).mono ?_; rintro e w' ⟨rfl, rfl⟩
          go_wp2_with fail
          refine (rDigit_c _ false _ hc.out (u8_lt _).1 (u8_lt _).2).mono ?_; rintro e w' ⟨rfl, rfl⟩
          go_wp2_with fail
          go_ret
          exact ⟨ret_int (by rw [Hn.out]; omega), rfl⟩
        · have hc := Lib.hid (show isDigit (s[e].toNat : Int) = true from hc0)
          have hcc := Lib.hid hc0
          clear hc0
          go_wp2_with fail
          refine (rDigit_c _ true _ hd.out (u8_lt _).1 (u8_lt _).2).mono ?_; rintro e w' ⟨rfl, rfl⟩
          go_wp2_with fail
          refine (rDigit_c _ true _ hc.out (u8_lt _).1 (u8_lt _).2).mono ?_; rintro e w' ⟨rfl, rfl⟩
          go_wp2_with fail
          go_round
          case rel => exact ⟨e + 1, by omega, by omega, by go_num, fun j hj h1 h2 => by
            rcases Nat.lt_or_ge j e with h | h
            · exact hall.out j hj h1 h
            · obtain rfl : j = e := by omega
              exact hcc.out⟩
          case measure => simp [intOf]; omega
      · have Hn := Lib.hid (piece_at s i e he1 he2 hall.out (fun h => absurd h hlt))
        go_wp2_with fail
        refine (rDigit_c _ true _ hd.out (u8_lt _).1 (u8_lt _).2).mono ?_; rintro e w' ⟨rfl, rfl⟩
        go_wp2_with fail
        go_ret
        exact ⟨ret_int (by rw [Hn.out]; omega), rfl⟩

theorem cmpL_one (c d : UInt8) : cmpL [c] [d] = cmpI c.toNat d.toNat := by
  unfold cmpL cmpI
  simp only [Op.bytesLess, Bool.and_false, Bool.or_false, decide_eq_true_eq, UInt8.lt_iff_toNat_lt]
  by_cases h1 : c.toNat < d.toNat <;> by_cases h2 : d.toNat < c.toNat <;> simp [h1, h2] <;> omega

end Go.Proofs.YtegjcmoneemhjaaDoor
