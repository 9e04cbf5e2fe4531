/- Slices of strings that are read; Sorted, Has, Same, Begins, Small. -/
import Derived.Test.YtegjcmoneemhjaaDoorIdJ
namespace Go.Proofs.YtegjcmoneemhjaaDoor
open Go.RowKit
set_option linter.unusedVariables false
set_option linter.unusedSimpArgs false

/-- A slice value that reads as a list of strings. -/
def RdS (w : World) (v : Value) (ss : List ByteArray) : Prop :=
  ss.length * 16 ≤ 140737488355328 ∧ (∀ s ∈ ss, s.size ≤ 140737488351232) ∧
  ((ss = [] ∧ ∃ A cap, v = .slice A 0 cap) ∨
   ∃ b off cap, v = .slice (some ⟨b, off, none⟩) ss.length cap ∧ ss.length ≤ cap ∧ ss ≠ [] ∧ ∀ j, j < ss.length → w.cell? ⟨b, off + j, none⟩ = some (.string (ss.getD j ByteArray.empty)))

theorem RdS.below {w w' : World} {v : Value} {ss : List ByteArray} (h : RdS w v ss) (hb : Below w.heap.size w w') : RdS w' v ss := by
  obtain ⟨h1, h2, h3⟩ := h
  refine ⟨h1, h2, ?_⟩
  rcases h3 with h3 | ⟨b, off, cap, e, hcap, hne, hc⟩
  · exact .inl h3
  · exact .inr ⟨b, off, cap, e, hcap, hne, fun j hj => (hb.cell (World.block_lt_of_cell? w _ (hc j hj))).trans (hc j hj)⟩

/-- Strictly increasing. -/
def sortedB : List ByteArray → Bool
  | [] => true
  | [_] => true
  | a :: b :: r => Op.bytesLess a.data.toList b.data.toList && sortedB (b :: r)

theorem drop_two {α : Type} (l : List α) (d : α) (k : Nat) (h : k + 1 < l.length) : l.drop k = l.getD k d :: l.getD (k + 1) d :: l.drop (k + 2) := by
  rw [List.drop_eq_getElem_cons (by omega), List.drop_eq_getElem_cons h, List.getD_eq_getElem?_getD, List.getD_eq_getElem?_getD, List.getElem?_eq_getElem (by omega), List.getElem?_eq_getElem h]; rfl
theorem drop_one {α : Type} (l : List α) (d : α) (k : Nat) (h : k < l.length) : l.drop k = l.getD k d :: l.drop (k + 1) := by
  rw [List.drop_eq_getElem_cons (by omega), List.getD_eq_getElem?_getD, List.getElem?_eq_getElem (by omega)]; rfl

theorem drewTwo (w : World) (n m : Nat) : ∃ k, (w.drewN n).drewN m = w.drewN k := ⟨n + m, World.drewN_drewN ..⟩

theorem Has_c (v : Value) (ss : List ByteArray) (x : ByteArray) (w : World) (h : RdS w v ss) :
    Calls Tryd.prog 35 #[v, .string x] w fun e w' => e = .returned (.bool (Lib.containsS ss x)) ∧ w = w' := by
  obtain ⟨h1, h2, h3⟩ := h
  rcases h3 with ⟨rfl, A, cap, rfl⟩ | ⟨b, off, cap, rfl, hcap, hne, hc⟩
  · have hC := Tryd.slices_Contains_string_empty A cap x w
    have HC := Lib.hid hC; clear hC
    go_enter Tryd.func35, Tryd.ntmps35
    go_wp2_with (go_at_call 66; refine HC.out.mono ?_; rintro e w' ⟨rfl, rfl⟩)
    go_ret
    exact ⟨rfl, rfl⟩
  · have hC := Tryd.slices_Contains_string b off ss.length cap ss x w (Nat.le_refl _) (by omega) hc
    rw [List.take_length] at hC
    have HC := Lib.hid hC; clear hC hc hne h2
    go_enter Tryd.func35, Tryd.ntmps35
    go_wp2_with (go_at_call 66; refine HC.out.mono ?_; rintro e w' ⟨rfl, rfl⟩)
    go_ret
    exact ⟨rfl, rfl⟩

set_option maxHeartbeats 400000 in
theorem Sorted_c (v : Value) (ss : List ByteArray) (w : World) (h : RdS w v ss) :
    Calls Tryd.prog 32 #[v] w fun e w' => e = .returned (.bool (sortedB ss)) ∧ ∃ n, w' = w.drewN n := by
  obtain ⟨h1, h2, h3⟩ := h
  clear h2
  rcases h3 with ⟨rfl, A, cap, rfl⟩ | ⟨b, off, cap, rfl, hcap, hne, hc⟩
  · go_enter Tryd.func32, Tryd.ntmps32
    go_wp2
    refine wp_loop_rounds 1 ?_
    rw [rounds_succ]
    go_wp2
    go_ret
    exact ⟨rfl, 0, rfl⟩
  · have hl : 0 < ss.length := List.length_pos_iff.2 hne
    have Hc := Lib.hid hc; clear hc hne
    go_enter Tryd.func32, Tryd.ntmps32
    go_wp2
    go_loopw [3] (fun x wr => ∃ k : Nat, k < ss.length ∧ x = .int .i64 ((k : Int) + 1) ∧ sortedB ss = sortedB (ss.drop k) ∧ ∃ n, wr = w.drewN n) (fun x _ => ss.length - (intOf x).toNat)
    case atStart => exact ⟨0, by omega, by simp, rfl, 0, rfl⟩
    case round =>
      obtain ⟨k, hk, rfl, hz0, n, rfl⟩ := hrel
      by_cases hlt : k + 1 < ss.length
      · have hc1 := Hc.out k (by omega)
        have hc2 := Hc.out (k + 1) (by omega)
        rw [drop_two ss ByteArray.empty k hlt, sortedB] at hz0
        have hd := Lib.hid (drop_one ss ByteArray.empty (k + 1) hlt)
        generalize ss.getD k ByteArray.empty = s1 at *
        generalize ss.getD (k + 1) ByteArray.empty = s2 at *
        have et1 := Lib.toList_data s1
        have et2 := Lib.toList_data s2
        rw [← et1, ← et2] at hz0
        clear et1 et2
        cases hb : Op.bytesLess s1.toList s2.toList
        · rw [hb] at hz0
          have hz := Lib.hid hz0; clear hz0
          go_wp2_with fail
          go_quiet (fail)
          go_wp2_with fail
          go_ret
          exact ⟨ret_bool (by rw [hz.out]; rfl), _, World.drewN_drewN ..⟩
        · rw [hb, Bool.true_and] at hz0
          have hz := Lib.hid hz0; clear hz0
          go_wp2_with fail
          go_quiet (fail)
          go_wp2_with fail
          go_roundw
          case rel => exact ⟨k + 1, by omega, by go_num, by rw [hz.out, hd.out], _, rfl⟩
          case measure => simp [intOf]; omega
      · have hz : Hid (sortedB ss = true) := Lib.hid (by
          rw [hz0, drop_one ss ByteArray.empty k hk, List.drop_of_length_le (by omega)]; rfl)
        clear hz0
        go_wp2_with fail
        go_ret
        exact ⟨ret_bool hz.out.symm, n, rfl⟩

set_option maxHeartbeats 400000 in
theorem rSorted_c (v : Value) (ss : List ByteArray) (w : World) (h : RdS w v ss) :
    Calls Tryd.prog 28 #[v] w fun e w' => e = .returned (.bool (sortedB ss)) ∧ ∃ n, w' = w.drewN n := by
  obtain ⟨h1, h2, h3⟩ := h
  clear h2
  rcases h3 with ⟨rfl, A, cap, rfl⟩ | ⟨b, off, cap, rfl, hcap, hne, hc⟩
  · go_enter Tryd.func28, Tryd.ntmps28
    go_wp2
    refine wp_loop_rounds 1 ?_
    rw [rounds_succ]
    go_wp2
    go_ret
    exact ⟨rfl, 0, rfl⟩
  · have hl : 0 < ss.length := List.length_pos_iff.2 hne
    have Hc := Lib.hid hc; clear hc hne
    go_enter Tryd.func28, Tryd.ntmps28
    go_wp2
    go_loopw [3] (fun x wr => ∃ k : Nat, k < ss.length ∧ x = .int .i64 ((k : Int) + 1) ∧ sortedB ss = sortedB (ss.drop k) ∧ ∃ n, wr = w.drewN n) (fun x _ => ss.length - (intOf x).toNat)
    case atStart => exact ⟨0, by omega, by simp, rfl, 0, rfl⟩
    case round =>
      obtain ⟨k, hk, rfl, hz0, n, rfl⟩ := hrel
      by_cases hlt : k + 1 < ss.length
      · have hc1 := Hc.out k (by omega)
        have hc2 := Hc.out (k + 1) (by omega)
        rw [drop_two ss ByteArray.empty k hlt, sortedB] at hz0
        have hd := Lib.hid (drop_one ss ByteArray.empty (k + 1) hlt)
        generalize ss.getD k ByteArray.empty = s1 at *
        generalize ss.getD (k + 1) ByteArray.empty = s2 at *
        have et1 := Lib.toList_data s1
        have et2 := Lib.toList_data s2
        rw [← et1, ← et2] at hz0
        clear et1 et2
        cases hb : Op.bytesLess s1.toList s2.toList
        · rw [hb] at hz0
          have hz := Lib.hid hz0; clear hz0
          go_wp2_with fail
          go_quiet (fail)
          go_wp2_with fail
          go_ret
          exact ⟨ret_bool (by rw [hz.out]; rfl), _, World.drewN_drewN ..⟩
        · rw [hb, Bool.true_and] at hz0
          have hz := Lib.hid hz0; clear hz0
          go_wp2_with fail
          go_quiet (fail)
          go_wp2_with fail
          go_roundw
          case rel => exact ⟨k + 1, by omega, by go_num, by rw [hz.out, hd.out], _, rfl⟩
          case measure => simp [intOf]; omega
      · have hz : Hid (sortedB ss = true) := Lib.hid (by
          rw [hz0, drop_one ss ByteArray.empty k hk, List.drop_of_length_le (by omega)]; rfl)
        clear hz0
        go_wp2_with fail
        go_ret
        exact ⟨ret_bool hz.out.symm, n, rfl⟩

def sameB (a b : List ByteArray) : Bool := decide (a = b)

theorem sameB_cons (x y : ByteArray) (a b : List ByteArray) : sameB (x :: a) (y :: b) = ((x.toList == y.toList) && sameB a b) := by
  unfold sameB
  rw [Lib.toList_data, Lib.toList_data]
  by_cases h : x = y
  · subst h; simp
  · have : ¬ x.data.toList = y.data.toList := fun e => h (ext_data e)
    have hb : (x.data.toList == y.data.toList) = false := by simpa using this
    rw [hb]; simp [h]

theorem RdS.cellAt {w : World} {b off : Nat} {ss : List ByteArray} (hc : ∀ j, j < ss.length → w.cell? ⟨b, off + j, none⟩ = some (.string (ss.getD j ByteArray.empty))) (k : Nat) (h : k < ss.length) :
    ∃ s, ss.drop k = s :: ss.drop (k + 1) ∧ s ∈ ss ∧ ss.getD k ByteArray.empty = s ∧ w.cell? ⟨b, off + k, none⟩ = some (.string s) :=
  ⟨ss.getD k ByteArray.empty, drop_one ss _ k h, by rw [List.getD_eq_getElem?_getD, List.getElem?_eq_getElem h]; exact List.getElem_mem h, rfl, hc k h⟩

set_option maxHeartbeats 400000 in
theorem rSame_c (u v : Value) (xs ys : List ByteArray) (w : World) (h : RdS w u xs) (h' : RdS w v ys) :
    Calls Tryd.prog 33 #[u, v] w fun e w' => e = .returned (.bool (sameB xs ys)) ∧ ∃ n, w' = w.drewN n := by
  obtain ⟨h1, h2, h3⟩ := h
  obtain ⟨h1', h2', h3'⟩ := h'
  clear h2 h2'
  by_cases hlen : xs.length = ys.length
  · rcases h3 with ⟨rfl, A, cap, rfl⟩ | ⟨b, off, cap, rfl, hcap, hne, hc⟩
    · obtain rfl : ys = [] := List.eq_nil_of_length_eq_zero (by simpa using hlen.symm)
      obtain ⟨A', cap', rfl⟩ : ∃ A' cap', v = .slice A' 0 cap' := by
        rcases h3' with ⟨_, h⟩ | ⟨b, off, cap, rfl, _, hne, _⟩
        · exact h
        · exact absurd rfl hne
      clear hlen h3'
      go_enter Tryd.func33, Tryd.ntmps33
      go_wp2
      refine wp_loop_rounds 1 ?_
      rw [rounds_succ]
      go_wp2
      go_ret
      exact ⟨rfl, 0, rfl⟩
    · have hl : 0 < xs.length := List.length_pos_iff.2 hne
      obtain ⟨b', off', cap', rfl, hcap', hne', hc'⟩ : ∃ b off cap, v = .slice (some ⟨b, off, none⟩) ys.length cap ∧ ys.length ≤ cap ∧ ys ≠ [] ∧ ∀ j, j < ys.length → w.cell? ⟨b, off + j, none⟩ = some (.string (ys.getD j ByteArray.empty)) := by
        rcases h3' with ⟨rfl, h⟩ | h
        · exact absurd hlen (by simp; intro e; subst e; simp at hl)
        · exact h
      have Hc := Lib.hid hc; clear hc hne
      have Hc' := Lib.hid hc'; clear hc' hne'
      have hbl : ((xs.length : Int) != (ys.length : Int)) = false := by simp [hlen]
      have hlen := Lib.hid hlen
      go_enter Tryd.func33, Tryd.ntmps33
      go_wp2
      clear hbl
      go_loopw [5] (fun x wr => ∃ k : Nat, k ≤ xs.length ∧ x = .int .i64 k ∧ sameB xs ys = sameB (xs.drop k) (ys.drop k) ∧ ∃ n, wr = w.drewN n) (fun x _ => xs.length - (intOf x).toNat)
      case atStart => exact ⟨0, by omega, by simp, rfl, 0, rfl⟩
      case round =>
        obtain ⟨k, hk, rfl, hz0, n, rfl⟩ := hrel
        by_cases hlt : k < xs.length
        · have hlt' : k < ys.length := by have := hlen.out; omega
          obtain ⟨s1, e1, -, -, c1⟩ := RdS.cellAt Hc.out k hlt
          obtain ⟨s2, e2, -, -, c2⟩ := RdS.cellAt Hc'.out k hlt'
          rw [e1, e2, sameB_cons] at hz0
          clear e1 e2
          cases hb : (s1.toList == s2.toList)
          · rw [hb] at hz0
            have hz := Lib.hid hz0; clear hz0
            go_wp2_with fail
            go_quiet (fail)
            go_wp2_with fail
            go_ret
            exact ⟨ret_bool (by rw [hz.out]; rfl), drewTwo _ _ _⟩
          · rw [hb, Bool.true_and] at hz0
            have hz := Lib.hid hz0; clear hz0
            have hb := Lib.hid hb
            go_wp2_with fail
            go_quiet (fail)
            have hb := hb.out
            go_wp2_with fail
            go_roundw
            case rel => exact ⟨k + 1, by omega, by go_num, hz.out, _, rfl⟩
            case measure => simp [intOf]; omega
        · have hz : Hid (sameB xs ys = true) := Lib.hid (by
            rw [hz0, List.drop_of_length_le (by omega), List.drop_of_length_le (by have := hlen.out; omega)]; rfl)
          clear hz0
          go_wp2_with fail
          go_ret
          exact ⟨ret_bool hz.out.symm, n, rfl⟩
  · have hz : Hid (sameB xs ys = false) := Lib.hid (by unfold sameB; simp only [decide_eq_false_iff_not]; intro e; exact hlen (by rw [e]))
    have hb : ((xs.length : Int) != (ys.length : Int)) = true := by simp; omega
    obtain ⟨A, cap, rfl⟩ : ∃ A cap, u = .slice A xs.length cap := by
      rcases h3 with ⟨rfl, A, cap, rfl⟩ | ⟨b, off, cap, rfl, _⟩ <;> exact ⟨_, _, rfl⟩
    obtain ⟨A', cap', rfl⟩ : ∃ A cap, v = .slice A ys.length cap := by
      rcases h3' with ⟨rfl, A, cap, rfl⟩ | ⟨b, off, cap, rfl, _⟩ <;> exact ⟨_, _, rfl⟩
    clear h3 h3' hlen
    go_enter Tryd.func33, Tryd.ntmps33
    go_wp2
    go_ret
    exact ⟨ret_bool hz.out.symm, 0, rfl⟩

def beginsB (s p : List UInt8) : Bool := p.isPrefixOf s

set_option maxHeartbeats 400000 in
theorem rBegins_c (s p : ByteArray) (w : World) (hs : s.size ≤ 9223372036854775807) (hp : p.size ≤ 9223372036854775807) :
    Calls Tryd.prog 31 #[.string s, .string p] w fun e w' => e = .returned (.bool (beginsB s.data.toList p.data.toList)) ∧ w = w' := by
  by_cases h : p.size ≤ s.size
  · have hz : Hid (beginsB s.data.toList p.data.toList = ((ofL (s.data.toList.take p.size)).toList == p.toList)) := Lib.hid (by
      rw [Lib.toList_data, Lib.toList_data, ofL_data]
      unfold beginsB
      rw [Bool.eq_iff_iff, List.isPrefixOf_iff_prefix, beq_iff_eq, List.prefix_iff_eq_take]
      constructor
      · intro e; exact e.symm
      · intro e; exact e.symm)
    go_enter Tryd.func31, Tryd.ntmps31
    go_wp2
    go_ret
    exact ⟨ret_bool (by rw [hz.out, ← extract_take]), rfl⟩
  · have hz : Hid (beginsB s.data.toList p.data.toList = false) := Lib.hid (by
      unfold beginsB
      rw [Bool.eq_false_iff]
      intro e
      have := (List.isPrefixOf_iff_prefix.1 e).length_le
      have e1 : p.data.toList.length = p.size := rfl
      have e2 : s.data.toList.length = s.size := rfl
      omega)
    go_enter Tryd.func31, Tryd.ntmps31
    go_wp2
    go_ret
    exact ⟨ret_bool hz.out.symm, rfl⟩

def total : List ByteArray → Nat
  | [] => 0
  | s :: r => s.size + total r
/-- At most 60 strings of together at most 1500 bytes (stated as the code goes). -/
def smallB (ss : List ByteArray) : Bool := decide (ss.length ≤ 60) && ss.all (fun s => decide (s.size ≤ 1500)) && decide (total ss ≤ 1500)

end Go.Proofs.YtegjcmoneemhjaaDoor
