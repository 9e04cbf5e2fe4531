/- Contracts of the reference's Small and Abbreviation. -/
import Derived.Test.YtegjcmoneemhjaaDoorIdM
namespace Go.Proofs.YtegjcmoneemhjaaDoor
open Go.RowKit
set_option linter.unusedVariables false
set_option linter.unusedSimpArgs false

/-- Small answers something, and turns nothing. -/
def SomeBool (w : World) (e : Ending) (w' : World) : Prop := ∃ b : Bool, e = .returned (.bool b) ∧ w = w'

set_option maxHeartbeats 400000 in
theorem rSmall_c (v : Value) (ss : List ByteArray) (w : World) (h : RdS w v ss) : Calls Tryd.prog 26 #[v] w (SomeBool w) := by
  obtain ⟨h1, h2, h3⟩ := h
  rcases h3 with ⟨rfl, A, cap, rfl⟩ | ⟨b, off, cap, rfl, hcap, hne, hc⟩
  · clear h2
    go_enter Tryd.func26, Tryd.ntmps26
    go_wp2
    refine wp_loop_rounds 1 ?_
    rw [rounds_succ]
    go_wp2
    go_ret
    exact ⟨_, rfl, rfl⟩
  · have Hc := Lib.hid hc; clear hc hne
    have H2 := Lib.hid h2; clear h2
    go_enter Tryd.func26, Tryd.ntmps26
    go_wp2
    go_loop [3, 4] (fun n x => ∃ k : Nat, ∃ m : Int, k ≤ ss.length ∧ k ≤ 60 ∧ x = .int .i64 k ∧ n = .int .i64 m ∧ 0 ≤ m ∧ m ≤ 1500 * k) (fun _ x => ss.length - (intOf x).toNat)
    case atStart => exact ⟨0, 0, by omega, by omega, rfl, rfl, by omega, by omega⟩
    case round =>
      obtain ⟨k, m, hk, hk6, rfl, rfl, hm0, hm1⟩ := hrel
      by_cases hlt : k < ss.length
      · by_cases h60 : k < 60
        · obtain ⟨s, -, hmem, -, hcs⟩ := RdS.cellAt Hc.out k hlt
          have hss := H2.out s hmem
          clear hmem
          by_cases hs15 : 1500 < s.size
          · go_wp2_with fail
            go_ret
            exact ⟨_, rfl, rfl⟩
          · go_wp2_with fail
            go_round
            case rel => exact ⟨k + 1, m + s.size, by omega, by omega, by go_num, rfl, by omega, by omega⟩
            case measure => simp [intOf]; omega
        · obtain ⟨s, -, hmem, -, hcs⟩ := RdS.cellAt Hc.out k hlt
          clear hmem
          go_wp2_with fail
          go_ret
          exact ⟨_, rfl, rfl⟩
      · by_cases hmm : m ≤ 1500
        · go_wp2_with fail
          go_ret
          exact ⟨_, rfl, rfl⟩
        · go_wp2_with fail
          go_ret
          exact ⟨_, rfl, rfl⟩

/-- In a strictly increasing list an element stands once. -/
theorem sorted_lt : ∀ (ss : List ByteArray), sortedB ss = true → ∀ i j (hi : i < ss.length) (hj : j < ss.length), i < j → Op.bytesLess ss[i].data.toList ss[j].data.toList = true
  | [], _, i, _, hi, _, _ => by simp at hi
  | [a], _, i, j, hi, hj, h => by simp at hi hj; omega
  | a :: b :: r, hs, i, j, hi, hj, h => by
    simp only [sortedB, Bool.and_eq_true] at hs
    have ih := sorted_lt (b :: r) hs.2
    cases j with
    | zero => omega
    | succ j =>
      cases i with
      | succ i => exact ih i j (by simpa using hi) (by simpa using hj) (by omega)
      | zero =>
        cases j with
        | zero => exact hs.1
        | succ j => exact bl_trans' hs.1 (ih 0 (j + 1) (by simp) (by simpa using hj) (by omega))
where
  bl_trans' : ∀ {l m n : List UInt8}, Op.bytesLess l m = true → Op.bytesLess m n = true → Op.bytesLess l n = true
  | l, [], n, h, _ => by cases l <;> simp [Op.bytesLess] at h
  | l, _ :: _, [], _, h => by simp [Op.bytesLess] at h
  | [], _ :: _, _ :: _, _, _ => rfl
  | a :: l, b :: m, c :: n, h, h' => by
    simp only [Op.bytesLess, Bool.or_eq_true, decide_eq_true_eq, Bool.and_eq_true, beq_iff_eq] at h h' ⊢
    rcases h with h | ⟨rfl, h⟩
    · rcases h' with h' | ⟨rfl, h'⟩
      · exact .inl (UInt8.lt_trans h h')
      · exact .inl h
    · rcases h' with h' | ⟨rfl, h'⟩
      · exact .inl h'
      · exact .inr ⟨rfl, bl_trans' h h'⟩

theorem sorted_ne {ss : List ByteArray} (hs : sortedB ss = true) {i j : Nat} (hi : i < ss.length) (hj : j < ss.length) (h : i ≠ j) : ss[i].data.toList ≠ ss[j].data.toList := by
  intro e
  rcases Nat.lt_or_gt_of_ne h with h | h
  · have := sorted_lt ss hs i j hi hj h; rw [e, bl_irrefl] at this; cases this
  · have := sorted_lt ss hs j i hj hi h; rw [e, bl_irrefl] at this; cases this

/-- The inner loop's answer: up to k no other begins so. -/
def aloneB (ss : List ByteArray) (i n k : Nat) : Bool := !(((List.range k).any fun j => decide (j ≠ i) && beginsB (ss.getD j ByteArray.empty).data.toList ((ss.getD i ByteArray.empty).data.toList.take n)))
theorem aloneB_succ (ss : List ByteArray) (i n k : Nat) : aloneB ss i n (k + 1) = (aloneB ss i n k && !(decide (k ≠ i) && beginsB (ss.getD k ByteArray.empty).data.toList ((ss.getD i ByteArray.empty).data.toList.take n))) := by
  unfold aloneB; rw [List.range_succ, List.any_append]; simp
theorem aloneB_all {ss : List ByteArray} (hs : sortedB ss = true) {i : Nat} (hi : i < ss.length) (n : Nat) : aloneB ss i n ss.length = !(ss.any (abbrP (ss.getD i ByteArray.empty) n)) := by
  unfold aloneB
  congr 1
  rw [Bool.eq_iff_iff, List.any_eq_true, List.any_eq_true]
  have gi : ss.getD i ByteArray.empty = ss[i] := by rw [List.getD_eq_getElem?_getD, List.getElem?_eq_getElem hi]; rfl
  constructor
  · rintro ⟨j, hj, h⟩
    have hj := List.mem_range.1 hj
    have gj : ss.getD j ByteArray.empty = ss[j] := by rw [List.getD_eq_getElem?_getD, List.getElem?_eq_getElem hj]; rfl
    refine ⟨ss[j], List.getElem_mem hj, ?_⟩
    rw [gj] at h
    simp only [Bool.and_eq_true, decide_eq_true_eq] at h
    unfold abbrP
    rw [Lib.toList_data, Lib.toList_data, gi]
    have := sorted_ne hs hj hi h.1
    rw [gi] at h
    simp only [Bool.and_eq_true, bne_iff_ne]
    exact ⟨h.2, this⟩
  · rintro ⟨t, ht, h⟩
    obtain ⟨j, hj, rfl⟩ := List.mem_iff_getElem.1 ht
    refine ⟨j, List.mem_range.2 hj, ?_⟩
    have gj : ss.getD j ByteArray.empty = ss[j] := by rw [List.getD_eq_getElem?_getD, List.getElem?_eq_getElem hj]; rfl
    unfold abbrP at h
    rw [Lib.toList_data, Lib.toList_data, gi] at h
    simp only [Bool.and_eq_true, bne_iff_ne] at h
    rw [gj, gi]
    simp only [Bool.and_eq_true, decide_eq_true_eq]
    exact ⟨fun e => h.2 (by subst e; rfl), h.1⟩

end Go.Proofs.YtegjcmoneemhjaaDoor
