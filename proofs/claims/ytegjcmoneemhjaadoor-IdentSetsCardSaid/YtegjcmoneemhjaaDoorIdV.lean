/- What the abbreviations of a set are: plain mathematics for the law IdentUnique. -/
import Derived.Test.YtegjcmoneemhjaaDoorIdU
namespace Go.Proofs.YtegjcmoneemhjaaDoor
open Go.RowKit
set_option linter.unusedVariables false
set_option linter.unusedSimpArgs false

theorem take_all (s : ByteArray) : ofL (s.data.toList.take s.size) = s := by
  rw [List.take_of_length_le (by rw [length_data]; exact Nat.le_refl _), ofL_toList]
theorem abbrR_spec (ss : List ByteArray) (s : ByteArray) : ∀ f m, s.size - m < f → ∃ n, n ≤ s.size ∧ abbrR ss s f m = ofL (s.data.toList.take n) ∧
    (n < s.size → m ≤ n ∧ ss.any (abbrP s n) = false) ∧ (m < n → ss.any (abbrP s (n - 1)) = true) := by
  intro f
  induction f with
  | zero => intro m h; omega
  | succ f ih =>
    intro m h
    simp only [abbrR]
    by_cases h1 : m < s.size
    · rw [if_pos h1]
      cases h2 : ss.any (abbrP s m)
      · rw [if_neg (by simp)]
        exact ⟨m, by omega, rfl, fun _ => ⟨Nat.le_refl _, h2⟩, fun h => by omega⟩
      · rw [if_pos rfl]
        obtain ⟨n, a, b, c, d⟩ := ih (m + 1) (by omega)
        refine ⟨n, a, b, fun h => ⟨by have := (c h).1; omega, (c h).2⟩, fun h => ?_⟩
        by_cases h3 : m + 1 < n
        · exact d h3
        · obtain rfl : n = m + 1 := by omega
          exact h2
    · rw [if_neg h1]
      exact ⟨s.size, Nat.le_refl _, (take_all s).symm, fun h => by omega, fun h => by omega⟩

theorem getD_of {S : List ByteArray} {i : Nat} (h : i < S.length) : S.getD i ByteArray.empty = S[i] := by
  rw [List.getD_eq_getElem?_getD, List.getElem?_eq_getElem h]; rfl
theorem begins_take (s : ByteArray) (n : Nat) : beginsB s.data.toList (s.data.toList.take n) = true := by
  unfold beginsB; rw [List.isPrefixOf_iff_prefix]; exact List.take_prefix _ _
theorem any_false {S : List ByteArray} {s : ByteArray} {n : Nat} (h : S.any (abbrP s n) = false) {t : ByteArray} (ht : t ∈ S) (hne : t.data.toList ≠ s.data.toList) : beginsB t.data.toList (s.data.toList.take n) = false := by
  have h1 := List.any_eq_false.1 h t ht
  unfold abbrP at h1
  rw [Lib.toList_data, Lib.toList_data] at h1
  cases h2 : beginsB t.data.toList (s.data.toList.take n)
  · rfl
  · exfalso; apply h1
    simp only [Bool.and_eq_true, bne_iff_ne]
    exact ⟨h2, hne⟩
theorem ofL_inj {a b : List UInt8} (h : ofL a = ofL b) : a = b := by
  have := congrArg (·.data.toList) h
  simpa [ofL_data] using this

/-- What the law asks of one abbreviation. -/
theorem uniq_facts {S : List ByteArray} (hs : sortedB S = true) (m : Nat) {i : Nat} (hi : i < S.length) : ∃ n, n ≤ S[i].size ∧ abbrS S m S[i] = ofL (S[i].data.toList.take n) ∧
    (∀ k (hk : k < S.length), k ≠ i → abbrS S m S[k] ≠ ofL (S[i].data.toList.take n) ∧ (n < S[i].size → beginsB S[k].data.toList (S[i].data.toList.take n) = false)) ∧
    (m < n → ∃ k, ∃ hk : k < S.length, k ≠ i ∧ beginsB S[k].data.toList (S[i].data.toList.take (n - 1)) = true) := by
  obtain ⟨n, h1, h2, h3, h4⟩ := abbrR_spec S S[i] (S[i].size + 1) m (by omega)
  refine ⟨n, h1, h2, fun k hk hne => ?_, fun h => ?_⟩
  · have hd := sorted_ne hs hk hi hne
    have hB : n < S[i].size → beginsB S[k].data.toList (S[i].data.toList.take n) = false := fun h => any_false (h3 h).2 (List.getElem_mem hk) hd
    refine ⟨fun e => ?_, hB⟩
    obtain ⟨n', g1, g2, g3, -⟩ := abbrR_spec S S[k] (S[k].size + 1) m (by omega)
    have e := ofL_inj ((show abbrS S m S[k] = ofL (S[k].data.toList.take n') from g2).symm.trans e)
    by_cases q : n < S[i].size
    · have := hB q
      rw [← e, begins_take] at this; cases this
    · by_cases q' : n' < S[k].size
      · have := any_false (g3 q').2 (List.getElem_mem hi) (Ne.symm hd)
        rw [e, begins_take] at this; cases this
      · have a1 : n = S[i].size := by omega
        have a2 : n' = S[k].size := by omega
        rw [a1, a2, ← length_data, ← length_data, List.take_length, List.take_length] at e
        exact hd e
  · obtain ⟨t, ht, hp⟩ := List.any_eq_true.1 (h4 h)
    obtain ⟨k, hk, rfl⟩ := List.mem_iff_getElem.1 ht
    unfold abbrP at hp
    rw [Lib.toList_data, Lib.toList_data, Bool.and_eq_true, bne_iff_ne] at hp
    exact ⟨k, hk, fun e => hp.2 (by subst e; rfl), hp.1⟩

/-- The inner loop's shared: one of the first k others begins with the abbreviation less a byte. -/
def sharedB (S : List ByteArray) (i n k : Nat) : Bool := (List.range k).any fun j => decide (j ≠ i) && (decide (0 < n) && beginsB (S.getD j ByteArray.empty).data.toList ((S.getD i ByteArray.empty).data.toList.take (n - 1)))
theorem sharedB_succ (S : List ByteArray) (i n k : Nat) : sharedB S i n (k + 1) = (sharedB S i n k || (decide (k ≠ i) && (decide (0 < n) && beginsB (S.getD k ByteArray.empty).data.toList ((S.getD i ByteArray.empty).data.toList.take (n - 1))))) := by
  unfold sharedB; rw [List.range_succ, List.any_append]; simp
theorem sharedB_all {S : List ByteArray} {i n : Nat} (hi : i < S.length) (hn : 0 < n) (h : ∃ k, ∃ hk : k < S.length, k ≠ i ∧ beginsB S[k].data.toList (S[i].data.toList.take (n - 1)) = true) : sharedB S i n S.length = true := by
  obtain ⟨k, hk, h1, h2⟩ := h
  unfold sharedB
  rw [List.any_eq_true]
  refine ⟨k, List.mem_range.2 hk, ?_⟩
  rw [getD_of hk, getD_of hi]
  simp only [Bool.and_eq_true, decide_eq_true_eq]
  exact ⟨h1, hn, h2⟩

theorem RdS.shape {w : World} {v : Value} {ss : List ByteArray} (h : RdS w v ss) : ∃ A cap, v = .slice A ss.length cap ∧ (0 < ss.length → ∃ b off, A = some ⟨b, off, none⟩ ∧ ∀ j, j < ss.length → w.cell? ⟨b, off + j, none⟩ = some (.string (ss.getD j ByteArray.empty))) := by
  obtain ⟨-, -, ⟨rfl, A, cap, rfl⟩ | ⟨b, off, cap, rfl, -, -, hc⟩⟩ := h
  · exact ⟨A, cap, rfl, fun h => by simp at h⟩
  · exact ⟨_, cap, rfl, fun _ => ⟨b, off, rfl, hc⟩⟩

end Go.Proofs.YtegjcmoneemhjaaDoor
