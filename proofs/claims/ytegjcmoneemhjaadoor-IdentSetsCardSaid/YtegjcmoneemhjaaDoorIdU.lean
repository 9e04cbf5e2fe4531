/- The set of a list: sorted, each element once; the contract of ident.Set. -/
import Derived.Test.YtegjcmoneemhjaaDoorIdR
import Derived.Test.YtegjcmoneemhjaaDoorIdO
import Derived.Sort.OwnSorted
import Derived.Lib.RowBridge
namespace Go.Proofs.YtegjcmoneemhjaaDoor
open Go.RowKit Go.Sort
set_option linter.unusedVariables false
set_option linter.unusedSimpArgs false

/-- The set of a list of rows of bytes. -/
def setL (zs : List (List UInt8)) : List (List UInt8) := Lib.compact (zs.mergeSort fun x y => decide (x ≤ y))
abbrev datas (ss : List ByteArray) : List (List UInt8) := ss.map fun s => s.data.toList
/-- The set of a list of strings. -/
def setS (ss : List ByteArray) : List ByteArray := (setL (datas ss)).map ofL

theorem mem_of_compact {zs : List (List UInt8)} {x : List UInt8} (h : x ∈ Lib.compact zs) : x ∈ zs := by
  unfold Lib.compact Lib.compactUpTo at h
  obtain ⟨j, hj, rfl⟩ := List.mem_map.1 h
  have hj := List.mem_range.1 (List.mem_filter.1 hj).1
  have hj' : j < zs.toArray.size := by simpa using hj
  rw [getElem!_pos _ j hj']; simp
theorem compact_has {zs : List (List UInt8)} {x : List UInt8} (h : x ∈ zs) : x ∈ Lib.compact zs := by
  obtain ⟨i, hi, rfl⟩ := List.mem_iff_getElem.1 h
  clear h
  induction i with
  | zero =>
    unfold Lib.compact Lib.compactUpTo
    refine List.mem_map.2 ⟨0, List.mem_filter.2 ⟨List.mem_range.2 hi, by simp [Lib.keeps]⟩, ?_⟩
    rw [getElem!_pos _ 0 (by simpa using hi)]; simp
  | succ i ih =>
    by_cases e : zs[i + 1] = zs[i]'(by omega)
    · rw [e]; exact ih (by omega)
    · unfold Lib.compact Lib.compactUpTo
      have h1 : zs.toArray[i + 1]! = zs[i + 1] := by rw [getElem!_pos _ (i + 1) (by simpa using hi)]; simp
      have h2 : zs.toArray[i]! = zs[i]'(by omega) := by rw [getElem!_pos _ i (by simp; omega)]; simp
      refine List.mem_map.2 ⟨i + 1, List.mem_filter.2 ⟨List.mem_range.2 hi, ?_⟩, h1⟩
      simp only [Lib.keeps, decide_eq_true_eq]
      right
      rw [h1, Nat.add_sub_cancel, h2]; exact e
theorem mem_setL (zs : List (List UInt8)) (x : List UInt8) : x ∈ setL zs ↔ x ∈ zs := by
  unfold setL
  constructor
  · intro h; exact List.mem_mergeSort.1 (mem_of_compact h)
  · intro h; exact compact_has (List.mem_mergeSort.2 h)
theorem setL_length (zs : List (List UInt8)) : (setL zs).length ≤ zs.length := by
  unfold setL; have := Lib.compact_length_le (zs.mergeSort fun x y => decide (x ≤ y)); rw [List.length_mergeSort] at this; exact this

theorem le_iff (x y : List UInt8) : x ≤ y ↔ ¬ y < x := Iff.rfl
theorem lt_iff (x y : List UInt8) : x < y ↔ Op.bytesLess x y = true := by rw [bytesLess_eq]; simp
theorem sorted_merge (zs : List (List UInt8)) : (zs.mergeSort fun x y => decide (x ≤ y)).Pairwise (fun x y => ¬ y < x) := by
  have := List.pairwise_mergeSort (le := fun (x y : List UInt8) => decide (x ≤ y)) (fun a b c h h' => by
    simp only [decide_eq_true_eq, le_iff, lt_iff] at *
    intro q
    cases h1 : Op.bytesLess b c
    · cases h2 : Op.bytesLess c b
      · have e := bl_total b c h1
        rw [h2] at e
        have : b = c := by simpa using e.symm
        subst this; exact h q
      · exact h' h2
    · exact h (bl_trans h1 q)) (fun a b => by
    simp only [Bool.or_eq_true, decide_eq_true_eq, le_iff, lt_iff]
    cases h1 : Op.bytesLess b a
    · simp
    · rw [bl_asymm h1]; simp) zs
  exact this.imp (fun h => by rw [decide_eq_true_eq, le_iff] at h; exact h)

theorem compact_lt {ys : List (List UInt8)} (h : ys.Pairwise (fun x y => ¬ y < x)) : (Lib.compact ys).Pairwise (fun x y => Op.bytesLess x y = true) := by
  unfold Lib.compact Lib.compactUpTo
  rw [List.pairwise_map, List.pairwise_filter]
  refine List.Pairwise.imp_of_mem ?_ List.pairwise_lt_range
  intro i j hi hj hij ki kj
  have hi := List.mem_range.1 hi
  have hj := List.mem_range.1 hj
  have hp := List.pairwise_iff_getElem.1 h
  have g : ∀ k (hk : k < ys.length), ys.toArray[k]! = ys[k] := fun k hk => by rw [getElem!_pos _ k (by simpa using hk)]; simp
  rw [g i hi, g j hj]
  simp only [Lib.keeps, decide_eq_true_eq] at kj
  have kj : ys.toArray[j]! ≠ ys.toArray[j - 1]! := kj.resolve_left (by omega)
  rw [g j hj, g (j - 1) (by omega)] at kj
  have h1 : ¬ ys[j] < ys[j - 1] := hp (j - 1) j (by omega) hj (by omega)
  have h2 : Op.bytesLess ys[j - 1] ys[j] = true := by
    cases q : Op.bytesLess ys[j] ys[j - 1]
    · have e := bl_total _ _ q; rw [e]; simpa using kj
    · exact absurd ((lt_iff _ _).2 q) h1
  by_cases e : i = j - 1
  · subst e; exact h2
  · have h3 : ¬ ys[j - 1] < ys[i] := hp i (j - 1) hi (by omega) (by omega)
    cases q : Op.bytesLess ys[i] ys[j - 1]
    · have e := bl_total _ _ q
      have : Op.bytesLess ys[j - 1] ys[i] = false := by
        cases r : Op.bytesLess ys[j - 1] ys[i]
        · rfl
        · exact absurd ((lt_iff _ _).2 r) h3
      rw [this] at e
      have : ys[i] = ys[j - 1] := by simpa using e.symm
      rw [this]; exact h2
    · exact bl_trans q h2
theorem setL_lt (zs : List (List UInt8)) : (setL zs).Pairwise (fun x y => Op.bytesLess x y = true) := compact_lt (sorted_merge zs)

theorem sortedB_of : ∀ (ls : List (List UInt8)), ls.Pairwise (fun x y => Op.bytesLess x y = true) → sortedB (ls.map ofL) = true := by
  intro ls
  induction ls with
  | nil => intro _; rfl
  | cons a r ih =>
    intro h
    cases r with
    | nil => rfl
    | cons b r =>
      rw [List.pairwise_cons] at h
      simp only [List.map_cons, sortedB, ofL_data, Bool.and_eq_true]
      exact ⟨h.1 b (List.mem_cons_self ..), ih h.2⟩
theorem sorted_setS (ss : List ByteArray) : sortedB (setS ss) = true := sortedB_of _ (setL_lt _)
theorem setS_length (ss : List ByteArray) : (setS ss).length ≤ ss.length := by
  unfold setS; rw [List.length_map]; have := setL_length (datas ss); rwa [List.length_map] at this
theorem mem_setS (ss : List ByteArray) (s : ByteArray) : s ∈ setS ss ↔ s ∈ ss := by
  unfold setS
  constructor
  · intro h
    obtain ⟨l, hl, rfl⟩ := List.mem_map.1 h
    obtain ⟨t, ht, rfl⟩ := List.mem_map.1 ((mem_setL _ _).1 hl)
    rw [ofL_toList]; exact ht
  · intro h
    exact List.mem_map.2 ⟨s.data.toList, (mem_setL _ _).2 (List.mem_map.2 ⟨s, h, rfl⟩), ofL_toList s⟩

/-! ### memory -/
theorem below_row {w : World} {n B g : Nat} {os : Array Obj} (d : Array (List UInt8)) (h : B ≤ g) (hw : B ≤ w.heap.size) : Below B w (grow (putRow encStr (Sort.ahead w n) g 0 d) os) := by
  have := grownBy_sorted (w := w) (g := g) (n := n) (os := os) d
  exact ⟨this.os, this.tape, this.output, this.size, fun k hk => this.block k (by omega) (by simp; omega)⟩
theorem enc_map (ss : List ByteArray) : (datas ss).map encStr = ss.map Value.string := by
  rw [List.map_map]; exact List.map_congr_left (fun s _ => rfl)

theorem rds_row {w : World} {g off cap k : Nat} {ls : List (List UInt8)} (hH : Holds encStr w g off (ls ++ List.replicate k []).toArray) (hcap : ls.length ≤ cap) (h1 : ls.length * 16 ≤ 140737488355328) (h2 : ∀ l ∈ ls, l.length ≤ 140737488351232) :
    RdS w (.slice (some ⟨g, off, none⟩) ls.length cap) (ls.map ofL) := by
  refine ⟨by rw [List.length_map]; exact h1, ?_, ?_⟩
  · intro s hs
    obtain ⟨l, hl, rfl⟩ := List.mem_map.1 hs
    rw [ofL_size]; exact h2 l hl
  · by_cases he : ls = []
    · subst he; exact .inl ⟨rfl, _, _, rfl⟩
    · refine .inr ⟨g, off, cap, by rw [List.length_map], by rw [List.length_map]; exact hcap, by simpa using he, ?_⟩
      intro j hj
      rw [List.length_map] at hj
      have := (hH j (by simp; omega)).1
      rw [this, getElem!_pos _ j (by simp; omega)]
      simp [List.getElem_append_left hj, encStr, ofL, List.getD_eq_getElem?_getD, List.getElem?_eq_getElem hj]

theorem length_data (s : ByteArray) : s.data.toList.length = s.size := by rw [Array.length_toList]; rfl
theorem setS_slice (w : World) (ss : List ByteArray) (g cap : Nat) (hcap : (setL (datas ss)).length ≤ cap) (k : Nat)
    (hH : Holds encStr w g 0 (setL (datas ss) ++ List.replicate k []).toArray) (h1 : ss.length * 16 ≤ 140737488355328) (h2 : ∀ s ∈ ss, s.size ≤ 140737488351232) :
    RdS w (.slice (some ⟨g, 0, none⟩) (setL (datas ss)).length cap) (setS ss) := by
  refine rds_row hH hcap ?_ ?_
  · have := setL_length (datas ss); rw [List.length_map] at this; omega
  · intro l hl
    obtain ⟨s, hs, rfl⟩ := List.mem_map.1 ((mem_setL _ _).1 hl)
    rw [length_data]; exact h2 s hs

theorem setS_nil : setS [] = [] := by
  have : setL (datas []) = [] := List.eq_nil_of_length_eq_zero (Nat.le_zero.1 (setL_length []))
  unfold setS; rw [this]; rfl

/-- What Set leaves. -/
def SetPost (ss : List ByteArray) (w : World) (e : Ending) (w' : World) : Prop := ∃ v', e = .returned v' ∧ RdS w' v' (setS ss) ∧ Below w.heap.size w w'

theorem SetPost.empty {w w' : World} {A : Option Addr} {cap : Nat} (h : Below w.heap.size w w') : SetPost [] w (.returned (.slice A 0 cap)) w' :=
  ⟨_, rfl, by rw [setS_nil]; exact ⟨by simp, by simp, .inl ⟨rfl, _, _, rfl⟩⟩, h⟩

set_option maxHeartbeats 400000 in
theorem Set_c (v : Value) (ss : List ByteArray) (w : World) (h : RdS w v ss) : Calls Tryd.prog 30 #[v] w (SetPost ss w) := by
  obtain ⟨h1, h2, h3⟩ := h
  rcases h3 with ⟨rfl, A, cap, rfl⟩ | ⟨b, off, cap, rfl, hcap, hne, hc⟩
  · clear h2
    cases A with
    | none =>
      go_enter Tryd.func30, Tryd.ntmps30
      go_wp2_with fail
      refine (Tryd.slices_Clone_string_nil _ _ _).mono ?_; rintro e w1 ⟨rfl, rfl⟩
      go_wp2_with fail
      refine (Tryd.slices_Sort_string_none _ _ _).mono ?_; rintro e w1 ⟨rfl, rfl⟩
      go_wp2_with fail
      refine (Tryd.slices_Compact_string_empty _ _ _).mono ?_; rintro e w1 ⟨rfl, rfl⟩
      go_wp2_with fail
      go_ret
      exact SetPost.empty (Below.refl _ _)
    | some a =>
      go_enter Tryd.func30, Tryd.ntmps30
      go_wp2_with fail
      refine (Tryd.slices_Clone_string_zero _ _ _).mono ?_; rintro e w1 ⟨v', rfl, ho, hnn, hb⟩
      obtain ⟨p, cap', rfl⟩ : ∃ p cap', v' = .slice p 0 cap' := by
        rcases ho.2 with ⟨rfl, -⟩ | ⟨g, c, cur, rfl, -⟩
        · exact ⟨none, 0, rfl⟩
        · exact ⟨_, _, rfl⟩
      have hB := Lib.hid hb; clear hb ho hnn
      go_wp2_with fail
      refine (Tryd.slices_Sort_string_none _ _ _).mono ?_; rintro e w2 ⟨rfl, rfl⟩
      go_wp2_with fail
      refine (Tryd.slices_Compact_string_empty _ _ _).mono ?_; rintro e w3 ⟨rfl, rfl⟩
      go_wp2_with fail
      go_ret
      exact SetPost.empty hB.out
  · have hl0 := List.length_pos_iff.2 hne
    have Hc := Lib.hid hc; clear hc hne
    have H2 := Lib.hid h2; clear h2
    go_enter Tryd.func30, Tryd.ntmps30
    go_wp2_with fail
    refine (Tryd.slices_Clone_string b off ss.length cap ss _ (Nat.le_refl _) h1 Hc.out).mono ?_; rintro e w1 ⟨v', rfl, ho, hnn, hb⟩
    rw [List.take_length] at ho
    obtain ⟨ho1, ⟨-, ho2⟩ | ⟨g, cap', cur, rfl, hg, hblk, hn, hcm, hsz, htk⟩⟩ := ho
    · omega
    have hB := Lib.hid hb; clear hb hnn
    have hw1 := Lib.hid (Array.getElem?_eq_some_iff.1 hblk).1
    have HB := Lib.hid hblk; clear hblk
    rw [Nat.mul_one] at htk
    have HT := Lib.hid (htk.trans (enc_map ss).symm); clear htk ho1
    have hL : (datas ss).length = ss.length := by rw [List.length_map]
    have Hold := Lib.hid (holds_of_block HB.out (by rw [hL]; exact HT.out))
    have S1 := Lib.hid (Tryd.slices_Sort_string g 0 cap' (datas ss) w1 Hold.out hw1.out (by omega))
    rw [hL] at S1
    go_wp2_with fail
    refine S1.out.mono ?_; rintro e w2 ⟨rfl, n, os, rfl⟩
    have hm : ((datas ss).mergeSort fun x y => decide (x ≤ y)).length = ss.length := by rw [List.length_mergeSort, hL]
    have Hs := Lib.hid (holds_grow encStr _ os g 0 _ (by simp; exact hw1.out) (holds_putRow encStr (Sort.ahead w1 n) g 0 _ ((datas ss).mergeSort fun x y => decide (x ≤ y)).toArray (holds_ahead encStr w1 n g 0 _ Hold.out) (by simp)))
    have hB := Lib.hid (hB.out.trans (below_row (n := n) (os := os) ((datas ss).mergeSort fun x y => decide (x ≤ y)).toArray hg hB.out.size)); clear S1
    generalize grow (putRow encStr (Sort.ahead w1 n) g 0 ((datas ss).mergeSort fun x y => decide (x ≤ y)).toArray) os = w2 at *
    have C1 := Lib.hid (Tryd.slices_Compact_string g 0 cap' _ w2 Hs.out (by rw [hm]; omega) (by rw [hm]; exact hn))
    rw [hm] at C1
    go_wp2_with fail
    refine C1.out.mono ?_; rintro e w3 ⟨rfl, q, rfl⟩
    have Hs2 := Lib.hid (holds_putRow encStr (Sort.ahead w2 q) g 0 _ (setL (datas ss) ++ List.replicate (ss.length - (setL (datas ss)).length) []).toArray (holds_ahead encStr w2 q g 0 _ Hs.out) (by
      have := setL_length (datas ss); rw [hL] at this; simp; omega))
    have hB := Lib.hid (hB.out.trans (below_row (n := q) (os := #[]) (setL (datas ss) ++ List.replicate (ss.length - (setL (datas ss)).length) []).toArray hg hB.out.size)); clear C1
    rw [grow_empty] at hB
    go_wp2_with fail
    go_ret
    exact ⟨_, rfl, setS_slice _ ss g cap' (by have := setL_length (datas ss); rw [hL] at this; omega) _ Hs2.out h1 H2.out, hB.out⟩

end Go.Proofs.YtegjcmoneemhjaaDoor
