/- Union, Minus, Subset: their contracts. -/
import Derived.Test.YtegjcmoneemhjaaDoorIdX
namespace Go.Proofs.YtegjcmoneemhjaaDoor
open Go.RowKit Go.Sort
set_option linter.unusedVariables false
set_option linter.unusedSimpArgs false

theorem holds_pre {w : World} {g k : Nat} {ls : List (List UInt8)} (h : Holds encStr w g 0 (ls ++ List.replicate k []).toArray) : Holds encStr w g 0 ls.toArray := by
  intro j hj
  have hj' : j < ls.length := by simpa using hj
  have := h j (by simp; omega)
  rw [getElem!_pos _ j (by simp; omega)] at this
  rw [getElem!_pos _ j hj]
  simpa [List.getElem_append_left hj'] using this

/-- What Set leaves, its row told. -/
def SetOwnPost (ss : List ByteArray) (w : World) (e : Ending) (w' : World) : Prop := ∃ v', e = .returned v' ∧ RdS w' v' (setS ss) ∧ Below w.heap.size w w' ∧
  ((setS ss = [] ∧ ∃ A cap, v' = .slice A 0 cap) ∨ ∃ g cap, v' = .slice (some ⟨g, 0, none⟩) (setL (datas ss)).length cap ∧ w.heap.size ≤ g ∧ Holds encStr w' g 0 (setL (datas ss)).toArray ∧ (setL (datas ss)).length ≤ cap)
theorem SetOwnPost.empty {w w' : World} {A : Option Addr} {cap : Nat} (h : Below w.heap.size w w') : SetOwnPost [] w (.returned (.slice A 0 cap)) w' :=
  ⟨_, rfl, by rw [setS_nil]; exact ⟨by simp, by simp, .inl ⟨rfl, _, _, rfl⟩⟩, h, .inl ⟨setS_nil, _, _, rfl⟩⟩

set_option maxHeartbeats 400000 in
theorem SetOwn_c (v : Value) (ss : List ByteArray) (w : World) (h : RdS w v ss) : Calls Tryd.prog 30 #[v] w (SetOwnPost ss w) := by
  obtain ⟨h1, h2, h3⟩ := h
  rcases h3 with ⟨rfl, A, cap, rfl⟩ | ⟨b, off, cap, rfl, hcap, hne, hc⟩
  · clear h2
    cases A with
    | none =>
      go_enter Tryd.func30, Tryd.ntmps30
      go_wp2_with fail
      refine (Tryd.slices_Clone_string_nil _ _ _).mono ?_; rintro e w1 ⟨rfl, rfl⟩
      go_wp2_with fail
      refine (Tryd.slices_Sort_string_none _ _ _).mono ?_; rintro e w1 ⟨rfl, rfl⟩
      go_wp2_with fail
      refine (Tryd.slices_Compact_string_empty _ _ _).mono ?_; rintro e w1 ⟨rfl, rfl⟩
      go_wp2_with fail
      go_ret
      exact SetOwnPost.empty (Below.refl _ _)
    | some a =>
      go_enter Tryd.func30, Tryd.ntmps30
      go_wp2_with fail
      refine (Tryd.slices_Clone_string_zero _ _ _).mono ?_; rintro e w1 ⟨v', rfl, ho, hnn, hb⟩
      obtain ⟨p, cap', rfl⟩ : ∃ p cap', v' = .slice p 0 cap' := by
        rcases ho.2 with ⟨rfl, -⟩ | ⟨g, c, cur, rfl, -⟩
        · exact ⟨none, 0, rfl⟩
        · exact ⟨_, _, rfl⟩
      have hB := Lib.hid hb; clear hb ho hnn
      go_wp2_with fail
      refine (Tryd.slices_Sort_string_none _ _ _).mono ?_; rintro e w2 ⟨rfl, rfl⟩
      go_wp2_with fail
      refine (Tryd.slices_Compact_string_empty _ _ _).mono ?_; rintro e w3 ⟨rfl, rfl⟩
      go_wp2_with fail
      go_ret
      exact SetOwnPost.empty hB.out
  · have hl0 := List.length_pos_iff.2 hne
    have Hc := Lib.hid hc; clear hc hne
    have H2 := Lib.hid h2; clear h2
    go_enter Tryd.func30, Tryd.ntmps30
    go_wp2_with fail
    refine (Tryd.slices_Clone_string b off ss.length cap ss _ (Nat.le_refl _) h1 Hc.out).mono ?_; rintro e w1 ⟨v', rfl, ho, hnn, hb⟩
    rw [List.take_length] at ho
    obtain ⟨ho1, ⟨-, ho2⟩ | ⟨g, cap', cur, rfl, hg, hblk, hn, hcm, hsz, htk⟩⟩ := ho
    · omega
    have hB := Lib.hid hb; clear hb hnn
    have hw1 := Lib.hid (Array.getElem?_eq_some_iff.1 hblk).1
    have HB := Lib.hid hblk; clear hblk
    rw [Nat.mul_one] at htk
    have HT := Lib.hid (htk.trans (enc_map ss).symm); clear htk ho1
    have hL : (datas ss).length = ss.length := by rw [List.length_map]
    have Hold := Lib.hid (holds_of_block HB.out (by rw [hL]; exact HT.out))
    have S1 := Lib.hid (Tryd.slices_Sort_string g 0 cap' (datas ss) w1 Hold.out hw1.out (by omega))
    rw [hL] at S1
    go_wp2_with fail
    refine S1.out.mono ?_; rintro e w2 ⟨rfl, n, os, rfl⟩
    have hm : ((datas ss).mergeSort fun x y => decide (x ≤ y)).length = ss.length := by rw [List.length_mergeSort, hL]
    have Hs := Lib.hid (holds_grow encStr _ os g 0 _ (by simp; exact hw1.out) (holds_putRow encStr (Sort.ahead w1 n) g 0 _ ((datas ss).mergeSort fun x y => decide (x ≤ y)).toArray (holds_ahead encStr w1 n g 0 _ Hold.out) (by simp)))
    have hB := Lib.hid (hB.out.trans (below_row (n := n) (os := os) ((datas ss).mergeSort fun x y => decide (x ≤ y)).toArray hg hB.out.size)); clear S1
    generalize grow (putRow encStr (Sort.ahead w1 n) g 0 ((datas ss).mergeSort fun x y => decide (x ≤ y)).toArray) os = w2 at *
    have C1 := Lib.hid (Tryd.slices_Compact_string g 0 cap' _ w2 Hs.out (by rw [hm]; omega) (by rw [hm]; exact hn))
    rw [hm] at C1
    go_wp2_with fail
    refine C1.out.mono ?_; rintro e w3 ⟨rfl, q, rfl⟩
    have Hs2 := Lib.hid (holds_putRow encStr (Sort.ahead w2 q) g 0 _ (setL (datas ss) ++ List.replicate (ss.length - (setL (datas ss)).length) []).toArray (holds_ahead encStr w2 q g 0 _ Hs.out) (by
      have := setL_length (datas ss); rw [hL] at this; simp; omega))
    have hB := Lib.hid (hB.out.trans (below_row (n := q) (os := #[]) (setL (datas ss) ++ List.replicate (ss.length - (setL (datas ss)).length) []).toArray hg hB.out.size)); clear C1
    rw [grow_empty] at hB
    go_wp2_with fail
    go_ret
    have hle : (setL (datas ss)).length ≤ cap' := by have := setL_length (datas ss); rw [hL] at this; omega
    exact ⟨_, rfl, setS_slice _ ss g cap' hle _ Hs2.out h1 H2.out, hB.out, .inr ⟨g, cap', rfl, hg, holds_pre Hs2.out, hle⟩⟩


theorem RdS.cat {w : World} {base : Nat} {v : Value} {a b : List ByteArray} (h : w.ownsRow base 9 1 v (a ++ b).length (strVals (a ++ b))) (h16 : (a.length + b.length) * 16 ≤ 140737488355328) (ha : ∀ s ∈ a, s.size ≤ 140737488351232) (hb : ∀ s ∈ b, s.size ≤ 140737488351232) : RdS w v (a ++ b) :=
  RdS.own h (by rw [List.length_append]; exact h16) (fun s hs => (List.mem_append.1 hs).elim (ha s) (hb s))

set_option maxHeartbeats 400000 in
theorem Union_c (va vb : Value) (ps qs : List ByteArray) (w : World) (ha : RdS w va ps) (hb : RdS w vb qs) (h16 : (ps.length + qs.length) * 16 ≤ 140737488355328) :
    Calls Tryd.prog 37 #[va, vb] w (SetPost (ps ++ qs) w) := by
  obtain ⟨A, c1, rfl, -⟩ := ha.shape
  obtain ⟨B, c2, rfl, -⟩ := hb.shape
  have H1 := Lib.hid ha.2.1
  have H2 := Lib.hid hb.2.1
  have HA := Lib.hid ha; have HB := Lib.hid hb; clear ha hb
  go_enter Tryd.func37, Tryd.ntmps37
  go_wp2_with fail
  have hb1 : Below w.heap.size w (w.alloc (.cells #[.slice A ps.length c1, .slice B qs.length c2] 32)) := (Below.refl _ _).alloc (Nat.le_refl _) _
  refine (Concat_c w.heap.size _ _ ps qs _ (HA.out.below hb1) (HB.out.below hb1) (by simp) (by simp) h16).mono ?_
  rintro e w1 ⟨v1, rfl, hown, hb⟩
  have hB := Lib.hid (blwT hb1 hb)
  have HR := Lib.hid (RdS.cat hown h16 H1.out H2.out)
  clear hown hb hb1
  go_wp2_with fail
  refine (Set_c _ _ _ HR.out).mono ?_
  rintro e w2 ⟨v2, rfl, hR, hb⟩
  have hB := Lib.hid (blwT hB.out hb)
  have HR := Lib.hid hR
  clear hb hR
  go_wp2_with fail
  go_ret
  exact ⟨_, rfl, HR.out, hB.out⟩

theorem MinusB_c (B : Nat) (vb : Value) (qs : List ByteArray) (s : ByteArray) (w : World) (hb : RdS w vb qs) (c : w.cell? ⟨B, 0, none⟩ = some vb) :
    Calls Tryd.prog 69 #[.string s, .pointer (some ⟨B, 0, none⟩)] w fun e w' => e = .returned (.bool (Lib.containsS qs s)) ∧ w = w' := by
  obtain ⟨h1, h2, h3⟩ := hb
  rcases h3 with ⟨rfl, A, cap, rfl⟩ | ⟨b, off, cap, rfl, hcap, hne, hc⟩
  · have HC := Lib.hid (Tryd.slices_Contains_string_empty A cap s w)
    clear h2
    go_enter Tryd.func69, Tryd.ntmps69
    go_wp2_with (go_at_call 66; refine HC.out.mono ?_; rintro e w' ⟨rfl, rfl⟩)
    go_ret
    exact ⟨rfl, rfl⟩
  · have hC := Tryd.slices_Contains_string b off qs.length cap qs s w (Nat.le_refl _) (by omega) hc
    rw [List.take_length] at hC
    have HC := Lib.hid hC; clear hC hc hne h2
    go_enter Tryd.func69, Tryd.ntmps69
    go_wp2_with (go_at_call 66; refine HC.out.mono ?_; rintro e w' ⟨rfl, rfl⟩)
    go_ret
    exact ⟨rfl, rfl⟩

/-- The set of the elements of ps that are not in qs. -/
def minusL (ps qs : List ByteArray) : List (List UInt8) := (setL (datas ps)).filter fun l => !Lib.containsS qs (ofL l)
def minusS (ps qs : List ByteArray) : List ByteArray := (minusL ps qs).map ofL

def MinusPost (ps qs : List ByteArray) (w : World) (e : Ending) (w' : World) : Prop := ∃ v', e = .returned v' ∧ RdS w' v' (minusS ps qs) ∧ Below w.heap.size w w'

theorem delete_none (A : Option Addr) (cap : Nat) (f : Value) (w : World) (hI : ∀ W, Calls Tryd.prog 60 #[.slice A 0 cap, f] W fun e w' => e = .returned (.int .i64 (-1)) ∧ w' = W) :
    Calls Tryd.prog 68 #[.slice A 0 cap, f] w fun e w' => e = .returned (.slice A 0 cap) ∧ w' = w := by
  have HI := Lib.hid hI; clear hI
  go_enter Tryd.func68, Tryd.ntmps68
  go_wp2_with fail
  refine (HI.out _).mono ?_; rintro e w1 ⟨rfl, rfl⟩
  go_wp2_with fail
  go_ret
  exact ⟨rfl, rfl⟩

set_option maxHeartbeats 400000 in
theorem Minus_c (va vb : Value) (ps qs : List ByteArray) (w : World) (ha : RdS w va ps) (hb : RdS w vb qs) :
    Calls Tryd.prog 39 #[va, vb] w (MinusPost ps qs w) := by
  obtain ⟨A, c1, rfl, -⟩ := ha.shape
  obtain ⟨B, c2, rfl, -⟩ := hb.shape
  have h16 := ha.1
  have h2 := Lib.hid ha.2.1
  have HA := Lib.hid ha; have HB := Lib.hid hb; clear ha hb
  go_enter Tryd.func39, Tryd.ntmps39
  go_wp2_with fail
  have hb1 : Below w.heap.size w (w.alloc (.cells #[.slice B qs.length c2] 32)) := (Below.refl _ _).alloc (Nat.le_refl _) _
  refine (SetOwn_c _ ps _ (HA.out.below hb1)).mono ?_
  rintro e w1 ⟨v1, rfl, hR, hb, hown⟩
  have hB := Lib.hid (blwT hb1 hb)
  rcases hown with ⟨he, A', cap', rfl⟩ | ⟨g, cap', rfl, hg, hH, hle⟩
  · clear hR hb hb1
    have HE := Lib.hid he; clear he
    go_wp2_with fail
    refine (delete_none A' cap' _ _ (fun W => (Tryd.slices_IndexFunc_empty (α := ByteArray) A' cap' _ W).mono fun e w' ⟨h, h'⟩ => ⟨h, h'⟩)).mono ?_
    rintro e w2 ⟨rfl, rfl⟩
    go_wp2_with fail
    go_ret
    refine ⟨_, rfl, ?_, hB.out⟩
    have : setL (datas ps) = [] := by have := HE.out; unfold setS at this; simpa using this
    have e2 : minusS ps qs = [] := by unfold minusS minusL; rw [this]; rfl
    rw [e2]
    exact ⟨by simp, by simp, .inl ⟨rfl, _, _, rfl⟩⟩
  · have cB : ∀ W, Below (w.heap.size + 1) w1 W → W.cell? ⟨w.heap.size, 0, none⟩ = some (.slice B qs.length c2) := fun W hW => by
      rw [hW.cell (by simp), hb.cell (by simp)]; simp
    have rB : ∀ W, Below (w.heap.size + 1) w1 W → RdS W (.slice B qs.length c2) qs := fun W hW => HB.out.below (hB.out.trans (hW.mono (by omega)))
    have hg' : w.heap.size + 1 ≤ g := by simpa using hg
    have hw1 : w.heap.size + 1 ≤ w1.heap.size := by have := hb.size; simpa using this
    have hp : PredAt Tryd.prog 69 #[.pointer (some ⟨w.heap.size, 0, none⟩)] encStr (fun l => Lib.containsS qs (ofL l)) w1 := by
      intro W x hW
      unfold FnGives
      exact (MinusB_c w.heap.size _ qs (ofL x) W (rB W (hW.mono hw1)) (cB W (hW.mono hw1))).mono fun e w' ⟨h, h'⟩ => ⟨h, 0, h'.symm⟩
    have hpo : PredOver Tryd.prog 69 #[.pointer (some ⟨w.heap.size, 0, none⟩)] encStr (fun l => Lib.containsS qs (ofL l)) g 0 (setL (datas ps)).toArray.size w1 := by
      intro n os dk x hd
      have hW : Below (w.heap.size + 1) w1 (sortWorld encStr w1 g 0 n dk os) := below_row dk hg' hw1
      unfold FnGives
      exact (MinusB_c w.heap.size _ qs (ofL x) _ (rB _ hW) (cB _ hW)).mono fun e w' ⟨h, h'⟩ => ⟨h, 0, h'.symm⟩
    have hsz : (setL (datas ps)).length ≤ ps.length := by have := setL_length (datas ps); rwa [List.length_map] at this
    have D := Lib.hid (Tryd.slices_DeleteFunc encStr (fun x => rfl) (fun l => Lib.containsS qs (ofL l)) 69 #[.pointer (some ⟨w.heap.size, 0, none⟩)] (enters_of Tryd.func69 (by kernel_rfl) rfl) [] Tryd.zeroValue9 g 0 cap' (setL (datas ps)).toArray w1 hp hpo hH (by simp; omega) (by simpa using hle))
    have HH := Lib.hid hH
    have HBd := Lib.hid hb
    clear hp hpo cB rB hR hb hb1 hH
    go_wp2_with fail
    refine D.out.mono ?_
    rintro e w2 ⟨rfl, q, rfl⟩
    have hfl : (minusL ps qs).length ≤ (setL (datas ps)).length := List.length_filter_le _ _
    have Hs2 := Lib.hid (holds_putRow encStr (Sort.ahead w1 q) g 0 _ (minusL ps qs ++ List.replicate ((setL (datas ps)).length - (minusL ps qs).length) []).toArray (holds_ahead encStr w1 q g 0 _ HH.out) (by simp; omega))
    have hB := Lib.hid (hB.out.trans ((below_row (n := q) (os := #[]) (minusL ps qs ++ List.replicate ((setL (datas ps)).length - (minusL ps qs).length) []).toArray hg' hw1).mono (by omega)))
    rw [grow_empty] at hB
    clear D
    go_wp2_with fail
    go_ret
    refine ⟨_, rfl, rds_row (k := (setL (datas ps)).length - (minusL ps qs).length) Hs2.out ?_ ?_ ?_, hB.out⟩
    · show (minusL ps qs).length ≤ cap'; omega
    · show (minusL ps qs).length * 16 ≤ _; omega
    · intro l hl
      have hl : l ∈ minusL ps qs := hl
      obtain ⟨s, hs, rfl⟩ := List.mem_map.1 ((mem_setL _ _).1 (List.mem_filter.1 hl).1)
      rw [length_data]; exact h2.out s hs

def SubsetPost (ps qs : List ByteArray) (w : World) (e : Ending) (w' : World) : Prop := e = .returned (.bool (minusS ps qs).isEmpty) ∧ Below w.heap.size w w'

set_option maxHeartbeats 400000 in
theorem Subset_c (va vb : Value) (ps qs : List ByteArray) (w : World) (ha : RdS w va ps) (hb : RdS w vb qs) :
    Calls Tryd.prog 41 #[va, vb] w (SubsetPost ps qs w) := by
  obtain ⟨A, c1, rfl, -⟩ := ha.shape
  obtain ⟨B, c2, rfl, -⟩ := hb.shape
  have HM := Lib.hid (Minus_c _ _ ps qs w ha hb); clear ha hb
  go_enter Tryd.func41, Tryd.ntmps41
  go_wp2_with fail
  refine HM.out.mono ?_
  rintro e w1 ⟨v1, rfl, hR, hb⟩
  obtain ⟨A', c', rfl, -⟩ := hR.shape
  have hB := Lib.hid hb
  clear hb hR
  have hl : (minusS ps qs).isEmpty = ((minusS ps qs).length == 0) := by cases minusS ps qs <;> rfl
  have HL := Lib.hid hl; clear hl
  by_cases h0 : (minusS ps qs).length = 0
  · rw [h0] at HL ⊢
    go_wp2_with fail
    go_ret
    exact ⟨ret_bool (by rw [HL.out]; rfl), hB.out⟩
  · have hb0 : (((minusS ps qs).length : Int) == 0) = false := by rw [beq_eq_false_iff_ne]; omega
    go_wp2_with fail
    go_ret
    exact ⟨ret_bool (by rw [HL.out]; simp [h0]), hB.out⟩

end Go.Proofs.YtegjcmoneemhjaaDoor
