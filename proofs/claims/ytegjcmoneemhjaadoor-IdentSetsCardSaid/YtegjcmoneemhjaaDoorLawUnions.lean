/- The law IdentUnions returns true for every three lists. -/
import Derived.Test.YtegjcmoneemhjaaDoorIdZ
namespace Go.Proofs.YtegjcmoneemhjaaDoor
open Go.RowKit
set_option linter.unusedVariables false
set_option linter.unusedSimpArgs false

/-- What the law's tests come to. -/
structure UnionM (a b c : List ByteArray) (U D : List ByteArray) : Prop where
  comm : setS (b ++ a) = U
  assoc : setS (U ++ c) = setS (a ++ setS (b ++ c))
  idem : setS (U ++ U) = U
  sorted : sortedB U = true
  has : ∀ i (h : i < a.length), Lib.containsS D a[i] = !Lib.containsS b a[i] ∧ Lib.containsS U a[i] = true
  sub1 : (minusS a U).isEmpty = true
  sub2 : (minusS D a).isEmpty = true
  sub3 : sameB U (setS b) = D.isEmpty
theorem unionM (a b c : List ByteArray) : UnionM a b c (setS (a ++ b)) (minusS a b) := by
  refine ⟨setS_ext fun s => ?_, setS_ext fun s => ?_, setS_ext fun s => ?_, sorted_setS _, fun i h => ⟨contains_minus (List.getElem_mem h), ?_⟩, ?_, ?_, ?_⟩
  · simp only [List.mem_append]; exact Or.comm
  · simp only [List.mem_append, mem_setS, or_assoc]
  · simp only [List.mem_append, mem_setS, or_self]
  · exact (Lib.containsS_iff _ _).2 ((mem_setS _ _).2 (List.mem_append_left _ (List.getElem_mem h)))
  · rw [List.isEmpty_iff, minusS_empty]; intro s hs; exact (mem_setS _ _).2 (List.mem_append_left _ hs)
  · rw [List.isEmpty_iff, minusS_empty]; intro s hs; exact ((mem_minusS _ _ _).1 hs).1
  · unfold sameB
    rw [Bool.eq_iff_iff, decide_eq_true_eq, List.isEmpty_iff, minusS_empty]
    constructor
    · intro e s hs
      have := (mem_setS (a ++ b) s).2 (List.mem_append_left _ hs)
      rw [e] at this
      exact (mem_setS _ _).1 this
    · intro h
      refine setS_ext fun s => ?_
      rw [List.mem_append]
      exact ⟨fun q => q.elim (h s) id, .inr⟩
theorem RdS.someC {w : World} {A : Option Addr} {cap n : Nat} {ss : List ByteArray} (h : RdS w (.slice A n cap) ss) (hn : 0 < ss.length) : ∃ b off, A = some ⟨b, off, none⟩ ∧ ∀ j, j < ss.length → w.cell? ⟨b, off + j, none⟩ = some (.string (ss.getD j ByteArray.empty)) := by
  obtain ⟨A', cap', e, h⟩ := h.shape
  injection e with e1 e2 e3
  subst e1
  exact h hn
theorem same_self (u : List ByteArray) : sameB u u = true := by unfold sameB; simp
theorem RdS.ext {w w' : World} {v : Value} {ss : List ByteArray} (h : Hid (RdS w v ss)) (hb : Below w.heap.size w w') : Hid (RdS w' v ss) := Lib.hid (h.out.below hb)

set_option maxHeartbeats 4000000 in
set_option maxRecDepth 100000 in
theorem IdentUnions_c (va vb vc : Value) (a b c : List ByteArray) (w : World) (ht : Tabs w) (ha : RdS w va a) (hb : RdS w vb b) (hc : RdS w vc c) :
    Calls Tryd.prog 10 #[va, vb, vc] w fun e w' => e = .returned (.bool true) ∧ Below w.heap.size w w' := by
  have HT := Lib.hid ht; clear ht
  obtain ⟨A, c1, rfl, -⟩ := ha.shape
  obtain ⟨B, c2, rfl, -⟩ := hb.shape
  obtain ⟨C, c3, rfl, -⟩ := hc.shape
  have hla := Lib.hid ha.1
  have Ra := Lib.hid ha; have Rb := Lib.hid hb; have Rc := Lib.hid hc; clear ha hb hc
  go_enter Tryd.func10, Tryd.ntmps10
  go_wp2_with fail
  refine (awake_c _ HT.out).mono ?_; rintro e w1 ⟨rfl, hb⟩
  have hB := Lib.hid hb; have Ra := RdS.ext Ra hb; have Rb := RdS.ext Rb hb; have Rc := RdS.ext Rc hb; clear hb
  go_wp2_with fail
  refine (rSmall60_c _ a _ Ra.out).mono ?_; rintro e w' ⟨sm, rfl, hs1, rfl⟩
  cases sm
  · clear hs1
    go_wp2_with fail
    go_ret
    exact ⟨rfl, hB.out⟩
  have l1 := Lib.hid (hs1 rfl); clear hs1
  go_wp2_with fail
  refine (rSmall60_c _ b _ Rb.out).mono ?_; rintro e w' ⟨sm, rfl, hs2, rfl⟩
  cases sm
  · clear hs2
    go_wp2_with fail
    go_ret
    exact ⟨rfl, hB.out⟩
  have l2 := Lib.hid (hs2 rfl); clear hs2
  go_wp2_with fail
  refine (rSmall60_c _ c _ Rc.out).mono ?_; rintro e w' ⟨sm, rfl, hs3, rfl⟩
  cases sm
  · clear hs3
    go_wp2_with fail
    go_ret
    exact ⟨rfl, hB.out⟩
  have l3 := Lib.hid (hs3 rfl); clear hs3
  go_wp2_with fail
  refine (Union_c _ _ a b _ Ra.out Rb.out (by have := l1.out; have := l2.out; omega)).mono ?_; rintro e w2 ⟨vu, rfl, hR, hb⟩
  have hB := Lib.hid (blwT hB.out hb); have Ra := RdS.ext Ra hb; have Rb := RdS.ext Rb hb; have Rc := RdS.ext Rc hb; clear hb
  have M := Lib.hid (unionM a b c)
  have lu : Hid ((setS (a ++ b)).length ≤ 120) := Lib.hid (by have h1 := setS_length (a ++ b); have h2 := l1.out; have h3 := l2.out; rw [List.length_append] at h1; omega)
  generalize setS (a ++ b) = U at *
  generalize hD : minusS a b = D at *
  obtain ⟨Au, cu, rfl, -⟩ := hR.shape
  have Ru := Lib.hid hR; clear hR
  go_wp2_with fail
  refine (Union_c _ _ b a _ Rb.out Ra.out (by have := l1.out; have := l2.out; omega)).mono ?_; rintro e w3 ⟨v3, rfl, hR, hb⟩
  have hB := Lib.hid (blwT hB.out hb); have Ra := RdS.ext Ra hb; have Rb := RdS.ext Rb hb; have Rc := RdS.ext Rc hb; have Ru := RdS.ext Ru hb; clear hb
  rw [M.out.comm] at hR
  have R3 := Lib.hid hR; clear hR
  go_wp2_with fail
  refine (rSame_c _ _ _ _ _ Ru.out R3.out).mono ?_; rintro e w4 ⟨rfl, q, hw⟩
  have hb : Below w3.heap.size w3 w4 := by rw [hw]; exact blwN (Below.refl _ _) _
  have hB := Lib.hid (blwT hB.out hb); have Ra := RdS.ext Ra hb; have Rb := RdS.ext Rb hb; have Rc := RdS.ext Rc hb; have Ru := RdS.ext Ru hb; clear hb hw R3
  rw [same_self]
  go_wp2_with fail
  refine (Union_c _ _ U c _ Ru.out Rc.out (by have := lu.out; have := l3.out; omega)).mono ?_; rintro e w5 ⟨v5, rfl, hR, hb⟩
  have hB := Lib.hid (blwT hB.out hb); have Ra := RdS.ext Ra hb; have Rb := RdS.ext Rb hb; have Rc := RdS.ext Rc hb; have Ru := RdS.ext Ru hb; clear hb
  have R5 := Lib.hid hR; clear hR
  go_wp2_with fail
  refine (Union_c _ _ b c _ Rb.out Rc.out (by have := l2.out; have := l3.out; omega)).mono ?_; rintro e w6 ⟨v6, rfl, hR, hb⟩
  have hB := Lib.hid (blwT hB.out hb); have Ra := RdS.ext Ra hb; have Rb := RdS.ext Rb hb; have Rc := RdS.ext Rc hb; have Ru := RdS.ext Ru hb; have R5 := RdS.ext R5 hb; clear hb
  have l6 : Hid ((setS (b ++ c)).length ≤ 120) := Lib.hid (by have h1 := setS_length (b ++ c); have h2 := l2.out; have h3 := l3.out; rw [List.length_append] at h1; omega)
  have R6 := Lib.hid hR; clear hR
  go_wp2_with fail
  refine (Union_c _ _ a _ _ Ra.out R6.out (by have := l1.out; have := l6.out; omega)).mono ?_; rintro e w7 ⟨v7, rfl, hR, hb⟩
  have hB := Lib.hid (blwT hB.out hb); have Ra := RdS.ext Ra hb; have Rb := RdS.ext Rb hb; have Rc := RdS.ext Rc hb; have Ru := RdS.ext Ru hb; have R5 := RdS.ext R5 hb; clear hb R6
  rw [← M.out.assoc] at hR
  have R7 := Lib.hid hR; clear hR
  go_wp2_with fail
  refine (rSame_c _ _ _ _ _ R5.out R7.out).mono ?_; rintro e w8 ⟨rfl, q, hw⟩
  have hb : Below w7.heap.size w7 w8 := by rw [hw]; exact blwN (Below.refl _ _) _
  have hB := Lib.hid (blwT hB.out hb); have Ra := RdS.ext Ra hb; have Rb := RdS.ext Rb hb; have Ru := RdS.ext Ru hb; clear hb hw R5 R7 Rc
  rw [same_self]
  go_wp2_with fail
  refine (Union_c _ _ U U _ Ru.out Ru.out (by have := lu.out; omega)).mono ?_; rintro e w9 ⟨v9, rfl, hR, hb⟩
  have hB := Lib.hid (blwT hB.out hb); have Ra := RdS.ext Ra hb; have Rb := RdS.ext Rb hb; have Ru := RdS.ext Ru hb; clear hb
  rw [M.out.idem] at hR
  have R9 := Lib.hid hR; clear hR
  go_wp2_with fail
  refine (rSame_c _ _ _ _ _ R9.out Ru.out).mono ?_; rintro e w10 ⟨rfl, q, hw⟩
  have hb : Below w9.heap.size w9 w10 := by rw [hw]; exact blwN (Below.refl _ _) _
  have hB := Lib.hid (blwT hB.out hb); have Ra := RdS.ext Ra hb; have Rb := RdS.ext Rb hb; have Ru := RdS.ext Ru hb; clear hb hw R9
  rw [same_self]
  go_wp2_with fail
  refine (Sorted_c _ _ _ Ru.out).mono ?_; rintro e w11 ⟨rfl, q, hw⟩
  have hb : Below w10.heap.size w10 w11 := by rw [hw]; exact blwN (Below.refl _ _) _
  have hB := Lib.hid (blwT hB.out hb); have Ra := RdS.ext Ra hb; have Rb := RdS.ext Rb hb; have Ru := RdS.ext Ru hb; clear hb hw
  rw [M.out.sorted]
  go_wp2_with fail
  refine (Minus_c _ _ a b _ Ra.out Rb.out).mono ?_; rintro e w12 ⟨vd, rfl, hR, hb⟩
  have hB := Lib.hid (blwT hB.out hb); have Ra := RdS.ext Ra hb; have Rb := RdS.ext Rb hb; have Ru := RdS.ext Ru hb; clear hb
  rw [hD] at hR
  obtain ⟨Ad, cd, rfl, -⟩ := hR.shape
  have Rd := Lib.hid hR; clear hR
  go_wp2_with fail
  have hle := hla.out
  go_loopw [9] (fun x wr => ∃ k : Nat, k ≤ a.length ∧ x = .int .i64 k ∧ ∃ q, wr = w12.drewN q) (fun x _ => a.length - (intOf x).toNat)
  case atStart => exact ⟨0, Nat.zero_le _, rfl, 0, rfl⟩
  case round =>
    obtain ⟨k, hk, rfl, q, rfl⟩ := hrel
    by_cases hlt : k < a.length
    · obtain ⟨bA, oA, hA', hcs⟩ := RdS.someC Ra.out (by omega)
      subst hA'
      have ck := hcs k hlt
      rw [getD_of hlt] at ck
      clear hcs
      obtain ⟨e1, e2⟩ := M.out.has k hlt
      have X1 := Lib.hid (fun n => Has_c _ D a[k] (w12.drewN n) (Rd.out.below (blwN (Below.refl _ _) _)))
      have X2 := Lib.hid (fun n => Has_c _ b a[k] (w12.drewN n) (Rb.out.below (blwN (Below.refl _ _) _)))
      have X3 := Lib.hid (fun n => Has_c _ U a[k] (w12.drewN n) (Ru.out.below (blwN (Below.refl _ _) _)))
      rw [e1] at X1
      rw [e2] at X3
      clear e1 e2
      generalize Lib.containsS b a[k] = r at *
      generalize a[k] = s at *
      cases r
      all_goals
        go_wp2_with fail
        go_quiet ((first | exact q_add (X1.out _) | exact q_add (X2.out _) | exact q_add (X3.out _)))
        go_wp2_with fail
        go_roundw
        case rel => exact ⟨k + 1, by omega, by go_num, _, rfl⟩
        case measure => simp [intOf]; omega
    · go_wp2_with fail
      have hb : Below w12.heap.size w12 (w12.drewN q) := blwN (Below.refl _ _) _
      have hB := Lib.hid (blwT hB.out hb); have Ra := RdS.ext Ra hb; have Rb := RdS.ext Rb hb; have Ru := RdS.ext Ru hb; have Rd := RdS.ext Rd hb; clear hb
      generalize w12.drewN q = w13 at *
      refine (Subset_c _ _ a U _ Ra.out Ru.out).mono ?_; rintro e w14 ⟨rfl, hb⟩
      have hB := Lib.hid (blwT hB.out hb); have Ra := RdS.ext Ra hb; have Rb := RdS.ext Rb hb; have Ru := RdS.ext Ru hb; have Rd := RdS.ext Rd hb; clear hb
      rw [M.out.sub1]
      go_wp2_with fail
      refine (Subset_c _ _ D a _ Rd.out Ra.out).mono ?_; rintro e w15 ⟨rfl, hb⟩
      have hB := Lib.hid (blwT hB.out hb); have Ra := RdS.ext Ra hb; have Rb := RdS.ext Rb hb; have Ru := RdS.ext Ru hb; clear hb
      rw [M.out.sub2]
      go_wp2_with fail
      refine (Subset_c _ _ a b _ Ra.out Rb.out).mono ?_; rintro e w16 ⟨rfl, hb⟩
      have hB := Lib.hid (blwT hB.out hb); have Ra := RdS.ext Ra hb; have Rb := RdS.ext Rb hb; have Ru := RdS.ext Ru hb; clear hb
      rw [hD]
      have hM := M.out.sub3
      have HS := Lib.hid hM; clear hM
      have hd0 : (D.isEmpty = true ∧ ((D.length : Int) == 0) = true) ∨ (D.isEmpty = false ∧ ((D.length : Int) == 0) = false) := by
        cases D with
        | nil => exact .inl ⟨rfl, rfl⟩
        | cons x r => exact .inr ⟨rfl, by rw [beq_eq_false_iff_ne, List.length_cons]; omega⟩
      have HD := Lib.hid hD; clear hD
      rcases hd0 with ⟨hd1, hd2⟩ | ⟨hd1, hd2⟩
      all_goals
        rw [hd1] at HS ⊢
        go_wp2_with fail
        refine (Subset_c _ _ a b _ Ra.out Rb.out).mono ?_; rintro e w17 ⟨rfl, hb⟩
        have hB := Lib.hid (blwT hB.out hb); have Rb := RdS.ext Rb hb; have Ru := RdS.ext Ru hb; clear hb
        rw [HD.out, hd1]
        go_wp2_with fail
        refine (Set_c _ b _ Rb.out).mono ?_; rintro e w18 ⟨v18, rfl, hR, hb⟩
        have hB := Lib.hid (blwT hB.out hb); have Ru := RdS.ext Ru hb; clear hb
        have R18 := Lib.hid hR; clear hR
        go_wp2_with fail
        refine (rSame_c _ _ _ _ _ Ru.out R18.out).mono ?_; rintro e w19 ⟨rfl, q2, hw⟩
        have hb : Below w18.heap.size w18 w19 := by rw [hw]; exact blwN (Below.refl _ _) _
        have hB := Lib.hid (blwT hB.out hb); clear hb hw
        rw [HS.out]
        go_wp2_with fail
        go_ret
        exact ⟨rfl, hB.out⟩

end Go.Proofs.YtegjcmoneemhjaaDoor
