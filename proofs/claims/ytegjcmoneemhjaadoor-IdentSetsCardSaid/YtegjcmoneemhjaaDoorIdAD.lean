/- The reference's Union, Minus, Subset: their contracts. -/
import Derived.Test.YtegjcmoneemhjaaDoorIdAC
import Derived.Test.YtegjcmoneemhjaaDoorLawUnions
namespace Go.Proofs.YtegjcmoneemhjaaDoor
open Go.RowKit
set_option linter.unusedVariables false
set_option linter.unusedSimpArgs false

set_option maxHeartbeats 1000000 in
theorem rUnion_c (va vb : Value) (ps qs : List ByteArray) (w : World) (ha : RdS w va ps) (hb : RdS w vb qs) (h16 : (ps.length + qs.length) * 16 ≤ 140737488355328) :
    Calls Tryd.prog 38 #[va, vb] w (SetPost (ps ++ qs) w) := by
  obtain ⟨A, c1, rfl, -⟩ := ha.shape
  obtain ⟨B, c2, rfl, -⟩ := hb.shape
  have H1 := Lib.hid ha.2.1
  have H2 := Lib.hid hb.2.1
  have HA := Lib.hid ha; have HB := Lib.hid hb; clear ha hb
  have O1 := Lib.hid (own_new0 w _ rfl (Nat.le_refl _))
  have hb0 : Hid (Below w.heap.size w (w.alloc (.cells #[] 9))) := Lib.hid ((Below.refl _ _).alloc (Nat.le_refl _) _)
  have RA := Lib.hid (HA.out.below hb0.out)
  go_enter Tryd.func38, Tryd.ntmps38
  go_wp2_with (first
    | (at_builtin
       refine wpList_app rfl _ _ rfl w.heap.size _ 0 [] rfl O1.out _ ps rfl RA.out ?g1 ?g2 ?_
       case g1 => omega
       case g2 => simp
       intro v1 w1 hown1 hbb1
       have hB1 := Lib.hid (hb0.out.trans hbb1)
       have RB := Lib.hid (HB.out.below hB1.out)
       clear hbb1)
    | (at_builtin
       refine wpList_app rfl _ _ rfl w.heap.size _ _ _ rfl hown1 _ qs rfl RB.out ?g1 ?g2 ?_
       case g1 => omega
       case g2 => exact hB1.out.size
       intro v2 w2 hown2 hbb2
       have hB2 := Lib.hid (hB1.out.trans hbb2)
       clear hbb2))
  have R2 : Hid (RdS w2 v2 (ps ++ qs)) := Lib.hid (RdS.cat (by simpa using hown2) h16 H1.out H2.out)
  clear hown2 hown1
  refine (rSet_c _ _ _ R2.out).mono ?_
  rintro e w3 ⟨v3, rfl, hR, hb⟩
  have hB := Lib.hid (blwT hB2.out hb)
  have HR := Lib.hid hR
  clear hb hR
  go_wp2_with fail
  go_ret
  exact ⟨_, rfl, HR.out, hB.out⟩

theorem minusS_lt (ps qs : List ByteArray) : (minusS ps qs).Pairwise Lt := by
  unfold minusS minusL
  rw [List.pairwise_map]
  exact ((setL_lt _).filter _).imp (fun h => by unfold Lt; rw [ofL_data, ofL_data]; exact h)
def keepS (qs ps : List ByteArray) : List ByteArray := ps.filter fun s => !Lib.containsS qs s
theorem setS_keep (ps qs : List ByteArray) : setS (keepS qs ps) = minusS ps qs :=
  setS_of (minusS_lt _ _) (fun s => by
    rw [mem_minusS]
    unfold keepS
    rw [List.mem_filter]
    cases h : Lib.containsS qs s
    · simp only [Bool.not_false, and_true]
      constructor
      · exact fun h => h.1
      · exact fun h' => ⟨h', fun q => by rw [(Lib.containsS_iff _ _).2 q] at h; cases h⟩
    · have := (Lib.containsS_iff _ _).1 h
      simp [this])
theorem keepS_succ {qs ps : List ByteArray} {k : Nat} (h : k < ps.length) : keepS qs (ps.take (k + 1)) = keepS qs (ps.take k) ++ (if Lib.containsS qs ps[k] then [] else [ps[k]]) := by
  unfold keepS
  rw [List.take_succ_eq_append_getElem h, List.filter_append]
  cases h : Lib.containsS qs ps[k] <;> simp [h]
theorem keepS_length (qs ps : List ByteArray) : (keepS qs ps).length ≤ ps.length := List.length_filter_le _ _

set_option maxHeartbeats 2000000 in
set_option maxRecDepth 100000 in
theorem rMinus_c (va vb : Value) (ps qs : List ByteArray) (w : World) (ha : RdS w va ps) (hb : RdS w vb qs) :
    Calls Tryd.prog 40 #[va, vb] w (MinusPost ps qs w) := by
  obtain ⟨A, c1, rfl, -⟩ := ha.shape
  obtain ⟨B, c2, rfl, -⟩ := hb.shape
  have hle := ha.1
  have H1 := Lib.hid ha.2.1
  have HA := Lib.hid ha; have HB := Lib.hid hb; clear ha hb
  go_enter Tryd.func40, Tryd.ntmps40
  go_wp2_with fail
  go_loopw [5, 6] (fun o x wr => ∃ k : Nat, k ≤ ps.length ∧ x = .int .i64 k ∧ wr.ownsRow w.heap.size 9 1 o (keepS qs (ps.take k)).length (strVals (keepS qs (ps.take k))) ∧ Below w.heap.size w wr) (fun _ x _ => ps.length - (intOf x).toNat)
  case atStart => exact ⟨0, Nat.zero_le _, rfl, own_new0 w _ rfl (Nat.le_refl _), (Below.refl _ _).alloc (Nat.le_refl _) _⟩
  case round =>
    obtain ⟨k, hk, rfl, hown0, hB0⟩ := hrel
    have hown := Lib.hid hown0; clear hown0
    have hB := Lib.hid hB0; clear hB0
    by_cases hlt : k < ps.length
    · obtain ⟨bs, os, rfl, hc⟩ := RdS.someC (HA.out.below hB.out) (by omega)
      have ck := hc k hlt
      rw [getD_of hlt] at ck
      clear hc
      have HH := Lib.hid (rHas_c _ qs ps[k] wr (HB.out.below hB.out))
      have hks := Lib.hid (keepS_succ (qs := qs) hlt)
      have hkl : (keepS qs (ps.take k)).length ≤ k := by have := keepS_length qs (ps.take k); rw [List.length_take] at this; omega
      have hxz : ps[k].size ≤ 140737488351232 := H1.out _ (List.getElem_mem hlt)
      generalize keepS qs (ps.take k) = M at *
      generalize ps[k] = x at *
      cases hcx : Lib.containsS qs x
      · rw [hcx] at HH hks
        go_wp2_with fail
        refine HH.out.mono ?_; rintro e w' ⟨rfl, rfl⟩
        go_wp2_with (at_builtin; refine wpList_app rfl _ _ rfl w.heap.size _ _ _ rfl (hown.out.alloc _) _ [x] rfl (rds_one _ _ x hxz (by simp)) ?g1 ?g2 ?_)
        case g1 => simp only [List.length_singleton]; omega
        case g2 => have := hB.out.size; simp; omega
        intro v2 w2 hown2 hbb2
        have hB2 := Lib.hid ((hB.out.alloc hB.out.size (.cells #[.string x] 9)).trans hbb2)
        clear hbb2
        have Hown2 := Lib.hid hown2; clear hown2
        go_wp2_with fail
        go_roundw
        case rel => exact ⟨k + 1, by omega, by go_num, by rw [hks.out]; simpa using Hown2.out, hB2.out⟩
        case measure => simp [intOf]; omega
      · rw [hcx] at HH hks
        go_wp2_with fail
        refine HH.out.mono ?_; rintro e w' ⟨rfl, rfl⟩
        go_wp2_with fail
        go_roundw
        case rel => exact ⟨k + 1, by omega, by go_num, by rw [hks.out]; simpa using hown.out, hB.out⟩
        case measure => simp [intOf]; omega
    · have e : ps.take k = ps := List.take_of_length_le (by omega)
      rw [e] at hown
      have R2 := Lib.hid (RdS.own hown.out (by have := keepS_length qs ps; omega) (fun s hs => H1.out s (List.mem_filter.1 hs).1))
      clear hown
      go_wp2_with fail
      refine (rSet_c _ _ _ R2.out).mono ?_
      rintro e w3 ⟨v3, rfl, hR, hb⟩
      have hB := Lib.hid (blwT hB.out hb)
      rw [setS_keep] at hR
      have HR := Lib.hid hR
      clear hb hR
      go_wp2_with fail
      go_ret
      exact ⟨_, rfl, HR.out, hB.out⟩

set_option maxHeartbeats 400000 in
theorem rSubset_c (va vb : Value) (ps qs : List ByteArray) (w : World) (ha : RdS w va ps) (hb : RdS w vb qs) :
    Calls Tryd.prog 42 #[va, vb] w (SubsetPost ps qs w) := by
  obtain ⟨A, c1, rfl, -⟩ := ha.shape
  obtain ⟨B, c2, rfl, -⟩ := hb.shape
  have HM := Lib.hid (rMinus_c _ _ ps qs w ha hb); clear ha hb
  go_enter Tryd.func42, Tryd.ntmps42
  go_wp2_with fail
  refine HM.out.mono ?_
  rintro e w1 ⟨v1, rfl, hR, hb⟩
  obtain ⟨A', c', rfl, -⟩ := hR.shape
  have hB := Lib.hid hb
  clear hb hR
  have hl : (minusS ps qs).isEmpty = ((minusS ps qs).length == 0) := by cases minusS ps qs <;> rfl
  have HL := Lib.hid hl; clear hl
  by_cases h0 : (minusS ps qs).length = 0
  · rw [h0] at HL ⊢
    go_wp2_with fail
    go_ret
    exact ⟨ret_bool (by rw [HL.out]; rfl), hB.out⟩
  · have hb0 : (((minusS ps qs).length : Int) == 0) = false := by rw [beq_eq_false_iff_ne]; omega
    go_wp2_with fail
    go_ret
    exact ⟨ret_bool (by rw [HL.out]; simp [h0]), hB.out⟩

end Go.Proofs.YtegjcmoneemhjaaDoor
