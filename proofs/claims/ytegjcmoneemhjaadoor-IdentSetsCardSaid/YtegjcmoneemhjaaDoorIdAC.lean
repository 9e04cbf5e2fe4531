/- The contract of the reference's Set. -/
import Derived.Test.YtegjcmoneemhjaaDoorIdAB
namespace Go.Proofs.YtegjcmoneemhjaaDoor
open Go.RowKit
set_option linter.unusedVariables false
set_option linter.unusedSimpArgs false

/-- The list that is built: a row that reads as L. -/
structure OutI (w : World) (o : Value) (L : List ByteArray) (wr : World) : Prop where
  shape : ∃ b off cap, o = .slice (some ⟨b, off, none⟩) L.length cap ∧ L.length ≤ cap ∧ cap ≤ maxLen ∧ ∀ j (h : j < L.length), wr.cell? ⟨b, off + j, none⟩ = some (.string L[j])
  below : Below w.heap.size w wr

theorem own_new0 (w : World) (E : Obj) (hE : E = .cells #[] 9 (0, 0)) {base : Nat} (hb : base ≤ w.heap.size) : (w.alloc E).ownsRow base 9 1 (.slice (some ⟨w.heap.size, 0, none⟩) 0 0) 0 (strVals []) := by
  subst hE
  exact ⟨rfl, .inr ⟨w.heap.size, 0, #[], rfl, hb, heap_alloc_new w _, Nat.le_refl _, Nat.zero_le _, rfl, rfl⟩⟩

theorem rds_one (w : World) (b : Nat) (x : ByteArray) (hx : x.size ≤ 140737488351232) (h : w.cell? ⟨b, 0, none⟩ = some (.string x)) : RdS w (.slice (some ⟨b, 0, none⟩) 1 1) [x] :=
  rds_some (L := [x]) (by simp) (fun s hs => by rw [List.mem_singleton.1 hs]; exact hx) (Nat.le_refl _) (fun j hj => by
    obtain rfl : j = 0 := by simpa using hj
    exact h)
theorem cell_grown {W W' : World} {g h : Nat} {x : Value} (hg : W.grownBy W' (Value.slice (some ⟨g, 0, none⟩) 0 0).ownBlock) (hc : W.cell? ⟨h, 0, none⟩ = some x) (hne : h ≠ g) : W'.cell? ⟨h, 0, none⟩ = some x := by
  rw [← hc]
  exact World.cell?_of_block (a := ⟨h, 0, none⟩) (hg.block h (World.block_lt_of_cell? W _ hc) (by simp [Value.ownBlock]; exact hne))
theorem rds_take {w : World} {b off co n : Nat} {L : List ByteArray} (h1 : L.length * 16 ≤ 140737488355328) (h2 : ∀ s ∈ L, s.size ≤ 140737488351232) (hco : L.length ≤ co) (hn : n ≤ L.length) (hc : ∀ j (h : j < L.length), w.cell? ⟨b, off + j, none⟩ = some (.string L[j])) : RdS w (.slice (some ⟨b, off, none⟩) n co) (L.take n) := by
  have hl : (L.take n).length = n := by rw [List.length_take]; omega
  have := rds_some (w := w) (b := b) (off := off) (cap := co) (L := L.take n) (by omega) (fun s hs => h2 s (List.mem_of_mem_take hs)) (by omega) (fun j hj => by
    rw [hc j (by omega)]; simp)
  rwa [hl] at this
theorem rds_drop {w : World} {b off co n : Nat} {L : List ByteArray} (h1 : L.length * 16 ≤ 140737488355328) (h2 : ∀ s ∈ L, s.size ≤ 140737488351232) (hco : L.length ≤ co) (hn : n ≤ L.length) (hc : ∀ j (h : j < L.length), w.cell? ⟨b, off + j, none⟩ = some (.string L[j])) : RdS w (.slice (some ⟨b, off + n, none⟩) (L.length - n) (co - n)) (L.drop n) := by
  have hl : (L.drop n).length = L.length - n := by rw [List.length_drop]
  have := rds_some (w := w) (b := b) (off := off + n) (cap := co - n) (L := L.drop n) (by omega) (fun s hs => h2 s (List.mem_of_mem_drop hs)) (by omega) (fun j hj => by
    rw [Nat.add_assoc, hc (n + j) (by omega)]; simp)
  rwa [hl] at this
theorem rds_dropIf {w : World} {b off co n : Nat} {L : List ByteArray} (h1 : L.length * 16 ≤ 140737488355328) (h2 : ∀ s ∈ L, s.size ≤ 140737488351232) (hco : L.length ≤ co) (hn : n ≤ L.length) (hc : ∀ j (h : j < L.length), w.cell? ⟨b, off + j, none⟩ = some (.string L[j])) : RdS w (.slice (if co = n then some ⟨b, off, none⟩ else some ⟨b, off + n, none⟩) (L.length - n) (co - n)) (L.drop n) := by
  by_cases e : co = n
  · have e1 : L.length - n = 0 := by omega
    rw [List.drop_of_length_le (by omega), e1]
    exact ⟨by simp, by simp, .inl ⟨rfl, _, _, rfl⟩⟩
  · rw [if_neg e]; exact rds_drop h1 h2 hco hn hc
theorem out_of_own {w wr : World} {base N : Nat} {v : Value} {M : List ByteArray} (h : wr.ownsRow base 9 1 v N (strVals M)) (hN : N = M.length) (h0 : 0 < N) (hb : Below w.heap.size w wr) : OutI w v M wr := by
  subst hN
  refine ⟨?_, hb⟩
  obtain ⟨-, ⟨-, e⟩ | ⟨g, cap, cur, rfl, -, hblk, hcap, hcm, hsz, htk⟩⟩ := h
  · omega
  · refine ⟨g, 0, cap, rfl, hcap, hcm, fun j hj => ?_⟩
    have e : (cur.toList.take (M.length * 1))[j]? = (strVals M)[j]? := by rw [htk]
    rw [List.getElem?_take_of_lt (by omega)] at e
    rw [cell_of_row wr g (0 + j) cur 9 (0, 0) hblk, Nat.zero_add, ← Array.getElem?_toList, e]
    unfold strVals
    rw [List.getElem?_map, List.getElem?_eq_getElem hj]; rfl

set_option maxHeartbeats 4000000 in
set_option maxRecDepth 100000 in
theorem rSet_c (v : Value) (ss : List ByteArray) (w : World) (h : RdS w v ss) : Calls Tryd.prog 34 #[v] w (SetPost ss w) := by
  obtain ⟨A, cap, rfl, hsh0⟩ := h.shape
  have hle := h.1
  have hsz := Lib.hid h.2.1
  have HSH := Lib.hid hsh0; clear hsh0 h
  go_enter Tryd.func34, Tryd.ntmps34
  go_wp2_with fail
  go_loopw [3, 4] (fun o x wr => ∃ k : Nat, k ≤ ss.length ∧ x = .int .i64 k ∧ OutI w o (setS (ss.take k)) wr) (fun _ x _ => ss.length - (intOf x).toNat)
  case atStart =>
    refine ⟨0, Nat.zero_le _, rfl, ?_⟩
    rw [List.take_zero, setS_nil]
    exact ⟨⟨_, _, 0, rfl, Nat.le_refl _, Nat.zero_le _, fun j h => by simp at h⟩, (Below.refl _ _).alloc (Nat.le_refl _) _⟩
  case round =>
    obtain ⟨k, hk, rfl, hO⟩ := hrel
    have hB := Lib.hid hO.below
    obtain ⟨b, off, co, rfl, hco, hcm, hcells0⟩ := hO.shape
    have hcells := Lib.hid hcells0; clear hcells0 hO
    have hLl : (setS (ss.take k)).length ≤ k := by have := setS_length (ss.take k); rw [List.length_take] at this; omega
    by_cases hlt : k < ss.length
    · obtain ⟨bs, os, rfl, hc⟩ := HSH.out (by omega)
      have ck0 := hc k hlt
      rw [getD_of hlt] at ck0
      have ck := (hB.out.cell (World.block_lt_of_cell? w _ ck0)).trans ck0
      clear hc ck0
      have hins := Lib.hid (fun at' => set_insert (ss := ss) (i := k) (k := at') hlt)
      have hthere := Lib.hid (fun at' => set_there (ss := ss) (i := k) (k := at') hlt)
      have hLs := Lib.hid (setS_lt (ss.take k))
      have hLz : Hid (∀ s ∈ setS (ss.take k), s.size ≤ 140737488351232) := Lib.hid (fun s hs => hsz.out s (List.mem_of_mem_take ((mem_setS _ _).1 hs)))
      have hxz : ss[k].size ≤ 140737488351232 := hsz.out _ (List.getElem_mem hlt)
      generalize setS (ss.take k) = L at *
      generalize ss[k] = x at *
      have hLl2 : L.length * 16 ≤ 140737488355328 := by omega
      go_wp2_with fail
      go_loopw [5] (fun a wq => ∃ n : Nat, n ≤ L.length ∧ a = .int .i64 n ∧ (∀ j (h : j < L.length), j < n → Lt L[j] x) ∧ ∃ q, wq = wr.drewN q) (fun a _ => L.length - (intOf a).toNat)
      case atStart => exact ⟨0, Nat.zero_le _, rfl, fun _ _ h => absurd h (Nat.not_lt_zero _), 0, rfl⟩
      case round =>
        obtain ⟨n, hn, rfl, hlow0, q, rfl⟩ := hrel
        have hlow := Lib.hid hlow0; clear hlow0
        by_cases hnl : n < L.length
        · have cn := hcells.out n hnl
          have hlow1 := Lib.hid (fun (hq : Lt L[n] x) j (h : j < L.length) (hj : j < n + 1) => (show Lt L[j] x from by
            by_cases e : j = n
            · subst e; exact hq
            · exact hlow.out j h (by omega)))
          have hI := Lib.hid (fun (hq : Op.bytesLess L[n].data.toList x.data.toList = false ∧ L[n] ≠ x) => hins.out n hn hlow.out (fun _ => hq))
          have hT := Lib.hid (hthere.out n hnl)
          generalize L[n] = s at *
          cases hb0 : Op.bytesLess s.toList x.toList
          · have hb := Lib.hid hb0
            have hbN : ((n : Int) == (L.length : Int)) = false := by rw [beq_eq_false_iff_ne]; omega
            cases he0 : (s.toList == x.toList)
            · have hI := Lib.hid (hI.out ⟨by rw [← Lib.toList_data, ← Lib.toList_data]; exact hb0, fun e => by rw [e] at he0; simp at he0⟩)
              go_wp2_with fail
              go_quiet (fail)
              go_wp2_with fail
              go_quiet (fail)
              go_wp2_with fail
              have hb4 : ∀ m1 m2, Below wr.heap.size wr (((wr.drewN q).drewN m1).drewN m2) := fun m1 m2 => blwN (blwN (blwN (Below.refl _ _) _) _) _
              obtain ⟨w4, hw4, hb4⟩ : ∃ w4, Hid (w4 = _) ∧ Below wr.heap.size wr w4 := ⟨_, Lib.hid rfl, hb4 _ _⟩
              rw [← hw4.out]
              clear hw4
              have ck4 := (hb4.cell (World.block_lt_of_cell? wr _ ck)).trans ck
              have SS := Lib.hid (fun W (hW : Below w4.heap.size w4 W) => (⟨hW, (hW.cell (World.block_lt_of_cell? w4 _ ck4)).trans ck4⟩ : Below w4.heap.size w4 W ∧ W.cell? ⟨bs, os + k, none⟩ = some (.string x)))
              have hnI : (0 : Int) ≤ (n : Int) := by omega
              have hnI2 : (n : Int) ≤ (L.length : Int) := by omega
              have hnI3 : (n : Int) ≤ (co : Int) := by omega
              have O1 := Lib.hid (own_new0 w4 _ rfl (Nat.le_refl _))
              have O2 := Lib.hid (O1.out.alloc (.cells #[.string x] 9))
              have O3 : Hid (((w4.alloc (.cells #[.string x] 9)).alloc (.cells #[] 9)).ownsRow w4.heap.size 9 1 (.slice (some ⟨w4.heap.size + 1, 0, none⟩) 0 0) 0 (strVals [])) := Lib.hid (by
                have := own_new0 (w4.alloc (.cells #[.string x] 9)) _ rfl (base := w4.heap.size) (by simp)
                simpa using this)
              have C2 : Hid (((w4.alloc (.cells #[] 9)).alloc (.cells #[.string x] 9)).cell? ⟨w4.heap.size + 1, 0, none⟩ = some (.string x)) := Lib.hid (by simp)
              have C3 : Hid (((w4.alloc (.cells #[.string x] 9)).alloc (.cells #[] 9)).cell? ⟨w4.heap.size, 0, none⟩ = some (.string x)) := Lib.hid (by simp)
              have RT := Lib.hid (fun W (hW : Below w4.heap.size w4 W ∧ W.cell? ⟨bs, os + k, none⟩ = some (.string x)) => rds_take (w := W) (b := b) (off := off) hLl2 hLz.out hco hn (fun j h => by
                have c0 := hcells.out j h
                have c1 := (hb4.cell (World.block_lt_of_cell? wr _ c0)).trans c0
                exact (hW.1.cell (World.block_lt_of_cell? w4 _ c1)).trans c1))
              have RDr := Lib.hid (fun W (hW : Below w4.heap.size w4 W ∧ W.cell? ⟨bs, os + k, none⟩ = some (.string x)) => rds_dropIf (w := W) (b := b) (off := off) hLl2 hLz.out hco hn (fun j h => by
                have c0 := hcells.out j h
                have c1 := (hb4.cell (World.block_lt_of_cell? wr _ c0)).trans c0
                exact (hW.1.cell (World.block_lt_of_cell? w4 _ c1)).trans c1))
              have AB := Lib.hid (fun (W W' : World) v n xs (hg : W.grownBy W' v.ownBlock) (ho : W.ownsRow w4.heap.size 9 1 v n xs) (hW : Below w4.heap.size w4 W ∧ W.cell? ⟨bs, os + k, none⟩ = some (.string x)) => hW.1.trans (below_own ho hg hW.1.size))
              have lt0 : (0 + (L.take n).length) = n := by rw [List.length_take]; omega
              have ld0 : (L.drop n).length = L.length - n := by rw [List.length_drop]
              have K0 := Lib.hid (SS.out _ ((Below.refl _ w4).drew))
              have KA := Lib.hid (fun W o (hW : Below w4.heap.size w4 W ∧ W.cell? ⟨bs, os + k, none⟩ = some (.string x)) => SS.out _ (hW.1.alloc hW.1.size o))
              go_region_held3 (fun W => Below w4.heap.size w4 W ∧ W.cell? ⟨bs, os + k, none⟩ = some (.string x)) (first | exact K0.out | exact SS.out _ (by assumption) | exact KA.out _ _ (by assumption) | exact KA.out w4.drew _ (by assumption) | exact KA.out (w4.alloc _).drew _ (by assumption)) (first
                | (refine step_app rfl _ _ rfl w4.heap.size _ 0 [] rfl O1.out _ (L.take n) rfl ?gr ?ga ?gb ?_
                   case gr => exact RT.out _ (by assumption)
                   case ga => omega
                   case gb => simp
                   intro v1 w1 hown1 hg1
                   have hS1 : Below w4.heap.size w4 w1 := AB.out _ _ _ _ _ hg1 O1.out (by assumption)
                   clear hg1)
                | (refine step_app rfl _ _ rfl w4.heap.size _ 0 [] rfl O2.out _ (L.take n) rfl ?gr ?ga ?gb ?_
                   case gr => exact RT.out _ (by assumption)
                   case ga => omega
                   case gb => (simp; try omega)
                   intro v1 w1 hown1 hg1
                   have hS1 : Below w4.heap.size w4 w1 := AB.out _ _ _ _ _ hg1 O2.out (by assumption)
                   have hx1 : w1.cell? ⟨w4.heap.size + 1, 0, none⟩ = some (.string x) := cell_grown hg1 C2.out (by omega)
                   clear hg1)
                | (refine step_app rfl _ _ rfl w4.heap.size _ 0 [] rfl O3.out _ (L.take n) rfl ?gr ?ga ?gb ?_
                   case gr => exact RT.out _ (by assumption)
                   case ga => omega
                   case gb => (simp; try omega)
                   intro v1 w1 hown1 hg1
                   have hS1 : Below w4.heap.size w4 w1 := AB.out _ _ _ _ _ hg1 O3.out (by assumption)
                   have hx1 : w1.cell? ⟨w4.heap.size, 0, none⟩ = some (.string x) := cell_grown hg1 C3.out (by omega)
                   clear hg1)
                | (refine step_app rfl _ _ rfl w4.heap.size _ _ _ rfl (hown1.alloc _) _ [x] rfl (rds_one _ _ x hxz (by simp)) ?ga ?gb ?_
                   case ga => (simp only [List.length_singleton]; omega)
                   case gb => (have := hS1.size; simp; omega)
                   intro v2 w2 hown2 hg2
                   have hS2 : Below w4.heap.size w4 w2 := AB.out _ _ _ _ _ hg2 (hown1.alloc _) (by assumption)
                   clear hg2)
                | (refine step_app rfl _ _ rfl w4.heap.size _ _ _ rfl hown1 _ [x] rfl (rds_one _ _ x hxz hx1) ?ga ?gb ?_
                   case ga => (simp only [List.length_singleton]; omega)
                   case gb => exact hS1.size
                   intro v2 w2 hown2 hg2
                   have hS2 : Below w4.heap.size w4 w2 := AB.out _ _ _ _ _ hg2 hown1 (by assumption)
                   clear hg2)
                | (refine step_app rfl _ _ rfl w4.heap.size _ _ _ rfl hown2 _ (L.drop n) rfl ?gr ?ga ?gb ?_
                   case gr => exact RDr.out _ (by assumption)
                   case ga => (simp only [List.length_singleton]; omega)
                   case gb => exact hS2.size
                   intro v3 w3 hown3 hg3
                   have hS3 : Below w4.heap.size w4 w3 := AB.out _ _ _ _ _ hg3 hown2 (by assumption)
                   clear hg3))
              all_goals
                go_wp2_with fail
                go_roundw
                case rel => exact ⟨k + 1, by omega, by go_num, by
                  rw [hI.out]
                  exact out_of_own (M := insAt L n x) hown3 (by rw [insAt_length hn, List.length_singleton]; omega) (by simp only [List.length_singleton]; omega) ((hB.out.trans (hb4.mono hB.out.size)).trans (hS3.mono (by have := hB.out.size; have := hb4.size; omega)))⟩
                case measure => simp [intOf]; omega
            · have hT := Lib.hid (hT.out (by
                have e := congrArg ofL (eq_of_beq he0)
                rwa [Lib.toList_data, Lib.toList_data, ofL_toList, ofL_toList] at e))
              go_wp2_with fail
              go_quiet (fail)
              go_wp2_with fail
              go_quiet (fail)
              go_wp2_with fail
              go_roundw
              case rel => exact ⟨k + 1, by omega, by go_num, by rw [hT.out]; exact ⟨⟨b, off, co, rfl, hco, hcm, hcells.out⟩, blwN hB.out _⟩⟩
              case measure => simp [intOf]; omega
          · have hlt' := Lib.hid (hlow1.out (by unfold Lt; rw [← Lib.toList_data, ← Lib.toList_data]; exact hb0))
            go_wp2_with fail
            go_quiet (fail)
            go_wp2_with fail
            go_roundw
            case rel => exact ⟨n + 1, by omega, by go_num, hlt'.out, _, rfl⟩
            case measure => simp [intOf]; omega
        · have hI := Lib.hid (hins.out n hn hlow.out (fun h => absurd h hnl))
          have hbN : ((n : Int) == (L.length : Int)) = true := by rw [beq_iff_eq]; omega
          go_wp2_with fail
          go_quiet (fail)
          go_wp2_with fail
          go_quiet (fail)
          go_wp2_with fail
          have hb4 : ∀ m1 m2, Below wr.heap.size wr (((wr.drewN q).drewN m1).drewN m2) := fun m1 m2 => blwN (blwN (blwN (Below.refl _ _) _) _) _
          obtain ⟨w4, hw4, hb4⟩ : ∃ w4, Hid (w4 = _) ∧ Below wr.heap.size wr w4 := ⟨_, Lib.hid rfl, hb4 _ _⟩
          rw [← hw4.out]
          clear hw4
          have ck4 := (hb4.cell (World.block_lt_of_cell? wr _ ck)).trans ck
          have SS := Lib.hid (fun W (hW : Below w4.heap.size w4 W) => (⟨hW, (hW.cell (World.block_lt_of_cell? w4 _ ck4)).trans ck4⟩ : Below w4.heap.size w4 W ∧ W.cell? ⟨bs, os + k, none⟩ = some (.string x)))
          have hnI : (0 : Int) ≤ (n : Int) := by omega
          have hnI2 : (n : Int) ≤ (L.length : Int) := by omega
          have hnI3 : (n : Int) ≤ (co : Int) := by omega
          have O1 := Lib.hid (own_new0 w4 _ rfl (Nat.le_refl _))
          have O2 := Lib.hid (O1.out.alloc (.cells #[.string x] 9))
          have O3 : Hid (((w4.alloc (.cells #[.string x] 9)).alloc (.cells #[] 9)).ownsRow w4.heap.size 9 1 (.slice (some ⟨w4.heap.size + 1, 0, none⟩) 0 0) 0 (strVals [])) := Lib.hid (by
            have := own_new0 (w4.alloc (.cells #[.string x] 9)) _ rfl (base := w4.heap.size) (by simp)
            simpa using this)
          have C2 : Hid (((w4.alloc (.cells #[] 9)).alloc (.cells #[.string x] 9)).cell? ⟨w4.heap.size + 1, 0, none⟩ = some (.string x)) := Lib.hid (by simp)
          have C3 : Hid (((w4.alloc (.cells #[.string x] 9)).alloc (.cells #[] 9)).cell? ⟨w4.heap.size, 0, none⟩ = some (.string x)) := Lib.hid (by simp)
          have RT := Lib.hid (fun W (hW : Below w4.heap.size w4 W ∧ W.cell? ⟨bs, os + k, none⟩ = some (.string x)) => rds_take (w := W) (b := b) (off := off) hLl2 hLz.out hco hn (fun j h => by
            have c0 := hcells.out j h
            have c1 := (hb4.cell (World.block_lt_of_cell? wr _ c0)).trans c0
            exact (hW.1.cell (World.block_lt_of_cell? w4 _ c1)).trans c1))
          have RDr := Lib.hid (fun W (hW : Below w4.heap.size w4 W ∧ W.cell? ⟨bs, os + k, none⟩ = some (.string x)) => rds_dropIf (w := W) (b := b) (off := off) hLl2 hLz.out hco hn (fun j h => by
            have c0 := hcells.out j h
            have c1 := (hb4.cell (World.block_lt_of_cell? wr _ c0)).trans c0
            exact (hW.1.cell (World.block_lt_of_cell? w4 _ c1)).trans c1))
          have AB := Lib.hid (fun (W W' : World) v n xs (hg : W.grownBy W' v.ownBlock) (ho : W.ownsRow w4.heap.size 9 1 v n xs) (hW : Below w4.heap.size w4 W ∧ W.cell? ⟨bs, os + k, none⟩ = some (.string x)) => hW.1.trans (below_own ho hg hW.1.size))
          have lt0 : (0 + (L.take n).length) = n := by rw [List.length_take]; omega
          have ld0 : (L.drop n).length = L.length - n := by rw [List.length_drop]
          have K0 := Lib.hid (SS.out _ ((Below.refl _ w4).drew))
          have KA := Lib.hid (fun W o (hW : Below w4.heap.size w4 W ∧ W.cell? ⟨bs, os + k, none⟩ = some (.string x)) => SS.out _ (hW.1.alloc hW.1.size o))
          go_region_held3 (fun W => Below w4.heap.size w4 W ∧ W.cell? ⟨bs, os + k, none⟩ = some (.string x)) (first | exact K0.out | exact SS.out _ (by assumption) | exact KA.out _ _ (by assumption) | exact KA.out w4.drew _ (by assumption) | exact KA.out (w4.alloc _).drew _ (by assumption)) (first
            | (refine step_app rfl _ _ rfl w4.heap.size _ 0 [] rfl O1.out _ (L.take n) rfl ?gr ?ga ?gb ?_
               case gr => exact RT.out _ (by assumption)
               case ga => omega
               case gb => simp
               intro v1 w1 hown1 hg1
               have hS1 : Below w4.heap.size w4 w1 := AB.out _ _ _ _ _ hg1 O1.out (by assumption)
               clear hg1)
            | (refine step_app rfl _ _ rfl w4.heap.size _ 0 [] rfl O2.out _ (L.take n) rfl ?gr ?ga ?gb ?_
               case gr => exact RT.out _ (by assumption)
               case ga => omega
               case gb => (simp; try omega)
               intro v1 w1 hown1 hg1
               have hS1 : Below w4.heap.size w4 w1 := AB.out _ _ _ _ _ hg1 O2.out (by assumption)
               have hx1 : w1.cell? ⟨w4.heap.size + 1, 0, none⟩ = some (.string x) := cell_grown hg1 C2.out (by omega)
               clear hg1)
            | (refine step_app rfl _ _ rfl w4.heap.size _ 0 [] rfl O3.out _ (L.take n) rfl ?gr ?ga ?gb ?_
               case gr => exact RT.out _ (by assumption)
               case ga => omega
               case gb => (simp; try omega)
               intro v1 w1 hown1 hg1
               have hS1 : Below w4.heap.size w4 w1 := AB.out _ _ _ _ _ hg1 O3.out (by assumption)
               have hx1 : w1.cell? ⟨w4.heap.size, 0, none⟩ = some (.string x) := cell_grown hg1 C3.out (by omega)
               clear hg1)
            | (refine step_app rfl _ _ rfl w4.heap.size _ _ _ rfl (hown1.alloc _) _ [x] rfl (rds_one _ _ x hxz (by simp)) ?ga ?gb ?_
               case ga => (simp only [List.length_singleton]; omega)
               case gb => (have := hS1.size; simp; omega)
               intro v2 w2 hown2 hg2
               have hS2 : Below w4.heap.size w4 w2 := AB.out _ _ _ _ _ hg2 (hown1.alloc _) (by assumption)
               clear hg2)
            | (refine step_app rfl _ _ rfl w4.heap.size _ _ _ rfl hown1 _ [x] rfl (rds_one _ _ x hxz hx1) ?ga ?gb ?_
               case ga => (simp only [List.length_singleton]; omega)
               case gb => exact hS1.size
               intro v2 w2 hown2 hg2
               have hS2 : Below w4.heap.size w4 w2 := AB.out _ _ _ _ _ hg2 hown1 (by assumption)
               clear hg2)
            | (refine step_app rfl _ _ rfl w4.heap.size _ _ _ rfl hown2 _ (L.drop n) rfl ?gr ?ga ?gb ?_
               case gr => exact RDr.out _ (by assumption)
               case ga => (simp only [List.length_singleton]; omega)
               case gb => exact hS2.size
               intro v3 w3 hown3 hg3
               have hS3 : Below w4.heap.size w4 w3 := AB.out _ _ _ _ _ hg3 hown2 (by assumption)
               clear hg3))
          all_goals
            go_wp2_with fail
            go_roundw
            case rel => exact ⟨k + 1, by omega, by go_num, by
              rw [hI.out]
              exact out_of_own (M := insAt L n x) hown3 (by rw [insAt_length hn, List.length_singleton]; omega) (by simp only [List.length_singleton]; omega) ((hB.out.trans (hb4.mono hB.out.size)).trans (hS3.mono (by have := hB.out.size; have := hb4.size; omega)))⟩
            case measure => simp [intOf]; omega
    · have e : ss.take k = ss := List.take_of_length_le (by omega)
      rw [e] at hcells hco hLl ⊢
      go_wp2_with fail
      go_ret
      exact ⟨_, rfl, rds_some (by have := setS_length ss; omega) (fun s hs => hsz.out s ((mem_setS _ _).1 hs)) hco hcells.out, hB.out⟩

end Go.Proofs.YtegjcmoneemhjaaDoor
