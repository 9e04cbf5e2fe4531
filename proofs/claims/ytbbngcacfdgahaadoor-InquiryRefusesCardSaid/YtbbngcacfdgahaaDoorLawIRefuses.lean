/- Chapter 46: the law InquiryRefuses, walked (printed by tools/refuses.py). -/
import Derived.Test.YtbbngcacfdgahaaDoorInT
import Derived.Test.YtbbngcacfdgahaaDoorInU
namespace Go.Proofs.YtbbngcacfdgahaaDoor
open Go.RowKit
set_option linter.unusedVariables false
set_option linter.unusedSimpArgs false

theorem Ext.trans' {a b c : World} (h : Ext a b) (k : Below b.heap.size b c) : Below a.heap.size a c := Below.trans h (Below.mono k h.size)
theorem box_cell (w : World) (x : OpV) (j : Nat) (hj : j < 5) : (w.alloc (.cells #[.int .i64 x.kind, .int .i64 x.time, .int .i64 x.number, .bool x.acc, .string x.text] 41)).cell? ⟨w.heap.size, j, none⟩ = x.vals[j]? := by
  rw [cell_of_row _ _ j _ _ _ (heap_alloc_new w _)]
  match j, hj with
  | 0, _ => rfl
  | 1, _ => rfl
  | 2, _ => rfl
  | 3, _ => rfl
  | 4, _ => rfl
theorem one_ops (w : World) (x : OpV) (hx : OpW x) : RdOps (w.alloc (.cells #[.int .i64 x.kind, .int .i64 x.time, .int .i64 x.number, .bool x.acc, .string x.text] 41)) (.slice (some ⟨w.heap.size, 0, none⟩) 1 1) [x] := by
  refine ⟨by simp, by simpa using hx, .inr ⟨w.heap.size, 0, 1, rfl, Nat.le_refl _, by simp, fun j hj i hi => ?_⟩⟩
  have hj0 : j = 0 := by simpa using hj
  subst hj0
  rw [show 0 + 0 * 5 + i = i by omega]
  exact box_cell w x i hi
theorem newDeskB (w : World) (base : Nat) (hb : base ≤ w.heap.size) (p s : ByteArray) (bib limit fee : Int) : DeskI (w.alloc (.cells (deskCells p s bib limit fee) 65)) base w.heap.size (newD p s bib limit fee) (.slice none 0 0) (.slice none 0 0) :=
  let h := newDeskI w p s bib limit fee
  ⟨hb, h.blk, World.ownsRow_nil _ _ _ _, World.ownsRow_nil _ _ _ _, h.apart, h.few⟩

set_option maxHeartbeats 8000000 in
set_option maxRecDepth 100000 in
theorem InquiryRefuses_c (limit fee : Int) (v : Value) (ops : List OpV) (x : OpV) (u : Value) (rest : List OpV) (w : World) (ht : Tabs w) (hR : RdOps w v ops) (hx : OpW x) (hU : RdOps w u rest) :
    Calls Tryd.prog 7 #[.int .i64 limit, .int .i64 fee, v, .agg #[.int .i64 x.kind, .int .i64 x.time, .int .i64 x.number, .bool x.acc, .string x.text], u] w fun e w' => e = .returned (.bool true) ∧ Below w.heap.size w w' := by
  have HE0 : Hid (Ext w (w.alloc (.cells #[.int .i64 x.kind, .int .i64 x.time, .int .i64 x.number, .bool x.acc, .string x.text] 41))) := Lib.hid ((Ext.refl w).alloc _)
  have HC : Hid (∀ j, j < 5 → ∀ W, Below (w.alloc (.cells #[.int .i64 x.kind, .int .i64 x.time, .int .i64 x.number, .bool x.acc, .string x.text] 41)).heap.size (w.alloc (.cells #[.int .i64 x.kind, .int .i64 x.time, .int .i64 x.number, .bool x.acc, .string x.text] 41)) W → W.cell? ⟨w.heap.size, j, none⟩ = x.vals[j]?) := Lib.hid fun j hj W hW => by
    have h := box_cell w x j hj
    exact (Below.cell hW (World.block_lt_of_cell? _ _ (h.trans (List.getElem?_eq_getElem (by exact hj))))).trans h
  have HA := Lib.hid (awake_c _ (ht.below HE0.out))
  have HT := Lib.hid (ht.below HE0.out)
  have HRd := Lib.hid hR
  have HU := Lib.hid hU
  have HX := Lib.hid hx
  obtain ⟨A0, cap, rfl, hcl⟩ := hR.cells
  have HCo := Lib.hid hcl; clear hcl
  obtain ⟨A1, cap1, rfl, hcl⟩ := hU.cells
  have HCr := Lib.hid hcl; clear hcl
  have hlen := hR.1
  have hlen2 := hU.1
  clear ht hR hU hx
  go_enter Tryd.func7, Tryd.ntmps7
  go_wp2_with fail
  refine HA.out.mono ?_; rintro e w1 ⟨rfl, hb1⟩
  have HBw1 := Lib.hid hb1; clear hb1
  go_wp2_with fail
  refine (desk_c limit fee w1).mono ?_
  rintro e w2 (⟨h, rfl, rfl⟩ | ⟨h, rfl, rfl⟩)
  · go_wp2_with fail
    refine (desk_c limit fee w1).mono ?_
    rintro e w2 (⟨h', rfl, rfl⟩ | ⟨h', rfl, rfl⟩)
    rotate_left
    · exact absurd h' h
    clear h h'
    have hc0 : w1.cell? ⟨w.heap.size, 0, none⟩ = some (.int .i64 x.kind) := HC.out 0 (by omega) _ HBw1.out
    have hc1 : w1.cell? ⟨w.heap.size, 1, none⟩ = some (.int .i64 x.time) := HC.out 1 (by omega) _ HBw1.out
    have hc2 : w1.cell? ⟨w.heap.size, 2, none⟩ = some (.int .i64 x.number) := HC.out 2 (by omega) _ HBw1.out
    have hc3 : w1.cell? ⟨w.heap.size, 3, none⟩ = some (.bool x.acc) := HC.out 3 (by omega) _ HBw1.out
    have hc4 : w1.cell? ⟨w.heap.size, 4, none⟩ = some (.string x.text) := HC.out 4 (by omega) _ HBw1.out
    have HS1 := Lib.hid (rISmall_c _ ops 12 w1 (HRd.out.below (HE0.out.trans' HBw1.out)))
    have HS2 := Lib.hid (rISmall_c _ [x] 1 _ (one_ops w1 x HX.out))
    have HS3 := Lib.hid (rISmall_c _ rest 6 (w1.alloc (.cells #[.int .i64 x.kind, .int .i64 x.time, .int .i64 x.number, .bool x.acc, .string x.text] 41)) ((HU.out.below (HE0.out.trans' HBw1.out)).below ((Ext.refl _).alloc _)))
    cases hs1 : smallOps ops 12
    · rw [hs1] at HS1
      go_wp2_with fail
      refine HS1.out.mono ?_; rintro e w' ⟨rfl, rfl⟩
      go_wp2_with fail
      go_ret
      exact ⟨rfl, HE0.out.trans' HBw1.out⟩
    rw [hs1] at HS1
    go_wp2_with fail
    refine HS1.out.mono ?_; rintro e w' ⟨rfl, rfl⟩
    cases hs2 : smallOps [x] 1
    · rw [hs2] at HS2
      go_wp2_with fail
      refine HS2.out.mono ?_; rintro e w' ⟨rfl, rfl⟩
      go_wp2_with fail
      go_ret
      exact ⟨rfl, (HE0.out.trans' HBw1.out).alloc (HE0.out.trans' HBw1.out).size _⟩
    rw [hs2] at HS2
    go_wp2_with fail
    refine HS2.out.mono ?_; rintro e w' ⟨rfl, rfl⟩
    cases hs3 : smallOps rest 6
    · rw [hs3] at HS3
      go_wp2_with fail
      refine HS3.out.mono ?_; rintro e w' ⟨rfl, rfl⟩
      go_wp2_with fail
      go_ret
      exact ⟨rfl, (HE0.out.trans' HBw1.out).alloc (HE0.out.trans' HBw1.out).size _⟩
    rw [hs3] at HS3
    go_wp2_with fail
    refine HS3.out.mono ?_; rintro e w' ⟨rfl, rfl⟩
    go_wp2_with fail
    go_ret
    exact ⟨rfl, (HE0.out.trans' HBw1.out).alloc (HE0.out.trans' HBw1.out).size _⟩
  · have HD1 := newDeskI w1 strFinal strFree 7 limit fee
    have HBw2 := HBw1.out.alloc HBw1.out.size (.cells (deskCells strFinal strFree 7 limit fee) 65)
    have hA0 := HBw1.out.size
    have hA2 : (w1.alloc (.cells (deskCells strFinal strFree 7 limit fee) 65)).heap.size = w1.heap.size + 1 := World.size_alloc ..
    generalize w1.alloc (.cells (deskCells strFinal strFree 7 limit fee) 65) = w2 at *
    generalize w1.heap.size = A at *
    have HD1 := Lib.hid HD1
    have HBw2 := Lib.hid HBw2
    have hA0 := Lib.hid hA0
    clear HBw1
    go_wp2_with fail
    refine (desk_c limit fee w2).mono ?_
    rintro e w3 (⟨h', rfl, rfl⟩ | ⟨h', rfl, rfl⟩)
    · exact absurd h h'
    have HD2 := newDeskB w2 A (by omega) strFinal strFree 7 limit fee
    have HD1' := HD1.out.ext ((Ext.refl w2).alloc (.cells (deskCells strFinal strFree 7 limit fee) 65))
    have HBw3 := HBw2.out.alloc HBw2.out.size (.cells (deskCells strFinal strFree 7 limit fee) 65)
    have HOK := newD_ok h
    have hf0 : (newD strFinal strFree 7 limit fee).facts.length = 0 ∧ states (newD strFinal strFree 7 limit fee) = [] := ⟨rfl, rfl⟩
    clear h h' HD1
    generalize w2.alloc (.cells (deskCells strFinal strFree 7 limit fee) 65) = w3 at *
    generalize w2.heap.size = B at *
    generalize newD strFinal strFree 7 limit fee = d0 at *
    have H2 : Hid (Two w3 A A B d0 d0 (.slice none 0 0) (.slice none 0 0) (.slice none 0 0) (.slice none 0 0)) := Lib.hid ⟨HD1', HD2, by rintro g (rfl | e | e) (e' | e' | e') <;> first | omega | (simp [Value.ownBlock] at *)⟩
    clear HD1' HD2 hA2
    have HBw3 := Lib.hid HBw3
    have HOK := Lib.hid HOK
    have hf0 := Lib.hid hf0
    clear HBw2
    have hc0 : w3.cell? ⟨w.heap.size, 0, none⟩ = some (.int .i64 x.kind) := HC.out 0 (by omega) _ HBw3.out
    have hc1 : w3.cell? ⟨w.heap.size, 1, none⟩ = some (.int .i64 x.time) := HC.out 1 (by omega) _ HBw3.out
    have hc2 : w3.cell? ⟨w.heap.size, 2, none⟩ = some (.int .i64 x.number) := HC.out 2 (by omega) _ HBw3.out
    have hc3 : w3.cell? ⟨w.heap.size, 3, none⟩ = some (.bool x.acc) := HC.out 3 (by omega) _ HBw3.out
    have hc4 : w3.cell? ⟨w.heap.size, 4, none⟩ = some (.string x.text) := HC.out 4 (by omega) _ HBw3.out
    have HS1 := Lib.hid (rISmall_c _ ops 12 w3 (HRd.out.below (HE0.out.trans' HBw3.out)))
    have HS2 := Lib.hid (rISmall_c _ [x] 1 _ (one_ops w3 x HX.out))
    have HS3 := Lib.hid (rISmall_c _ rest 6 (w3.alloc (.cells #[.int .i64 x.kind, .int .i64 x.time, .int .i64 x.number, .bool x.acc, .string x.text] 41)) ((HU.out.below (HE0.out.trans' HBw3.out)).below ((Ext.refl _).alloc _)))
    cases hs1 : smallOps ops 12
    · rw [hs1] at HS1
      go_wp2_with fail
      refine HS1.out.mono ?_; rintro e w' ⟨rfl, rfl⟩
      go_wp2_with fail
      go_ret
      exact ⟨rfl, HE0.out.trans' HBw3.out⟩
    rw [hs1] at HS1
    go_wp2_with fail
    refine HS1.out.mono ?_; rintro e w' ⟨rfl, rfl⟩
    cases hs2 : smallOps [x] 1
    · rw [hs2] at HS2
      go_wp2_with fail
      refine HS2.out.mono ?_; rintro e w' ⟨rfl, rfl⟩
      go_wp2_with fail
      go_ret
      exact ⟨rfl, (HE0.out.trans' HBw3.out).alloc (HE0.out.trans' HBw3.out).size _⟩
    rw [hs2] at HS2
    go_wp2_with fail
    refine HS2.out.mono ?_; rintro e w' ⟨rfl, rfl⟩
    cases hs3 : smallOps rest 6
    · rw [hs3] at HS3
      go_wp2_with fail
      refine HS3.out.mono ?_; rintro e w' ⟨rfl, rfl⟩
      go_wp2_with fail
      go_ret
      exact ⟨rfl, (HE0.out.trans' HBw3.out).alloc (HE0.out.trans' HBw3.out).size _⟩
    rw [hs3] at HS3
    have hl1 := small_len hs1
    have hl3 := small_len hs3
    clear hs1 hs2 hs3
    go_wp2_with fail
    refine HS3.out.mono ?_; rintro e w' ⟨rfl, rfl⟩
    have H4 := Lib.hid (H2.out.ext ((Ext.refl w3).alloc (.cells #[.int .i64 x.kind, .int .i64 x.time, .int .i64 x.number, .bool x.acc, .string x.text] 41)))
    have HBw4 := Lib.hid (HBw3.out.alloc HBw3.out.size (.cells #[.int .i64 x.kind, .int .i64 x.time, .int .i64 x.number, .bool x.acc, .string x.text] 41))
    clear HBw3 H2 hc0 hc1 hc2 hc3 hc4 HS1 HS2 HS3
    generalize w3.alloc (.cells #[.int .i64 x.kind, .int .i64 x.time, .int .i64 x.number, .bool x.acc, .string x.text] 41) = w4 at *
    go_wp2_with fail
    go_loopw [13] (fun i wr => ∃ k : Nat, k ≤ ops.length ∧ i = .int .i64 k ∧ Below (w.alloc (.cells #[.int .i64 x.kind, .int .i64 x.time, .int .i64 x.number, .bool x.acc, .string x.text] 41)).heap.size (w.alloc (.cells #[.int .i64 x.kind, .int .i64 x.time, .int .i64 x.number, .bool x.acc, .string x.text] 41)) wr ∧ ∃ la fa lb fb, Two wr A A B (playV d0 (ops.take k)) (playV d0 (ops.take k)) la fa lb fb) (fun i _ => ops.length - (intOf i).toNat)
    case atStart => exact ⟨0, Nat.zero_le _, rfl, HBw4.out, _, _, _, _, by rw [List.take_zero]; exact H4.out⟩
    case round =>
      obtain ⟨k, hk, rfl, hb, la, fa, lb, fb, h2⟩ := hrel
      have HBr := Lib.hid hb
      have H2 := Lib.hid h2
      clear hb h2
      by_cases hlt : k < ops.length
      · obtain ⟨b, off, rfl, hbl, hcap, hc⟩ := HCo.out (by omega)
        have hcell : ∀ W, Below (w.alloc (.cells #[.int .i64 x.kind, .int .i64 x.time, .int .i64 x.number, .bool x.acc, .string x.text] 41)).heap.size (w.alloc (.cells #[.int .i64 x.kind, .int .i64 x.time, .int .i64 x.number, .bool x.acc, .string x.text] 41)) W → ∀ i, i < 5 → W.cell? ⟨b, off + k * 5 + i, none⟩ = (ops[k]).vals[i]? := fun W hW i hi => ((HE0.out.trans' hW).cell (p := ⟨b, off + k * 5 + i, none⟩) hbl).trans (hc k hlt i hi)
        have hts := (HRd.out.2.1 _ (List.getElem_mem hlt)).s
        have HP := Lib.hid (play_take d0 ops k hlt)
        have Hok2 := Lib.hid (play_ok (ops.take k) HOK.out)
        have hfl2 : (playV d0 (ops.take k)).facts.length ≤ 12 := by
          have := play_facts (ops.take k) d0
          rw [hf0.out.1] at this; rw [List.length_take] at this; omega
        have CA := do_c A A _ la fa ops[k].kind ops[k].time ops[k].number ops[k].acc ops[k].text wr H2.out.a Hok2.out (by omega) hts (HT.out.below HBr.out)
        generalize playV d0 (ops.take k) = dy at *
        have HP := Lib.hid HP.out
        have HCe := Lib.hid hcell
        have CA := Lib.hid CA
        generalize ops[k] = y at *
        have hy5 : (⟨y.kind, y.time, y.number, y.acc, y.text⟩ : OpV) = y := rfl
        rw [hy5] at CA
        clear hcell hc
        have c0 : wr.cell? ⟨b, off + k * 5, none⟩ = some (.int .i64 y.kind) := HCe.out _ HBr.out 0 (by omega)
        have c1 : wr.cell? ⟨b, off + k * 5 + 1, none⟩ = some (.int .i64 y.time) := HCe.out _ HBr.out 1 (by omega)
        have c2 : wr.cell? ⟨b, off + k * 5 + 2, none⟩ = some (.int .i64 y.number) := HCe.out _ HBr.out 2 (by omega)
        have c3 : wr.cell? ⟨b, off + k * 5 + 3, none⟩ = some (.bool y.acc) := HCe.out _ HBr.out 3 (by omega)
        have c4 : wr.cell? ⟨b, off + k * 5 + 4, none⟩ = some (.string y.text) := HCe.out _ HBr.out 4 (by omega)
        clear hy5
        go_wp2_with fail
        refine CA.out.mono ?_; rintro e w5 ⟨rfl, hkp, la', fa', hd', hr2⟩
        have HBr5 := Lib.hid (HBr.out.trans (hkp.bel.mono hA0.out))
        have H25 := Lib.hid (H2.out.left hkp hd' hr2)
        clear c0 c1 c2 c3 c4 CA hkp hd' hr2 H2 HBr
        have CB := Lib.hid (do_c A B _ lb fb y.kind y.time y.number y.acc y.text w5 H25.out.b Hok2.out (by omega) hts (HT.out.below HBr5.out))
        have hy5 : (⟨y.kind, y.time, y.number, y.acc, y.text⟩ : OpV) = y := rfl
        rw [hy5] at CB
        clear hy5
        have c0 : w5.cell? ⟨b, off + k * 5, none⟩ = some (.int .i64 y.kind) := HCe.out _ HBr5.out 0 (by omega)
        have c1 : w5.cell? ⟨b, off + k * 5 + 1, none⟩ = some (.int .i64 y.time) := HCe.out _ HBr5.out 1 (by omega)
        have c2 : w5.cell? ⟨b, off + k * 5 + 2, none⟩ = some (.int .i64 y.number) := HCe.out _ HBr5.out 2 (by omega)
        have c3 : w5.cell? ⟨b, off + k * 5 + 3, none⟩ = some (.bool y.acc) := HCe.out _ HBr5.out 3 (by omega)
        have c4 : w5.cell? ⟨b, off + k * 5 + 4, none⟩ = some (.string y.text) := HCe.out _ HBr5.out 4 (by omega)
        go_wp2_with fail
        refine CB.out.mono ?_; rintro e w6 ⟨rfl, hkp, lb', fb', hd', hr2⟩
        have HBr6 := Lib.hid (HBr5.out.trans (hkp.bel.mono hA0.out))
        have H26 := Lib.hid (H25.out.symm.left hkp hd' hr2).symm
        clear c0 c1 c2 c3 c4 CB hkp hd' hr2 H25 HBr5
        generalize (doV dy y).2.1 = r1 at *
        generalize (doV dy y).2.2 = r2 at *
        go_wp2_with fail
        go_roundw
        case rel => exact ⟨k + 1, by omega, by go_num, HBr6.out, _, _, _, _, by rw [HP.out]; exact H26.out⟩
        case measure => simp [intOf]; omega
      · obtain rfl : k = ops.length := by omega
        rw [List.take_length] at H2
        have Hok := Lib.hid (play_ok ops HOK.out)
        have hfl : (playV d0 ops).facts.length ≤ 12 := by
          have := play_facts ops d0
          rw [hf0.out.1] at this; omega
        generalize playV d0 ops = dk at *
        have hc0 : wr.cell? ⟨w.heap.size, 0, none⟩ = some (.int .i64 x.kind) := HC.out 0 (by omega) _ HBr.out
        have hc1 : wr.cell? ⟨w.heap.size, 1, none⟩ = some (.int .i64 x.time) := HC.out 1 (by omega) _ HBr.out
        have hc2 : wr.cell? ⟨w.heap.size, 2, none⟩ = some (.int .i64 x.number) := HC.out 2 (by omega) _ HBr.out
        have hc3 : wr.cell? ⟨w.heap.size, 3, none⟩ = some (.bool x.acc) := HC.out 3 (by omega) _ HBr.out
        have hc4 : wr.cell? ⟨w.heap.size, 4, none⟩ = some (.string x.text) := HC.out 4 (by omega) _ HBr.out
        have CA := Lib.hid (do_c A A _ la fa x.kind x.time x.number x.acc x.text wr H2.out.a Hok.out (by omega) HX.out.s (HT.out.below HBr.out))
        have hy5 : (⟨x.kind, x.time, x.number, x.acc, x.text⟩ : OpV) = x := rfl
        rw [hy5] at CA
        clear hy5
        go_wp2_with fail
        refine CA.out.mono ?_; rintro e w5 ⟨rfl, hkp, la', fa', hd', hr2⟩
        have HBr5 := Lib.hid (HBr.out.trans (hkp.bel.mono hA0.out))
        have H25 := Lib.hid (H2.out.left hkp hd' hr2)
        clear hkp hd' hr2 CA hc0 hc1 hc2 hc3 hc4 H2 HBr
        by_cases he : (doV dk x).2.2 = 0
        · rw [he]
          go_wp2_with fail
          go_ret
          exact ⟨rfl, HE0.out.trans' HBr5.out⟩
        have e1 := doV_err he
        rw [e1] at H25
        clear e1
        have hq : ((doV dk x).2.2 == 0) = false := by rw [beq_eq_false_iff_ne]; exact he
        clear he
        generalize (doV dk x).2.2 = q2 at *
        generalize (doV dk x).2.1 = q1 at *
        go_wp2_with fail
        go_loopw [16] (fun i wr => ∃ k : Nat, k ≤ rest.length ∧ i = .int .i64 k ∧ Below (w.alloc (.cells #[.int .i64 x.kind, .int .i64 x.time, .int .i64 x.number, .bool x.acc, .string x.text] 41)).heap.size (w.alloc (.cells #[.int .i64 x.kind, .int .i64 x.time, .int .i64 x.number, .bool x.acc, .string x.text] 41)) wr ∧ ∃ la fa lb fb, Two wr A A B (playV dk (rest.take k)) (playV dk (rest.take k)) la fa lb fb) (fun i _ => rest.length - (intOf i).toNat)
        case atStart => exact ⟨0, Nat.zero_le _, rfl, HBr5.out, _, _, _, _, by rw [List.take_zero]; exact H25.out⟩
        case round =>
          obtain ⟨k, hk, rfl, hb, la, fa, lb, fb, h2⟩ := hrel
          have HBr := Lib.hid hb
          have H2 := Lib.hid h2
          clear hb h2 H25 HBr5
          by_cases hlt : k < rest.length
          · obtain ⟨b, off, rfl, hbl, hcap, hc⟩ := HCr.out (by omega)
            have hcell : ∀ W, Below (w.alloc (.cells #[.int .i64 x.kind, .int .i64 x.time, .int .i64 x.number, .bool x.acc, .string x.text] 41)).heap.size (w.alloc (.cells #[.int .i64 x.kind, .int .i64 x.time, .int .i64 x.number, .bool x.acc, .string x.text] 41)) W → ∀ i, i < 5 → W.cell? ⟨b, off + k * 5 + i, none⟩ = (rest[k]).vals[i]? := fun W hW i hi => ((HE0.out.trans' hW).cell (p := ⟨b, off + k * 5 + i, none⟩) hbl).trans (hc k hlt i hi)
            have hts := (HU.out.2.1 _ (List.getElem_mem hlt)).s
            have HP := Lib.hid (play_take dk rest k hlt)
            have Hok2 := Lib.hid (play_ok (rest.take k) Hok.out)
            have hfl2 : (playV dk (rest.take k)).facts.length ≤ 18 := by
              have := play_facts (rest.take k) dk
              rw [List.length_take] at this; omega
            have CA := do_c A A _ la fa rest[k].kind rest[k].time rest[k].number rest[k].acc rest[k].text wr H2.out.a Hok2.out (by omega) hts (HT.out.below HBr.out)
            generalize playV dk (rest.take k) = dy at *
            have HP := Lib.hid HP.out
            have HCe := Lib.hid hcell
            have CA := Lib.hid CA
            generalize rest[k] = y at *
            have hy5 : (⟨y.kind, y.time, y.number, y.acc, y.text⟩ : OpV) = y := rfl
            rw [hy5] at CA
            clear hcell hc
            have c0 : wr.cell? ⟨b, off + k * 5, none⟩ = some (.int .i64 y.kind) := HCe.out _ HBr.out 0 (by omega)
            have c1 : wr.cell? ⟨b, off + k * 5 + 1, none⟩ = some (.int .i64 y.time) := HCe.out _ HBr.out 1 (by omega)
            have c2 : wr.cell? ⟨b, off + k * 5 + 2, none⟩ = some (.int .i64 y.number) := HCe.out _ HBr.out 2 (by omega)
            have c3 : wr.cell? ⟨b, off + k * 5 + 3, none⟩ = some (.bool y.acc) := HCe.out _ HBr.out 3 (by omega)
            have c4 : wr.cell? ⟨b, off + k * 5 + 4, none⟩ = some (.string y.text) := HCe.out _ HBr.out 4 (by omega)
            clear hy5
            go_wp2_with fail
            refine CA.out.mono ?_; rintro e w5 ⟨rfl, hkp, la', fa', hd', hr2⟩
            have HBr5 := Lib.hid (HBr.out.trans (hkp.bel.mono hA0.out))
            have H25 := Lib.hid (H2.out.left hkp hd' hr2)
            clear c0 c1 c2 c3 c4 CA hkp hd' hr2 H2 HBr
            have CB := Lib.hid (do_c A B _ lb fb y.kind y.time y.number y.acc y.text w5 H25.out.b Hok2.out (by omega) hts (HT.out.below HBr5.out))
            have hy5 : (⟨y.kind, y.time, y.number, y.acc, y.text⟩ : OpV) = y := rfl
            rw [hy5] at CB
            clear hy5
            have c0 : w5.cell? ⟨b, off + k * 5, none⟩ = some (.int .i64 y.kind) := HCe.out _ HBr5.out 0 (by omega)
            have c1 : w5.cell? ⟨b, off + k * 5 + 1, none⟩ = some (.int .i64 y.time) := HCe.out _ HBr5.out 1 (by omega)
            have c2 : w5.cell? ⟨b, off + k * 5 + 2, none⟩ = some (.int .i64 y.number) := HCe.out _ HBr5.out 2 (by omega)
            have c3 : w5.cell? ⟨b, off + k * 5 + 3, none⟩ = some (.bool y.acc) := HCe.out _ HBr5.out 3 (by omega)
            have c4 : w5.cell? ⟨b, off + k * 5 + 4, none⟩ = some (.string y.text) := HCe.out _ HBr5.out 4 (by omega)
            go_wp2_with fail
            refine CB.out.mono ?_; rintro e w6 ⟨rfl, hkp, lb', fb', hd', hr2⟩
            have HBr6 := Lib.hid (HBr5.out.trans (hkp.bel.mono hA0.out))
            have H26 := Lib.hid (H25.out.symm.left hkp hd' hr2).symm
            clear c0 c1 c2 c3 c4 CB hkp hd' hr2 H25 HBr5
            generalize (doV dy y).2.1 = r1 at *
            generalize (doV dy y).2.2 = r2 at *
            go_wp2_with fail
            go_roundw
            case rel => exact ⟨k + 1, by omega, by go_num, HBr6.out, _, _, _, _, by rw [HP.out]; exact H26.out⟩
            case measure => simp [intOf]; omega
          · obtain rfl : k = rest.length := by omega
            rw [List.take_length] at H2
            have Hok2 := Lib.hid (play_ok rest Hok.out)
            have hfl2 : (playV dk rest).facts.length ≤ 18 := by
              have := play_facts rest dk
              omega
            generalize playV dk rest = dz at *
            have CA := Lib.hid (Line_c A A dz la fa wr H2.out.a)
            go_wp2_with fail
            refine CA.out.mono ?_; rintro e w6 ⟨rfl, hb6⟩
            have H26 := Lib.hid (H2.out.ext hb6)
            have HB6 := Lib.hid (HBr.out.trans (hb6.mono HBr.out.size))
            clear CA hb6 H2 HBr
            have CB := Lib.hid (Line_c A B dz lb fb w6 H26.out.b)
            go_wp2_with fail
            refine CB.out.mono ?_; rintro e w7 ⟨rfl, hb7⟩
            have H27 := Lib.hid (H26.out.ext hb7)
            have HB7 := Lib.hid (HB6.out.trans (hb7.mono HB6.out.size))
            clear CB hb7 H26 HB6
            have CA := Lib.hid (Facts_c A A dz la fa w7 H27.out.a (by omega))
            go_wp2_with fail
            refine CA.out.mono ?_; rintro e w8 ⟨va, rfl, hva, hb8⟩
            have H28 := Lib.hid (H27.out.ext hb8)
            have HB8 := Lib.hid (HB7.out.trans (hb8.mono HB7.out.size))
            have Hva := Lib.hid hva
            clear CA hb8 hva H27 HB7
            have CB := Lib.hid (Facts_c A B dz lb fb w8 H28.out.b (by omega))
            go_wp2_with fail
            refine CB.out.mono ?_; rintro e w9 ⟨vb, rfl, hvb, hb9⟩
            have H29 := Lib.hid (H28.out.ext hb9)
            have HB9 := Lib.hid (HB8.out.trans (hb9.mono HB8.out.size))
            have CS := Lib.hid (rISame_c va vb dz.facts w9 (rdF_of (owns_ext Hva.out hb9)) (rdF_of hvb) (by omega))
            clear CB hb9 hvb Hva H28 HB8
            go_wp2_with fail
            refine CS.out.mono ?_; rintro e w10 ⟨rfl, n, rfl⟩
            have HF1 := Lib.hid (Fees_c A A dz la fa _ (H29.out.ext ((Ext.refl w9).drewN n)).a Hok2.out.fee0 Hok2.out.fee1)
            clear CS
            go_wp2_with fail
            refine HF1.out.mono ?_; rintro e w11 ⟨rfl, hb11⟩
            have HB10 := Lib.hid (belowN n HB9.out)
            have H211 := Lib.hid ((H29.out.ext ((Ext.refl w9).drewN n)).ext hb11)
            have HB11 := Lib.hid (HB10.out.trans (hb11.mono HB10.out.size))
            clear hb11 HF1
            have HF2 := Lib.hid (Fees_c A B dz lb fb _ H211.out.b Hok2.out.fee0 Hok2.out.fee1)
            go_wp2_with fail
            refine HF2.out.mono ?_; rintro e w12 ⟨rfl, hb12⟩
            have HB12 := Lib.hid (HB11.out.trans (hb12.mono HB11.out.size))
            clear hb12 HF2
            go_wp2_with fail
            go_ret
            exact ⟨rfl, HE0.out.trans' HB12.out⟩
end Go.Proofs.YtbbngcacfdgahaaDoor
