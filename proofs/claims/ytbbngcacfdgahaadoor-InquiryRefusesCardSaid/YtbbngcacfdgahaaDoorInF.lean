/- Chapter 46: the contract of Fees. -/
import Derived.Test.YtbbngcacfdgahaaDoorInE
namespace Go.Proofs.YtbbngcacfdgahaaDoor
open Go.RowKit
set_option linter.unusedVariables false
set_option linter.unusedSimpArgs false

set_option maxHeartbeats 2000000 in
set_option maxRecDepth 100000 in
theorem Fees_c (base D : Nat) (d : DeskV) (lv fv : Value) (w : World) (h : DeskI w base D d lv fv) (h0 : 0 ≤ d.fee) (h1 : d.fee ≤ 1000000) :
    Calls Tryd.prog 14 #[.pointer (some ⟨D, 0, none⟩)] w fun e w' => e = .returned (.int .i64 (feesV d d.list.length)) ∧ Below w.heap.size w w' := by
  have hbound := Lib.hid (feesV_bound d h0 h1)
  have hsucc := Lib.hid (feesV_succ d)
  obtain ⟨A, cap, rfl, hrow⟩ := h.row
  have HR := Lib.hid hrow
  have c19 : w.cell? ⟨D, 19, none⟩ = some (.slice A d.list.length cap) := h.cell 19
  have c15 : w.cell? ⟨D, 15, none⟩ = some (.int .i64 d.fee) := h.cell 15
  have hf := h.few
  clear h hrow
  go_enter Tryd.func14, Tryd.ntmps14
  go_wp2_with fail
  go_loopw [3, 11] (fun s x wr => ∃ k : Nat, k ≤ d.list.length ∧ x = .int .i64 k ∧ s = .int .i64 (feesV d k) ∧ Below w.heap.size w wr) (fun _ x _ => d.list.length - (intOf x).toNat)
  case atStart => exact ⟨0, Nat.zero_le _, rfl, rfl, Below.refl _ _⟩
  case round =>
    obtain ⟨k, hk, rfl, rfl, hB0⟩ := hrel
    have hB := Lib.hid hB0
    by_cases hlt : k < d.list.length
    · obtain ⟨g, rfl, hc⟩ := HR.out (by omega)
      have hs := hsucc.out k hlt
      have hb1 := hbound.out k (by omega)
      have hcell : ∀ j, j < 16 → wr.cell? ⟨g, k * 16 + j, none⟩ = (d.list[k]).vals[j]? := fun j hj => by
        have c := hc k hlt j hj
        have : ∃ u, w.cell? ⟨g, k * 16 + j, none⟩ = some u := by
          rw [c, List.getElem?_eq_getElem (by rw [vals_length]; exact hj)]; exact ⟨_, rfl⟩
        obtain ⟨u, hu⟩ := this
        rw [hB.out.cell (World.block_lt_of_cell? w _ hu), c]
      have e15 := (hB.out.cell (World.block_lt_of_cell? w _ c15)).trans c15
      generalize d.list[k] = q at *
      clear hc hB0
      have f0 : wr.cell? ⟨g, k * 16, none⟩ = some (.int .i64 q.filing.kind) := hcell 0 (by omega)
      have f1 : wr.cell? ⟨g, k * 16 + 1, none⟩ = some (.int .i64 q.filing.rev) := hcell 1 (by omega)
      have f2 : wr.cell? ⟨g, k * 16 + 2, none⟩ = some (.bool q.filing.gone) := hcell 2 (by omega)
      have f3 : wr.cell? ⟨g, k * 16 + 3, none⟩ = some (.string q.filing.phase) := hcell 3 (by omega)
      have f4 : wr.cell? ⟨g, k * 16 + 4, none⟩ = some (.string q.filing.segment) := hcell 4 (by omega)
      have f5 : wr.cell? ⟨g, k * 16 + 5, none⟩ = some (.int .i64 q.filing.bib) := hcell 5 (by omega)
      have f6 : wr.cell? ⟨g, k * 16 + 6, none⟩ = some (.string q.filing.panel) := hcell 6 (by omega)
      have f7 : wr.cell? ⟨g, k * 16 + 7, none⟩ = some (.string q.filing.judge) := hcell 7 (by omega)
      have f8 : wr.cell? ⟨g, k * 16 + 8, none⟩ = some (.int .i64 q.filing.index) := hcell 8 (by omega)
      have f9 : wr.cell? ⟨g, k * 16 + 9, none⟩ = some (.string q.filing.fed) := hcell 9 (by omega)
      have f10 : wr.cell? ⟨g, k * 16 + 10, none⟩ = some (.string q.filing.name) := hcell 10 (by omega)
      have f11 : wr.cell? ⟨g, k * 16 + 11, none⟩ = some (.int .i64 q.filing.value) := hcell 11 (by omega)
      have f12 : wr.cell? ⟨g, k * 16 + 12, none⟩ = some (.string q.filing.text) := hcell 12 (by omega)
      have f13 : wr.cell? ⟨g, k * 16 + 13, none⟩ = some (.bool q.filing.flag) := hcell 13 (by omega)
      have f14 : wr.cell? ⟨g, k * 16 + 14, none⟩ = some (.int .i64 q.state) := hcell 14 (by omega)
      have f15 : wr.cell? ⟨g, k * 16 + 15, none⟩ = some (.string q.line) := hcell 15 (by omega)
      clear hcell
      have e15a : ∀ o, (wr.alloc o).cell? ⟨D, 15, none⟩ = some (.int .i64 d.fee) := fun o => (World.cell?_alloc_lt _ _ _ (World.block_lt_of_cell? wr _ e15)).trans e15
      have HS := Lib.hid hs; clear hs
      have hb2 : feesV d k ≤ 99000000 := by have := hb1.2; omega
      have hb3 := hb1.1
      clear hb1
      generalize hF : feesV d k = F at *
      have HF := Lib.hid hF; clear hF
      generalize q.state = st at *
      by_cases h3 : st = 3
      · subst h3
        have HS2 := Lib.hid HS.out
        rw [if_pos rfl] at HS2
        clear HS
        go_wp2_with fail
        go_roundw
        case rel => exact ⟨k + 1, by omega, by go_num, by rw [HS2.out], hB.out.alloc hB.out.size _⟩
        case measure => simp [intOf]; omega
      · have HS2 := Lib.hid HS.out
        rw [if_neg h3] at HS2
        have hb : (st == 3) = false := by rw [beq_eq_false_iff_ne]; exact h3
        clear HS
        go_wp2_with fail
        go_roundw
        case rel => exact ⟨k + 1, by omega, by go_num, by rw [HS2.out], hB.out.alloc hB.out.size _⟩
        case measure => simp [intOf]; omega
    · obtain rfl : k = d.list.length := by omega
      go_wp2_with fail
      go_ret
      exact ⟨rfl, hB.out⟩

end Go.Proofs.YtbbngcacfdgahaaDoor
