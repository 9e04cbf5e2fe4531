/- Chapter 46: a desk behind an alloc and behind a draw. -/
import Derived.Test.YtbbngcacfdgahaaDoorInJ
namespace Go.Proofs.YtbbngcacfdgahaaDoor
open Go.RowKit
set_option linter.unusedVariables false
set_option linter.unusedSimpArgs false

theorem DeskI.alloc {w : World} {base D : Nat} {d : DeskV} {lv fv : Value} (h : DeskI w base D d lv fv) (o : Obj) : DeskI (w.alloc o) base D d lv fv :=
  ⟨h.low, by
    have hD : D < w.heap.size := (Array.getElem?_eq_some_iff.1 h.blk).1
    rw [Below.heap_alloc w o D hD]; exact h.blk, h.list.alloc o, h.facts.alloc o, h.apart, h.few⟩
theorem DeskI.drew {w : World} {base D : Nat} {d : DeskV} {lv fv : Value} (h : DeskI w base D d lv fv) : DeskI w.drew base D d lv fv := ⟨h.low, h.blk, h.list, h.facts, h.apart, h.few⟩


theorem DeskI.pushFact {W w2 : World} {base D : Nat} {d : DeskV} {lv fv v' : Value} (h : DeskI W base D d lv fv) (f : FactV)
    (hown : w2.ownsRow base 58 14 v' (d.facts.length + 1) (d.facts.flatMap FactV.vals ++ f.vals)) (hg : W.grownBy w2 fv.ownBlock) (hat : v'.ownBlock = fv.ownBlock ∨ v'.ownBlock = some W.heap.size) :
    w2.cell? ⟨D, 20, none⟩ = some fv ∧ w2.frozen? ⟨D, 20, none⟩ = false ∧ DeskI (w2.setCell ⟨D, 20, none⟩ v') base D { d with facts := d.facts ++ [f] } lv v' ∧ (∀ lx, Kp base D lx fv W (w2.setCell ⟨D, 20, none⟩ v')) ∧ NewOf W.heap.size fv v' := by
  have hD : D < W.heap.size := (Array.getElem?_eq_some_iff.1 h.blk).1
  have hb : w2.heap[D]? = some (.cells (d.cells lv fv) 65 (0, 0)) := by rw [hg.block D hD (fun e => h.apart.2.1 e.symm)]; exact h.blk
  refine ⟨?_, frozen_block hb, h.addFact f hown hg hat (Nat.le_refl _), fun lx => ⟨?_, fun k hk h1 h2 h3 => ?_⟩, NewOf.of hat (Nat.le_refl _)⟩
  · rw [cell_of_row w2 D 20 _ _ _ hb]; rfl
  · refine ((Below.refl base W).grown hg ?_ ?_).setCell (p := ⟨D, 20, none⟩) h.low _
    · exact Nat.le_trans h.low (Nat.le_of_lt hD)
    · intro k hk
      exact (h.facts.lt k hk).1
  · exact (heap_setCell_other _ _ _ _ h1).trans (hg.block k hk (fun e => h3 e.symm))

theorem DeskI.pushInq {W w2 : World} {base D : Nat} {d : DeskV} {lv fv v' : Value} (h : DeskI W base D d lv fv) (q : IQ) (hlt : d.list.length < 99)
    (hown : w2.ownsRow base 68 16 v' (d.list.length + 1) (d.list.flatMap IQ.vals ++ q.vals)) (hg : W.grownBy w2 lv.ownBlock) (hat : v'.ownBlock = lv.ownBlock ∨ v'.ownBlock = some W.heap.size) :
    w2.cell? ⟨D, 19, none⟩ = some lv ∧ w2.frozen? ⟨D, 19, none⟩ = false ∧ DeskI (w2.setCell ⟨D, 19, none⟩ v') base D { d with list := d.list ++ [q] } v' fv ∧ (∀ fx, Kp base D lv fx W (w2.setCell ⟨D, 19, none⟩ v')) ∧ NewOf W.heap.size lv v' := by
  have hD : D < W.heap.size := (Array.getElem?_eq_some_iff.1 h.blk).1
  have hb : w2.heap[D]? = some (.cells (d.cells lv fv) 65 (0, 0)) := by rw [hg.block D hD (fun e => h.apart.1 e.symm)]; exact h.blk
  refine ⟨?_, frozen_block hb, h.addInquiry q hlt hown hg hat (Nat.le_refl _), fun fx => ⟨?_, fun k hk h1 h2 h3 => ?_⟩, NewOf.of hat (Nat.le_refl _)⟩
  · rw [cell_of_row w2 D 19 _ _ _ hb]; rfl
  · refine ((Below.refl base W).grown hg ?_ ?_).setCell (p := ⟨D, 19, none⟩) h.low _
    · exact Nat.le_trans h.low (Nat.le_of_lt hD)
    · intro k hk
      exact (h.list.lt k hk).1
  · exact (heap_setCell_other _ _ _ _ h1).trans (hg.block k hk (fun e => h2 e.symm))

end Go.Proofs.YtbbngcacfdgahaaDoor
