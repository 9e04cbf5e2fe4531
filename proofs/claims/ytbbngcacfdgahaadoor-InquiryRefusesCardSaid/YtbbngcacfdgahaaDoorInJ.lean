/- Chapter 46: a fact, an inquiry more on the desk. -/
import Derived.Test.YtbbngcacfdgahaaDoorInI
namespace Go.Proofs.YtbbngcacfdgahaaDoor
open Go.RowKit
set_option linter.unusedVariables false
set_option linter.unusedSimpArgs false

theorem ne_of_apart {w : World} {base size n : Nat} {e : TypeId} {v v' u : Value} {xs : List Value} {H : Nat} (ho : w.ownsRow base e size u n xs) (hat : v'.ownBlock = v.ownBlock ∨ v'.ownBlock = some H) (hH : w.heap.size ≤ H)
    (hap : ∀ g, u.ownBlock = some g → v.ownBlock ≠ some g) : ∀ g, u.ownBlock = some g → v'.ownBlock ≠ some g := by
  intro g hg
  rcases hat with e | e
  · rw [e]; exact hap g hg
  · rw [e]
    intro q
    injection q with q
    have := (ho.lt g hg).2
    omega

theorem DeskI.addFact {w w1 : World} {base D H : Nat} {d : DeskV} {lv fv v' : Value} (h : DeskI w base D d lv fv) (f : FactV)
    (hown : w1.ownsRow base 58 14 v' (d.facts.length + 1) (d.facts.flatMap FactV.vals ++ f.vals)) (hg : w.grownBy w1 fv.ownBlock) (hat : v'.ownBlock = fv.ownBlock ∨ v'.ownBlock = some H) (hH : w.heap.size ≤ H) :
    DeskI (w1.setCell ⟨D, 20, none⟩ v') base D { d with facts := d.facts ++ [f] } lv v' := by
  have hD : D < w.heap.size := (Array.getElem?_eq_some_iff.1 h.blk).1
  have hb : w1.heap[D]? = some (.cells (d.cells lv fv) 65 (0, 0)) := by rw [hg.block D hD (fun e => h.apart.2.1 e.symm)]; exact h.blk
  have hvD : v'.ownBlock ≠ some D := by
    rcases hat with e | e
    · rw [e]; exact h.apart.2.1
    · rw [e]; intro q; injection q with q; omega
  refine ⟨h.low, ?_, ?_, ?_, ⟨h.apart.1, hvD, ne_of_apart h.list hat hH h.apart.2.2⟩, h.few⟩
  · exact heap_setCell_same w1 D 20 _ _ v' hb
  · refine (h.list.kept hg ?_).kept (grown_set w1 D 20 v') (.inr h.apart.1)
    cases e : lv.ownBlock with
    | none => exact .inl rfl
    | some g => exact .inr (fun q => h.apart.2.2 g e q.symm)
  · have e : (d.facts ++ [f]).flatMap FactV.vals = d.facts.flatMap FactV.vals ++ f.vals := by rw [List.flatMap_append]; simp
    show World.ownsRow _ base 58 14 v' (d.facts ++ [f]).length ((d.facts ++ [f]).flatMap FactV.vals)
    rw [e, List.length_append, List.length_singleton]
    exact hown.kept (grown_set w1 D 20 v') (.inr hvD)

theorem DeskI.addInquiry {w w1 : World} {base D H : Nat} {d : DeskV} {lv fv v' : Value} (h : DeskI w base D d lv fv) (q : IQ) (hlt : d.list.length < 99)
    (hown : w1.ownsRow base 68 16 v' (d.list.length + 1) (d.list.flatMap IQ.vals ++ q.vals)) (hg : w.grownBy w1 lv.ownBlock) (hat : v'.ownBlock = lv.ownBlock ∨ v'.ownBlock = some H) (hH : w.heap.size ≤ H) :
    DeskI (w1.setCell ⟨D, 19, none⟩ v') base D { d with list := d.list ++ [q] } v' fv := by
  have hD : D < w.heap.size := (Array.getElem?_eq_some_iff.1 h.blk).1
  have hb : w1.heap[D]? = some (.cells (d.cells lv fv) 65 (0, 0)) := by rw [hg.block D hD (fun e => h.apart.1 e.symm)]; exact h.blk
  have hvD : v'.ownBlock ≠ some D := by
    rcases hat with e | e
    · rw [e]; exact h.apart.1
    · rw [e]; intro q; injection q with q; omega
  have hap := ne_of_apart (v' := v') (v := lv) h.facts hat hH (fun g e q => h.apart.2.2 g q e)
  refine ⟨h.low, ?_, ?_, ?_, ⟨hvD, h.apart.2.1, fun g e q => hap g q e⟩, by show (d.list ++ [q]).length ≤ 99; simp; omega⟩
  · exact heap_setCell_same w1 D 19 _ _ v' hb
  · have e : (d.list ++ [q]).flatMap IQ.vals = d.list.flatMap IQ.vals ++ q.vals := by rw [List.flatMap_append]; simp
    show World.ownsRow _ base 68 16 v' (d.list ++ [q]).length ((d.list ++ [q]).flatMap IQ.vals)
    rw [e, List.length_append, List.length_singleton]
    exact hown.kept (grown_set w1 D 19 v') (.inr hvD)
  · refine (h.facts.kept hg ?_).kept (grown_set w1 D 19 v') (.inr h.apart.2.1)
    cases e : fv.ownBlock with
    | none => exact .inl rfl
    | some g => exact .inr (fun q => h.apart.2.2 g q.symm e)

end Go.Proofs.YtbbngcacfdgahaaDoor
