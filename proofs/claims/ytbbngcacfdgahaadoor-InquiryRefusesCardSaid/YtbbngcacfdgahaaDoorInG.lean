/- Chapter 46: the contract of Facts. -/
import Derived.Test.YtbbngcacfdgahaaDoorInF
import Derived.Shelf.SlicesE.Clone
namespace Go.Proofs.YtbbngcacfdgahaaDoor
open Go.RowKit
set_option linter.unusedVariables false
set_option linter.unusedSimpArgs false

def cloneRen : Go.Shelf.Ren := ⟨fun | 41 => 35 | n => n, fun | 22 => 28 | 23 => 58 | n => n, fun | n => n⟩
theorem laysClone : SlLaysE0.n41 Tryd.prog cloneRen := {
  mixed := by kernel_rfl
  f41 := ⟨Tryd.f35.name, by decide, Tryd.func35.trans (congrArg some (by kernel_rfl))⟩
  t4 := Tryd.underlying4
  a4 := Tryd.isAgg4
  z4 := Tryd.sizeOf4
  v4 := Tryd.zeroValue4
  t22 := Tryd.underlying28
  a22 := Tryd.isAgg28
  z22 := Tryd.sizeOf28
  v22 := Tryd.zeroValue28 }

theorem infoF : (Tryd.prog.info? 58).map (fun i => (i.zero, i.size, i.bytes)) = some (some (.agg (({} : FactV).vals).toArray), 14, 168) := by kernel_rfl
theorem infoF' : ∃ i0, Tryd.prog.info? 58 = some i0 ∧ i0.zero = some (.agg (({} : FactV).vals).toArray) ∧ i0.size = 14 ∧ i0.bytes = 168 := by
  have h := infoF
  cases e : Tryd.prog.info? 58 with
  | none => rw [e] at h; cases h
  | some i => rw [e] at h; injection h with h; injection h with h1 h2; injection h2 with h2 h3; exact ⟨i, rfl, h1, h2, h3⟩
theorem sizeF (w : World) : (Go.sizeOf 58).run Tryd.prog w = .ok 14 w := by
  obtain ⟨i, h1, h2, h3, h4⟩ := infoF'
  simp [Go.sizeOf, typeInfo, h1, h3]
theorem fvals_length (f : FactV) : f.vals.length = 14 := rfl
theorem fvals_one (f : FactV) : ∀ u ∈ f.vals, u.oneCell' = true := by
  intro u hu
  simp only [FactV.vals, List.mem_cons, List.mem_nil_iff, or_false] at hu
  rcases hu with rfl | rfl | rfl | rfl | rfl | rfl | rfl | rfl | rfl | rfl | rfl | rfl | rfl | rfl <;> rfl
theorem flatF_length (l : List FactV) : (l.flatMap FactV.vals).length = l.length * 14 := by
  induction l with
  | nil => rfl
  | cons a r ih => rw [List.flatMap_cons, List.length_append, ih, fvals_length, List.length_cons]; omega

/-- What Facts leaves: a row of its own with the facts. -/
def FactsPost (fs : List FactV) (w : World) (e : Ending) (w' : World) : Prop := ∃ v', e = .returned v' ∧ w'.ownsRow w.heap.size 58 14 v' fs.length (fs.flatMap FactV.vals) ∧ Below w.heap.size w w'

theorem Facts_c (base D : Nat) (d : DeskV) (lv fv : Value) (w : World) (h : DeskI w base D d lv fv) (hn : d.facts.length ≤ 200) :
    Calls Tryd.prog 13 #[.pointer (some ⟨D, 0, none⟩)] w (FactsPost d.facts w) := by
  have c20 : w.cell? ⟨D, 20, none⟩ = some fv := h.cell 20
  obtain ⟨ho1, ⟨rfl, e⟩ | ⟨g, cap, cur, rfl, hg, hblk, hcap, hcm, hsz, htk⟩⟩ := h.facts
  · have e1 : d.facts = [] := List.eq_nil_of_length_eq_zero e
    clear h
    go_enter Tryd.func13, Tryd.ntmps13
    go_wp2_with fail
    refine (AnyE.slices_Clone_nil laysClone 0 0 w).mono ?_; rintro e w' ⟨rfl, rfl⟩
    go_wp2_with fail
    go_ret
    exact ⟨_, rfl, by rw [e1]; exact World.ownsRow_nil _ _ _ _, Below.refl _ _⟩
  · obtain ⟨i, i1, i2, i3, i4⟩ := infoF'
    have HC := Lib.hid (AnyE.slices_Clone laysClone i _ 14 168 i1 i2 i3 i4 rfl (by omega) sizeF g 0 d.facts.length cap (d.facts.flatMap FactV.vals) w (flatF_length _) (by unfold maxLen; omega) (by omega) (fun j u hj => by
      have hlt := (List.getElem?_eq_some_iff.1 hj).1
      rw [flatF_length] at hlt
      rw [cell_of_row w g (0 + j) cur _ _ hblk, ← hj, ← htk, List.getElem?_take_of_lt hlt, Array.getElem?_toList, Nat.zero_add]) (fun u hu => by
      obtain ⟨f, -, hf⟩ := List.mem_flatMap.1 hu
      exact fvals_one f u hf))
    clear h htk hsz hblk ho1
    go_enter Tryd.func13, Tryd.ntmps13
    go_wp2_with fail
    refine HC.out.mono ?_; rintro e w' ⟨v', rfl, ho, hnn, hb⟩
    have HO := Lib.hid ho; have HB := Lib.hid hb; clear ho hnn hb
    go_wp2_with fail
    go_ret
    exact ⟨_, rfl, HO.out, HB.out⟩

end Go.Proofs.YtbbngcacfdgahaaDoor
