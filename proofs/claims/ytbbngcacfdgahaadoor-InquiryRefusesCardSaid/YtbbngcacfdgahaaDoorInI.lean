/- Chapter 46: a store into an inquiry's state. -/
import Derived.Test.YtbbngcacfdgahaaDoorInG
namespace Go.Proofs.YtbbngcacfdgahaaDoor
open Go.RowKit
set_option linter.unusedVariables false
set_option linter.unusedSimpArgs false

theorem vals_state (q : IQ) (st : Int) (j : Nat) : ({ q with state := st } : IQ).vals[j]? = if j = 14 then some (.int .i64 st) else q.vals[j]? := by
  unfold IQ.vals
  by_cases h : j < 14
  · rw [if_neg (by omega), List.getElem?_append_left (by rw [fvals_length]; exact h), List.getElem?_append_left (by rw [fvals_length]; exact h)]
  · rw [List.getElem?_append_right (by rw [fvals_length]; omega), List.getElem?_append_right (by rw [fvals_length]; omega), fvals_length]
    by_cases h2 : j = 14
    · subst h2; rfl
    · rw [if_neg h2]
      obtain ⟨k, hk⟩ : ∃ k, j - 14 = k + 1 := ⟨j - 15, by omega⟩
      rw [hk]
      cases k <;> rfl
theorem flatQ_length (l : List IQ) : (l.flatMap IQ.vals).length = l.length * 16 := by
  induction l with
  | nil => rfl
  | cons a r ih => rw [List.flatMap_cons, List.length_append, ih, vals_length, List.length_cons]; omega
/-- What a desk's row says of inquiry m, where it lies at block g. -/
theorem DeskI.rowG {w : World} {base D g cap : Nat} {d : DeskV} {fv : Value} (h : DeskI w base D d (.slice (some ⟨g, 0, none⟩) d.list.length cap) fv) {m : Nat} (hm : m < d.list.length) :
    base ≤ g ∧ (∀ j, j < 16 → w.cell? ⟨g, m * 16 + j, none⟩ = (d.list[m]).vals[j]?) ∧ ∀ j, w.frozen? ⟨g, j, none⟩ = false := by
  obtain ⟨ho1, ⟨e, -⟩ | ⟨g', cap', cur, e, hg, hblk, hcap, hcm, hsz, htk⟩⟩ := h.list
  · cases e
  · injection e with e1 e2 e3
    injection e1 with e1
    injection e1 with e1
    subst e1; subst e3
    refine ⟨hg, fun j hj => ?_, fun j => frozen_block hblk⟩
    have hlt : m * 16 + j < d.list.length * 16 := by omega
    rw [cell_of_row w g (m * 16 + j) cur _ _ hblk, ← flat_get d.list m hm j hj, ← htk, List.getElem?_take_of_lt hlt, Array.getElem?_toList]

/-- A store into a cell of inquiry m. -/
theorem DeskI.setQ {w : World} {base D g cap : Nat} {d : DeskV} {fv : Value} (h : DeskI w base D d (.slice (some ⟨g, 0, none⟩) d.list.length cap) fv) {m : Nat} (hm : m < d.list.length) (jj : Nat) (v : Value) (q' : IQ) (hjj : jj < 16)
    (hv : ∀ i, q'.vals[i]? = if i = jj then some v else (d.list[m]).vals[i]?) :
    DeskI (w.setCell ⟨g, m * 16 + jj, none⟩ v) base D { d with list := d.list.set m q' } (.slice (some ⟨g, 0, none⟩) d.list.length cap) fv := by
  have hne : g ≠ D := fun e => h.apart.1 (by simp [Value.ownBlock, e])
  have hl : (d.list.set m q').length = d.list.length := by simp
  refine ⟨h.low, ?_, ?_, ?_, h.apart, by show (d.list.set m q').length ≤ 99; rw [hl]; exact h.few⟩
  · rw [heap_setCell_other w _ D _ (by show D ≠ g; omega)]; exact h.blk
  · obtain ⟨ho1, ⟨e, -⟩ | ⟨g', cap', cur, e, hg, hblk, hcap, hcm, hsz, htk⟩⟩ := h.list
    · cases e
    · injection e with e1 e2 e3
      injection e1 with e1
      injection e1 with e1
      subst e1; subst e3
      show World.ownsRow _ base 68 16 _ (d.list.set m q').length ((d.list.set m q').flatMap IQ.vals)
      rw [hl]
      refine ⟨by rw [flatQ_length, hl], .inr ⟨g, cap, _, rfl, hg, heap_setCell_same w g _ _ _ _ hblk, hcap, hcm, by simpa using hsz, ?_⟩⟩
      apply List.ext_getElem?
      intro i
      by_cases hi : i < d.list.length * 16
      · rw [List.getElem?_take_of_lt hi, Array.getElem?_toList]
        obtain ⟨k, j, rfl, hj⟩ : ∃ k j, i = k * 16 + j ∧ j < 16 := ⟨i / 16, i % 16, by omega, Nat.mod_lt _ (by omega)⟩
        have hk : k < d.list.length := by omega
        have hk' : k < (d.list.set m q').length := by rw [hl]; exact hk
        rw [flat_get _ k hk' j hj]
        have old : cur[k * 16 + j]? = (d.list[k]).vals[j]? := by
          rw [← flat_get d.list k hk j hj, ← htk, List.getElem?_take_of_lt hi, Array.getElem?_toList]
        rw [Array.getElem?_setIfInBounds]
        by_cases hkm : m = k
        · subst hkm
          rw [List.getElem_set_self, hv]
          by_cases h14 : j = jj
          · subst h14
            rw [if_pos rfl, if_pos rfl, if_pos (by rw [hsz]; omega)]
          · rw [if_neg (by omega), if_neg h14, old]
        · rw [List.getElem_set_ne hkm, if_neg (by omega), old]
      · rw [List.getElem?_eq_none (by rw [List.length_take]; omega), List.getElem?_eq_none (by rw [flatQ_length, hl]; omega)]
  · exact h.facts.kept (grown_set w g _ _) (.inr (h.apart.2.2 g rfl))

/-- A second store into the same inquiry. -/
theorem DeskI.setQ' {w : World} {base D g cap : Nat} {d : DeskV} {fv : Value} {m : Nat} {q1 : IQ} (h : DeskI w base D { d with list := d.list.set m q1 } (.slice (some ⟨g, 0, none⟩) d.list.length cap) fv) (hm : m < d.list.length) (jj : Nat) (v : Value) (q' : IQ) (hjj : jj < 16)
    (hv : ∀ i, q'.vals[i]? = if i = jj then some v else q1.vals[i]?) :
    DeskI (w.setCell ⟨g, m * 16 + jj, none⟩ v) base D { d with list := d.list.set m q' } (.slice (some ⟨g, 0, none⟩) d.list.length cap) fv := by
  have hl : ({ d with list := d.list.set m q1 } : DeskV).list.length = d.list.length := by simp
  have h2 := DeskI.setQ (d := { d with list := d.list.set m q1 }) (g := g) (cap := cap) (m := m) (by rw [hl]; exact h) (by rw [hl]; exact hm) jj v q' hjj (by intro i; rw [hv]; simp only [List.getElem_set_self])
  rw [hl] at h2
  simpa only [List.set_set] using h2

/-- The desk with the state of inquiry m turned. -/
def withState (d : DeskV) (m : Nat) (st : Int) : DeskV := { d with list := d.list.set m { (d.list.getD m { filing := {} }) with state := st } }
theorem withState_eq {d : DeskV} {m : Nat} (hm : m < d.list.length) (st : Int) : withState d m st = { d with list := d.list.set m { d.list[m] with state := st } } := by
  have hgd : d.list.getD m { filing := {} } = d.list[m] := by rw [List.getD_eq_getElem?_getD, List.getElem?_eq_getElem hm]; rfl
  unfold withState; rw [hgd]

theorem DeskI.setState {w : World} {base D g cap : Nat} {d : DeskV} {fv : Value} (h : DeskI w base D d (.slice (some ⟨g, 0, none⟩) d.list.length cap) fv) {m : Nat} (hm : m < d.list.length) (st : Int) :
    DeskI (w.setCell ⟨g, m * 16 + 14, none⟩ (.int .i64 st)) base D (withState d m st) (.slice (some ⟨g, 0, none⟩) d.list.length cap) fv := by
  rw [withState_eq hm]
  exact h.setQ hm 14 _ { d.list[m] with state := st } (by omega) (vals_state _ _)

theorem vals_line (q : IQ) (s : ByteArray) (j : Nat) : ({ q with line := s } : IQ).vals[j]? = if j = 15 then some (.string s) else q.vals[j]? := by
  unfold IQ.vals
  by_cases h : j < 14
  · rw [if_neg (by omega), List.getElem?_append_left (by rw [fvals_length]; exact h), List.getElem?_append_left (by rw [fvals_length]; exact h)]
  · rw [List.getElem?_append_right (by rw [fvals_length]; omega), List.getElem?_append_right (by rw [fvals_length]; omega), fvals_length]
    by_cases h2 : j = 15
    · subst h2; rfl
    · rw [if_neg h2]
      by_cases h3 : j = 14
      · subst h3; rfl
      · obtain ⟨k, hk⟩ : ∃ k, j - 14 = k + 2 := ⟨j - 16, by omega⟩
        rw [hk]; rfl

/-- A store into a block that is none of the desk's. -/
theorem DeskI.setOther {w : World} {base D b j : Nat} {d : DeskV} {lv fv : Value} (h : DeskI w base D d lv fv) (v : Value) (h1 : b ≠ D) (h2 : lv.ownBlock ≠ some b) (h3 : fv.ownBlock ≠ some b) :
    DeskI (w.setCell ⟨b, j, none⟩ v) base D d lv fv :=
  ⟨h.low, by rw [heap_setCell_other w _ D _ (by show D ≠ b; omega)]; exact h.blk, h.list.kept (grown_set w b _ _) (.inr h2), h.facts.kept (grown_set w b _ _) (.inr h3), h.apart, h.few⟩

end Go.Proofs.YtbbngcacfdgahaaDoor
