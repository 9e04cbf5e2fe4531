/- Chapter 46: an append at a step of a region that draws: one fact, one inquiry more. -/
import Derived.Test.YtbbngcacfdgahaaDoorInJ
import Derived.Maps.AppendAt
import Derived.RegionTactic
namespace Go.Proofs.YtbbngcacfdgahaaDoor
open Go.RowKit
set_option linter.unusedVariables false
set_option linter.unusedSimpArgs false

/-- One fact behind a row of one's own, at a step of a region that draws. -/
theorem step_fact {w : World} {ops : Array Oper} {o : Oper} {a : Act} {K : Act → World → Prop} {Q : Exit → Act → World → Prop} {E : Prop} (hgd : o.guard = none) (s x : Operand)
    (ho : o.op = .call { callee := .builtin .append, args := #[s, x], argTypes := #[28, 28] })
    (base : Nat) (v : Value) (n : Nat) (xs : List Value) (hs : a.eval s = v) (hown : w.ownsRow base 58 14 v n xs) (b c : Nat) (f : FactV) (hx : a.eval x = .slice (some ⟨b, 0, none⟩) 1 c)
    (hc : w.heap[b]? = some (.cells f.vals.toArray 58 (0, 0))) (hn : n ≤ 300) (hbase : base ≤ w.heap.size)
    (h : ∀ v' w', w'.ownsRow base 58 14 v' (n + 1) (xs ++ f.vals) → w.grownBy w' v.ownBlock → (v'.ownBlock = v.ownBlock ∨ v'.ownBlock = some w.heap.size) → K (a.put o.dst v') w') :
    if Region.wanted o (yielded ops a.tmps) = true then Oper.wp Tryd.prog o a w K Q else E := by
  have hw : Region.wanted o (yielded ops a.tmps) = true := by simp [Region.wanted, hgd]
  rw [if_pos hw]
  obtain ⟨i, i1, i2, i3, i4⟩ := infoF'
  obtain ⟨v', w', hr, h2, h3, -, h5⟩ := run_append_own_at (P := Tryd.prog) w base 28 o.type 58 i _ 14 168 Tryd.underlying28 i1 i2 i3 i4 rfl (by omega) v n xs hown ⟨b, 0, none⟩ 1 c f.vals (by rw [fvals_length]) (fun j u hj => by
      rw [Addr.add_lit, cell_of_row w b (0 + j) _ _ _ hc, Nat.zero_add]; simpa using hj) (fvals_one f) (by unfold maxLen; omega) (by omega) hbase
  unfold Oper.wp execOp
  simp only [ho, resolve, invoke, builtin, Sem.run_bind, Sem.run_pure, Result.andThen_ok, List.map_toArray, List.map_cons, List.map_nil, hs, hx, hr]
  exact h v' w' h2 h3 h5

theorem infoQ : (Tryd.prog.info? 68).map (fun i => (i.zero, i.size, i.bytes)) = some (some (.agg (({ filing := {}, state := 0 } : IQ).vals).toArray), 16, 192) := by kernel_rfl
theorem infoQ' : ∃ i0, Tryd.prog.info? 68 = some i0 ∧ i0.zero = some (.agg (({ filing := {}, state := 0 } : IQ).vals).toArray) ∧ i0.size = 16 ∧ i0.bytes = 192 := by
  have h := infoQ
  cases e : Tryd.prog.info? 68 with
  | none => rw [e] at h; cases h
  | some i => rw [e] at h; injection h with h; injection h with h1 h2; injection h2 with h2 h3; exact ⟨i, rfl, h1, h2, h3⟩
theorem qvals_one (f : IQ) : ∀ u ∈ f.vals, u.oneCell' = true := by
  intro u hu
  unfold IQ.vals at hu
  rcases List.mem_append.1 hu with hu | hu
  · exact fvals_one _ u hu
  · simp only [List.mem_cons, List.mem_nil_iff, or_false] at hu
    rcases hu with rfl | rfl <;> rfl

/-- One inquiry behind a row of one's own, at a step of a region that draws. -/
theorem step_inq {w : World} {ops : Array Oper} {o : Oper} {a : Act} {K : Act → World → Prop} {Q : Exit → Act → World → Prop} {E : Prop} (hgd : o.guard = none) (s x : Operand)
    (ho : o.op = .call { callee := .builtin .append, args := #[s, x], argTypes := #[63, 63] })
    (base : Nat) (v : Value) (n : Nat) (xs : List Value) (hs : a.eval s = v) (hown : w.ownsRow base 68 16 v n xs) (b c : Nat) (f : IQ) (hx : a.eval x = .slice (some ⟨b, 0, none⟩) 1 c)
    (hc : w.heap[b]? = some (.cells f.vals.toArray 68 (0, 0))) (hn : n ≤ 300) (hbase : base ≤ w.heap.size)
    (h : ∀ v' w', w'.ownsRow base 68 16 v' (n + 1) (xs ++ f.vals) → w.grownBy w' v.ownBlock → (v'.ownBlock = v.ownBlock ∨ v'.ownBlock = some w.heap.size) → K (a.put o.dst v') w') :
    if Region.wanted o (yielded ops a.tmps) = true then Oper.wp Tryd.prog o a w K Q else E := by
  have hw : Region.wanted o (yielded ops a.tmps) = true := by simp [Region.wanted, hgd]
  rw [if_pos hw]
  obtain ⟨i, i1, i2, i3, i4⟩ := infoQ'
  obtain ⟨v', w', hr, h2, h3, -, h5⟩ := run_append_own_at (P := Tryd.prog) w base 63 o.type 68 i _ 16 192 Tryd.underlying63 i1 i2 i3 i4 rfl (by omega) v n xs hown ⟨b, 0, none⟩ 1 c f.vals (by rw [vals_length]) (fun j u hj => by
      rw [Addr.add_lit, cell_of_row w b (0 + j) _ _ _ hc, Nat.zero_add]; simpa using hj) (qvals_one f) (by unfold maxLen; omega) (by omega) hbase
  unfold Oper.wp execOp
  simp only [ho, resolve, invoke, builtin, Sem.run_bind, Sem.run_pure, Result.andThen_ok, List.map_toArray, List.map_cons, List.map_nil, hs, hx, hr]
  exact h v' w' h2 h3 h5

end Go.Proofs.YtbbngcacfdgahaaDoor
