/- Words for walks: one element appended to a row of one's own, at a plain list of operations and at a step of a region that draws. -/
import Derived.Test.YtbbngcacfdgahaaDoorProg
import Derived.WalkKit
import Derived.Laws.AppendOwn
import Derived.Laws.Rows
import Derived.Below
import Derived.Maps.AppendAt
import Derived.Deep.AppendLies
import Derived.RegionTactic
import Derived.Deep.RegionLaw
namespace Go.Proofs.YtbbngcacfdgahaaDoor
open Go.RowKit
set_option linter.unusedVariables false
set_option linter.unusedSimpArgs false

section
variable {P : Program} {ops : Array Oper} {rest : List Oper} {o : Oper} {a : Act} {Q : Exit → Act → World → Prop}

theorem run_pushK {W : World} (base : Nat) (t ty e : TypeId) (z : Value) (k bytes : Nat) (ht : P.underlying t = some (.slice e)) (hinfo : (P.info? e).map (fun i => (i.zero, i.size, i.bytes)) = some (some z, k, bytes)) (hz : z.cells.size = k) (hk : 0 < k) (hb0 : 0 < bytes)
    (v : Value) (n c : Nat) (xs ys : List Value) (b : Nat) (h1 : ∀ u ∈ ys, u.oneCell' = true) (hys : ys.length = k) (HO : W.ownsRow base e k v n xs) (hblk : W.heap[b]? = some (.cells ys.toArray e (0, 0))) (hbase : base ≤ W.heap.size) (hl : (n + 1) * bytes ≤ 140737488355328) :
    ∃ v1 w1, (Builtin.append_ #[t, t] ty #[v, .slice (some ⟨b, 0, none⟩) 1 c]).run P W = .ok v1 w1 ∧ w1.ownsRow base e k v1 (n + 1) (xs ++ ys) ∧ W.grownBy w1 v.ownBlock ∧ (v1.ownBlock = v.ownBlock ∨ v1.ownBlock = some W.heap.size) := by
  obtain ⟨i0, hi, hzz⟩ := Option.map_eq_some_iff.1 hinfo
  simp only [Prod.mk.injEq] at hzz
  obtain ⟨hz0, hz1, hz2⟩ := hzz
  have hlen : n + 1 ≤ 140737488355328 := Nat.le_trans (Nat.le_mul_of_pos_right _ hb0) hl
  obtain ⟨v1, w1, hr, h2, h3, -, h5⟩ := run_append_own_at (P := P) W base t ty e i0 z k bytes ht hi hz0 hz1 hz2 hz hk v n xs HO ⟨b, 0, none⟩ 1 c ys (by rw [hys]; omega) (fun j u hj => by
      rw [Addr.add_lit, cell_of_row W b (0 + j) _ _ _ hblk, Nat.zero_add]; simpa using hj) h1 (by simp only [maxLen]; omega) hl hbase
  exact ⟨v1, w1, hr, h2, h3, h5⟩

/-- append(v, y): behind 'at_builtin'; the goal's world is 'W.alloc' of the variadic's box. -/
theorem wp_pushK {W : World} (base : Nat) (hgd : o.guard = none) (s x : Operand) (t e : TypeId) (z : Value) (k bytes : Nat)
    (ho : o.op = .call { callee := .builtin .append, args := #[s, x], argTypes := #[t, t] })
    (ht : P.underlying t = some (.slice e)) (hinfo : (P.info? e).map (fun i => (i.zero, i.size, i.bytes)) = some (some z, k, bytes)) (hz : z.cells.size = k) (hk : 0 < k) (hb0 : 0 < bytes)
    (v : Value) (n : Nat) (xs ys : List Value) (hs : a.eval s = v) (hx : a.eval x = .slice (some ⟨W.heap.size, 0, none⟩) 1 1) (h1 : ∀ u ∈ ys, u.oneCell' = true) (hys : ys.length = k)
    (HO : W.ownsRow base e k v n xs) (hbase : base ≤ W.heap.size) (hl : (n + 1) * bytes ≤ 140737488355328)
    (h : ∀ v1 w1, w1.ownsRow base e k v1 (n + 1) (xs ++ ys) → W.grownBy w1 v.ownBlock → (v1.ownBlock = v.ownBlock ∨ v1.ownBlock = some (W.heap.size + 1)) → wpList P ops Q rest (a.put o.dst v1) w1) :
    wpList P ops Q (o :: rest) a (W.alloc (.cells ys.toArray e)) := by
  obtain ⟨i0, hi, hzz⟩ := Option.map_eq_some_iff.1 hinfo
  simp only [Prod.mk.injEq] at hzz
  obtain ⟨hz0, hz1, hz2⟩ := hzz
  have hlen : n + 1 ≤ 140737488355328 := Nat.le_trans (Nat.le_mul_of_pos_right _ hb0) hl
  refine wpList_append_own_at (W.alloc (.cells ys.toArray e)) hgd s x t ho base e i0 z k bytes ht hi hz0 hz1 hz2 hz hk v n xs hs (HO.alloc _) ⟨W.heap.size, 0, none⟩ 1 1 ys hx (by rw [hys]; omega)
    (fun j u hj => by rw [Addr.add_lit, cell_of_row _ _ (0 + j) _ _ _ (heap_alloc_new W _), Nat.zero_add]; simpa using hj) h1 (by simp only [maxLen]; omega) hl (by simp; omega) ?_
  intro v1 w1 hown hg _ hat
  refine h v1 w1 hown (World.grownBy.trans (World.grownBy_alloc W _ _) hg) ?_
  rcases hat with hat | hat
  · exact .inl hat
  · exact .inr (by rw [hat]; simp)

/-- The same at a step of a region that draws. -/
theorem step_pushK {W : World} {K : Act → World → Prop} {E : Prop} (base : Nat) (hgd : o.guard = none) (s x : Operand) (t e : TypeId) (z : Value) (k bytes : Nat)
    (ho : o.op = .call { callee := .builtin .append, args := #[s, x], argTypes := #[t, t] })
    (ht : P.underlying t = some (.slice e)) (hinfo : (P.info? e).map (fun i => (i.zero, i.size, i.bytes)) = some (some z, k, bytes)) (hz : z.cells.size = k) (hk : 0 < k) (hb0 : 0 < bytes)
    (v : Value) (n c : Nat) (xs ys : List Value) (b : Nat) (hs : a.eval s = v) (hx : a.eval x = .slice (some ⟨b, 0, none⟩) 1 c) (h1 : ∀ u ∈ ys, u.oneCell' = true) (hys : ys.length = k)
    (HO : W.ownsRow base e k v n xs) (hblk : W.heap[b]? = some (.cells ys.toArray e (0, 0))) (hbase : base ≤ W.heap.size) (hl : (n + 1) * bytes ≤ 140737488355328)
    (h : ∀ v1 w1, w1.ownsRow base e k v1 (n + 1) (xs ++ ys) → W.grownBy w1 v.ownBlock → (v1.ownBlock = v.ownBlock ∨ v1.ownBlock = some W.heap.size) → K (a.put o.dst v1) w1) :
    if Region.wanted o (yielded ops a.tmps) = true then Oper.wp P o a W K Q else E := by
  have hw : Region.wanted o (yielded ops a.tmps) = true := by simp [Region.wanted, hgd]
  rw [if_pos hw]
  obtain ⟨v', w', hr, h2, h3, h5⟩ := run_pushK (P := P) base t o.type e z k bytes ht hinfo hz hk hb0 v n c xs ys b h1 hys HO hblk hbase hl
  unfold Oper.wp execOp
  simp only [ho, resolve, invoke, builtin, Sem.run_bind, Sem.run_pure, Result.andThen_ok, List.map_toArray, List.map_cons, List.map_nil, hs, hx, hr]
  exact h v' w' h2 h3 h5
end

theorem owns_slice {w : World} {base n : Nat} {e : TypeId} {size : Nat} {v : Value} {xs : List Value} (h : w.ownsRow base e size v n xs) : ∃ A c, v = .slice A n c ∧ (0 < n → ∃ g, A = some ⟨g, 0, none⟩) := by
  rcases h.2 with ⟨rfl, rfl⟩ | ⟨g, cap, cur, rfl, _⟩
  · exact ⟨none, 0, rfl, fun h => absurd h (by omega)⟩
  · exact ⟨_, cap, rfl, fun _ => ⟨g, rfl⟩⟩
theorem owns_base {w : World} {base base' n : Nat} {e : TypeId} {size : Nat} {v : Value} {xs : List Value} (h : w.ownsRow base e size v n xs) (hb : base' ≤ base) : w.ownsRow base' e size v n xs := by
  obtain ⟨h1, h2 | ⟨g, cap, cur, hv, hg, r⟩⟩ := h
  · exact ⟨h1, .inl h2⟩
  · exact ⟨h1, .inr ⟨g, cap, cur, hv, by omega, r⟩⟩
/-- What an append to a row from base on turns: nothing below base. -/
theorem below_push {B : Nat} {w W w1 : World} {base n : Nat} {e : TypeId} {size : Nat} {v : Value} {xs : List Value} (h : Below B w W) (ho : W.ownsRow base e size v n xs) (hg : W.grownBy w1 v.ownBlock) (hb : B ≤ base) (hB : B ≤ W.heap.size) : Below B w w1 :=
  h.grown hg hB (fun k hk => Nat.le_trans hb (ho.lt k hk).1)

end Go.Proofs.YtbbngcacfdgahaaDoor
