/- Chapter 46: operations as arguments; the contract of the reference's Small. -/
import Derived.Test.YtbbngcacfdgahaaDoorInR
import Derived.Test.YtbbngcacfdgahaaDoorFd
namespace Go.Proofs.YtbbngcacfdgahaaDoor
open Go.RowKit
set_option linter.unusedVariables false
set_option linter.unusedSimpArgs false

def opK : List Sk := [.int .i64, .int .i64, .int .i64, .bool, .str]
structure OpW (x : OpV) : Prop where
  k0 : -9223372036854775808 ≤ x.kind
  k1 : x.kind ≤ 9223372036854775807
  t0 : -9223372036854775808 ≤ x.time
  t1 : x.time ≤ 9223372036854775807
  n0 : -9223372036854775808 ≤ x.number
  n1 : x.number ≤ 9223372036854775807
  s : x.text.size ≤ 9223372036854775807
theorem op_of {xs : List Value} (h : SkAll opK xs) : ∃ x : OpV, xs = x.vals ∧ OpW x := by
  obtain ⟨a, b, c, d, e, rfl⟩ : ∃ a b c d e, xs = [a, b, c, d, e] := by
    match xs, h.length with
    | [a, b, c, d, e], _ => exact ⟨a, b, c, d, e, rfl⟩
  obtain ⟨⟨n1, rfl, h1⟩, ⟨n2, rfl, h2⟩, ⟨n3, rfl, h3⟩, ⟨q, rfl⟩, ⟨s, rfl, h5⟩, -⟩ := h
  have b1 := bounds_i64 h1
  have b2 := bounds_i64 h2
  have b3 := bounds_i64 h3
  have h6 : s.size ≤ 9223372036854775807 := by unfold maxLen at h5; exact h5
  refine ⟨⟨n1, n2, n3, q, s⟩, rfl, ?_⟩
  constructor
  · exact b1.1
  · exact b1.2
  · exact b2.1
  · exact b2.2
  · exact b3.1
  · exact b3.2
  · exact h6
theorem ops_of : ∀ {xss : List (List Value)}, (∀ xs ∈ xss, SkAll opK xs) → ∃ ops : List OpV, xss = ops.map OpV.vals ∧ ∀ x ∈ ops, OpW x
  | [], _ => ⟨[], rfl, fun x h => by cases h⟩
  | xs :: r, h => by
    obtain ⟨x, e, hx⟩ := op_of (h xs (List.mem_cons_self ..))
    obtain ⟨l, e2, hl⟩ := ops_of (xss := r) (fun y hy => h y (List.mem_cons_of_mem _ hy))
    refine ⟨x :: l, by rw [e, e2]; rfl, fun y hy => ?_⟩
    rcases List.mem_cons.1 hy with rfl | hy
    · exact hx
    · exact hl y hy

/-- A slice value that reads as operations. -/
def RdOps (w : World) (v : Value) (ops : List OpV) : Prop := ops.length ≤ 3518437208781 ∧ (∀ x ∈ ops, OpW x) ∧ RdK w v 5 (ops.map OpV.vals)
theorem RdK.shape {w : World} {v : Value} {k : Nat} {xss : List (List Value)} (h : RdK w v k xss) : ∃ A cap, v = .slice A xss.length cap := by
  rcases h with ⟨rfl, A, cap, rfl⟩ | ⟨b, off, cap, rfl, -⟩
  · exact ⟨A, cap, rfl⟩
  · exact ⟨_, cap, rfl⟩
theorem RdK.below {w W : World} {v : Value} {k : Nat} {xss : List (List Value)} (h : RdK w v k xss) (hk : ∀ xs ∈ xss, xs.length = k) (hb : Below w.heap.size w W) : RdK W v k xss := by
  rcases h with h | ⟨b, off, cap, e, hcap, hne, hc⟩
  · exact .inl h
  · refine .inr ⟨b, off, cap, e, hcap, hne, fun j hj i hi => ?_⟩
    have c := hc j hj i hi
    have hl := hk _ (List.getElem_mem hj)
    rw [List.getElem?_eq_getElem (by omega)] at c
    rw [List.getElem?_eq_getElem (by omega)]
    exact (hb.cell (World.block_lt_of_cell? w _ c)).trans c
theorem RdOps.below {w W : World} {v : Value} {ops : List OpV} (h : RdOps w v ops) (hb : Below w.heap.size w W) : RdOps W v ops :=
  ⟨h.1, h.2.1, h.2.2.below (fun xs hx => by obtain ⟨x, -, rfl⟩ := List.mem_map.1 hx; rfl) hb⟩
/-- The cells of the operations, wherever they lie on. -/
theorem RdOps.cells {w : World} {v : Value} {ops : List OpV} (h : RdOps w v ops) : ∃ A cap, v = .slice A ops.length cap ∧ (0 < ops.length → ∃ b off, A = some ⟨b, off, none⟩ ∧ b < w.heap.size ∧ ops.length ≤ cap ∧
    ∀ j (hj : j < ops.length) i, i < 5 → w.cell? ⟨b, off + j * 5 + i, none⟩ = (ops[j]).vals[i]?) := by
  rcases h.2.2 with ⟨e, A, cap, rfl⟩ | ⟨b, off, cap, rfl, hcap, hne, hc⟩
  · have : ops = [] := by simpa using e
    subst this
    exact ⟨A, cap, rfl, fun h => by simp at h⟩
  · refine ⟨_, cap, by simp, fun hp => ⟨b, off, rfl, ?_, by simpa using hcap, fun j hj i hi => ?_⟩⟩
    · have := hc 0 (by simpa using hp) 0 (by omega)
      rw [List.getElem_map] at this
      exact World.block_lt_of_cell? w _ (this.trans rfl)
    · have := hc j (by simpa using hj) i hi
      rwa [List.getElem_map] at this

def okB (x : OpV) : Bool := decide (x.text.size ≤ 500) && (decide (0 ≤ x.kind) && decide (x.kind ≤ 3))
def smallOps (l : List OpV) (most : Int) : Bool := decide ((l.length : Int) ≤ most) && l.all okB

set_option maxHeartbeats 2000000 in
theorem rISmall_c (v : Value) (ops : List OpV) (most : Int) (w : World) (h : RdOps w v ops) :
    Calls Tryd.prog 15 #[v, .int .i64 most] w fun e w' => e = .returned (.bool (smallOps ops most)) ∧ w = w' := by
  have hlen := h.1
  obtain ⟨A, cap, rfl, hcl⟩ := h.cells
  have HC := Lib.hid hcl
  clear hcl h
  by_cases hm : most < (ops.length : Int)
  · have HS : Hid (smallOps ops most = false) := Lib.hid (by unfold smallOps; simp; intro h; omega)
    go_enter Tryd.func15, Tryd.ntmps15
    go_wp2_with fail
    go_ret
    exact ⟨retB HS.out.symm, rfl⟩
  · have HS : Hid (smallOps ops most = ops.all okB) := Lib.hid (by unfold smallOps; rw [decide_eq_true (by omega)]; rfl)
    have hm : (ops.length : Int) ≤ most := by omega
    go_enter Tryd.func15, Tryd.ntmps15
    go_wp2_with fail
    go_loop [5] (fun i => ∃ k : Nat, k ≤ ops.length ∧ i = .int .i64 k ∧ (ops.take k).all okB = true) (fun i => ops.length - (intOf i).toNat)
    case atStart => exact ⟨0, Nat.zero_le _, rfl, by simp⟩
    case round =>
      obtain ⟨k, hk, rfl, ha0⟩ := hrel
      have ha := Lib.hid ha0; clear ha0
      by_cases hlt : k < ops.length
      · obtain ⟨b, off, rfl, hb, hcap, hc⟩ := HC.out (by omega)
        have c0 : w.cell? ⟨b, off + k * 5, none⟩ = some (.int .i64 ops[k].kind) := hc k hlt 0 (by omega)
        have c4 : w.cell? ⟨b, off + k * 5 + 4, none⟩ = some (.string ops[k].text) := hc k hlt 4 (by omega)
        have HT : Hid ((ops.take (k + 1)).all okB = okB ops[k]) := Lib.hid (by
          rw [List.take_succ_eq_append_getElem hlt, List.all_append, ha.out]; simp)
        have HF : Hid (okB ops[k] = false → ops.all okB = false) := Lib.hid (fun h => by
          rw [List.all_eq_false]; exact ⟨_, List.getElem_mem hlt, by simp [h]⟩)
        have hd : Hid (okB ops[k] = (decide (ops[k].text.size ≤ 500) && (decide (0 ≤ ops[k].kind) && decide (ops[k].kind ≤ 3)))) := Lib.hid rfl
        clear hc
        generalize ops[k] = x at *
        by_cases h1 : x.text.size ≤ 500
        · by_cases h2 : 0 ≤ x.kind
          · by_cases h3 : x.kind ≤ 3
            · have hx := Lib.hid (hd.out.trans (by simp [h1, h2, h3] : _ = true))
              go_wp2_with fail
              go_round
              case rel => exact ⟨k + 1, by omega, by go_num, by rw [HT.out, hx.out]⟩
              case measure => simp [intOf]; omega
            · have hx := Lib.hid (HF.out (hd.out.trans (by simp [h3] : _ = false)))
              go_wp2_with fail
              go_ret
              exact ⟨retB (HS.out.trans hx.out).symm, rfl⟩
          · have hx := Lib.hid (HF.out (hd.out.trans (by simp [h2] : _ = false)))
            go_wp2_with fail
            go_ret
            exact ⟨retB (HS.out.trans hx.out).symm, rfl⟩
        · have hx := Lib.hid (HF.out (hd.out.trans (by simp [h1] : _ = false)))
          go_wp2_with fail
          go_ret
          exact ⟨retB (HS.out.trans hx.out).symm, rfl⟩
      · obtain rfl : k = ops.length := by omega
        have hx : Hid (ops.all okB = true) := Lib.hid (by have := ha.out; rwa [List.take_length] at this)
        go_wp2_with fail
        go_ret
        exact ⟨retB (HS.out.trans hx.out).symm, rfl⟩

end Go.Proofs.YtbbngcacfdgahaaDoor
