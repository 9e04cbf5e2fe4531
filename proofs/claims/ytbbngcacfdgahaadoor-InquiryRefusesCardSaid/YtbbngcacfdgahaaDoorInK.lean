/- Chapter 46: the contract of Withdraw: the way on which it withdraws (under way). -/
import Derived.Test.YtbbngcacfdgahaaDoorInH
import Derived.Test.YtbbngcacfdgahaaDoorInL
import Derived.Test.YtbbngcacfdgahaaDoorFw
namespace Go.Proofs.YtbbngcacfdgahaaDoor
open Go.RowKit
set_option linter.unusedVariables false
set_option linter.unusedSimpArgs false

theorem own_shape {w : World} {base size n : Nat} {e : TypeId} {v : Value} {xs : List Value} (h : w.ownsRow base e size v n xs) : ∃ A k c, v = .slice A k c := by
  rcases h.2 with ⟨rfl, -⟩ | ⟨g, c, cur, rfl, -⟩ <;> exact ⟨_, _, _, rfl⟩
theorem heap_two (W : World) (o o' : Obj) (n : Nat) (hn : n = W.heap.size + 1) : (((W.alloc o).alloc o').drew).heap[n]? = some o' := by
  have h := heap_alloc_new (W.alloc o) o'
  have e : (W.alloc o).heap.size = n := by rw [hn]; simp
  rw [e] at h
  exact h

set_option maxHeartbeats 4000000 in
set_option maxRecDepth 100000 in
theorem Withdraw_ok (base D : Nat) (d : DeskV) (fv : Value) (m : Nat) (t : Int) (cap g : Nat) (w w1 : World) (q : IQ)
    (HD : Hid (Calls Tryd.prog 52 #[.pointer (some ⟨D, 0, none⟩), .int .i64 ((m : Int) + 1), .int .i64 t, .bool true] w fun e w' => e = .returned (.int .i64 0) ∧ w' = w1))
    (hB : Kp base D (.slice (some ⟨g, 0, none⟩) d.list.length cap) fv w w1) (H1 : Hid (DeskI w1 base D d (.slice (some ⟨g, 0, none⟩) d.list.length cap) fv)) (hm : m < d.list.length) (hq : d.list[m] = q) (hfn : d.facts.length ≤ 300) :
    Calls Tryd.prog 36 #[.pointer (some ⟨D, 0, none⟩), .int .i64 ((m : Int) + 1), .int .i64 t] w
      (OpPost w base D (.slice (some ⟨g, 0, none⟩) d.list.length cap) fv { withState d m 4 with facts := d.facts ++ [{ q.filing with rev := 2, flag := true }] } 0) := by
  have hB := Lib.hid hB
  have ix : ((m : Int) + 1 - 1) = m := by omega
  have hf := H1.out.few
  obtain ⟨hgb, hrow, hfr⟩ := H1.out.rowG hm
  have c19 : w1.cell? ⟨D, 19, none⟩ = some (.slice (some ⟨g, 0, none⟩) d.list.length cap) := H1.out.cell 19
  have c14 : w1.cell? ⟨g, m * 16 + 14, none⟩ = some (.int .i64 q.state) := by rw [hrow 14 (by omega), hq]; rfl
  have fr14 := hfr (m * 16 + 14)
  have hcell : ∀ j, j < 14 → (w1.setCell ⟨g, m * 16 + 14, none⟩ (.int .i64 4)).cell? ⟨g, m * 16 + j, none⟩ = q.vals[j]? := fun j hj => by
    rw [World.cell?_setCell_other _ _ _ _ (by intro e; injection e with e1 e2; omega), ← hq]; exact hrow j (by omega)
  have H2 := Lib.hid (H1.out.setState hm 4)
  have hB2 := Lib.hid (hB.out.setCell (p := ⟨g, m * 16 + 14, none⟩) hgb (.inr (.inl rfl)) (.int .i64 4))
  generalize hW0 : w1.setCell ⟨g, m * 16 + 14, none⟩ (.int .i64 4) = W0 at *
  have f0 : W0.cell? ⟨g, m * 16, none⟩ = some (.int .i64 q.filing.kind) := hcell 0 (by omega)
  have f1 : W0.cell? ⟨g, m * 16 + 1, none⟩ = some (.int .i64 q.filing.rev) := hcell 1 (by omega)
  have f2 : W0.cell? ⟨g, m * 16 + 2, none⟩ = some (.bool q.filing.gone) := hcell 2 (by omega)
  have f3 : W0.cell? ⟨g, m * 16 + 3, none⟩ = some (.string q.filing.phase) := hcell 3 (by omega)
  have f4 : W0.cell? ⟨g, m * 16 + 4, none⟩ = some (.string q.filing.segment) := hcell 4 (by omega)
  have f5 : W0.cell? ⟨g, m * 16 + 5, none⟩ = some (.int .i64 q.filing.bib) := hcell 5 (by omega)
  have f6 : W0.cell? ⟨g, m * 16 + 6, none⟩ = some (.string q.filing.panel) := hcell 6 (by omega)
  have f7 : W0.cell? ⟨g, m * 16 + 7, none⟩ = some (.string q.filing.judge) := hcell 7 (by omega)
  have f8 : W0.cell? ⟨g, m * 16 + 8, none⟩ = some (.int .i64 q.filing.index) := hcell 8 (by omega)
  have f9 : W0.cell? ⟨g, m * 16 + 9, none⟩ = some (.string q.filing.fed) := hcell 9 (by omega)
  have f10 : W0.cell? ⟨g, m * 16 + 10, none⟩ = some (.string q.filing.name) := hcell 10 (by omega)
  have f11 : W0.cell? ⟨g, m * 16 + 11, none⟩ = some (.int .i64 q.filing.value) := hcell 11 (by omega)
  have f12 : W0.cell? ⟨g, m * 16 + 12, none⟩ = some (.string q.filing.text) := hcell 12 (by omega)
  have f13 : W0.cell? ⟨g, m * 16 + 13, none⟩ = some (.bool q.filing.flag) := hcell 13 (by omega)
  have hD : D < W0.heap.size := (Array.getElem?_eq_some_iff.1 H2.out.blk).1
  have f20 : ∀ W, Ext W0 W → W.cell? ⟨D, 20, none⟩ = some fv := fun W h => h.cell (H2.out.cell 20)
  have fr20 : ∀ W, Ext W0 W → W.frozen? ⟨D, 20, none⟩ = false := fun W h => (h.frozen hD).trans (frozen_block H2.out.blk)
  have H3 := Lib.hid (fun o o' => ((H2.out.alloc o).alloc o').drew)
  have hfn' : (withState d m 4).facts.length ≤ 300 := hfn
  have hbb := Nat.le_trans H2.out.low (Nat.le_of_lt hD)
  have P4 := Lib.hid (fun o o' => ((((hB2.out.alloc (Nat.le_trans H2.out.low (Nat.le_of_lt hD)) o).alloc (by simp; omega) o').drew) : Kp base D (.slice (some ⟨g, 0, none⟩) d.list.length cap) fv w _))
  clear hrow hcell hq hfr hB
  go_enter Tryd.func36, Tryd.ntmps36
  go_wp2_with fail
  refine HD.out.mono ?_; rintro e w' ⟨rfl, rfl⟩
  go_wp2_with fail
  go_region_law (first
    | (refine step_fact rfl _ _ rfl base fv _ _ rfl (H3.out _ _).facts _ _ { q.filing with rev := 2, flag := true } rfl ?gh hfn' ?gb ?_
       case gh => exact heap_two _ _ _ _ (by simp)
       case gb => (simp; omega)
       intro v2 w2 hown2 hg2 hat2
       obtain ⟨A2, k2, cc2, rfl⟩ := own_shape hown2
       obtain ⟨c20, fr20, HF, HB, HN⟩ := (H3.out _ _).pushFact _ hown2 hg2 hat2
       have HF := Lib.hid HF
       have HN := Lib.hid (fun k hk => HN k (Nat.lt_of_lt_of_le hk (P4.out _ _).size))
       have HB := Lib.hid ((P4.out _ _).trans (HB _))
       clear hown2 hg2 hat2)
    | fail)
  all_goals
    go_wp2_with fail
    go_ret
    exact ⟨rfl, HB.out, _, _, HF.out, fun _ _ h => h, HN.out⟩

end Go.Proofs.YtbbngcacfdgahaaDoor
