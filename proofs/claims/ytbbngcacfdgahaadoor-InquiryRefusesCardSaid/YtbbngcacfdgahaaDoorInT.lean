/- Chapter 46: two desks in one heap; the reference's Same at equal facts. -/
import Derived.Test.YtbbngcacfdgahaaDoorLawIOnce
import Derived.Test.YtbbngcacfdgahaaDoorInG
import Derived.Test.YtbbngcacfdgahaaDoorInP
import Derived.Laws.StructEq
namespace Go.Proofs.YtbbngcacfdgahaaDoor
open Go.RowKit
set_option linter.unusedVariables false
set_option linter.unusedSimpArgs false

theorem flatF_get (l : List FactV) : ∀ (k : Nat) (h : k < l.length) (j : Nat), j < 14 → (l.flatMap FactV.vals)[k * 14 + j]? = (l[k]).vals[j]? := by
  induction l with
  | nil => intro k h; simp at h
  | cons q r ih =>
    intro k h j hj
    have hq : q.vals.length = 14 := rfl
    rw [List.flatMap_cons]
    cases k with
    | zero => rw [List.getElem?_append_left (by rw [hq]; omega)]; simp
    | succ k =>
      rw [List.getElem?_append_right (by rw [hq]; omega), hq, show (k + 1) * 14 + j - 14 = k * 14 + j from by omega, ih k (by simpa using h) j hj]
      rfl
/-- A row that reads as the facts fs. -/
def RdF (w : World) (v : Value) (fs : List FactV) : Prop := ∃ A cap, v = .slice A fs.length cap ∧
    (0 < fs.length → ∃ g, A = some ⟨g, 0, none⟩ ∧ fs.length ≤ cap ∧ ∀ k (hk : k < fs.length) j, j < 14 → w.cell? ⟨g, k * 14 + j, none⟩ = (fs[k]).vals[j]?)
theorem rdF_of {w : World} {base : Nat} {v : Value} {fs : List FactV} (h : w.ownsRow base 58 14 v fs.length (fs.flatMap FactV.vals)) : RdF w v fs := by
  obtain ⟨-, ⟨rfl, e⟩ | ⟨g, cap, cur, rfl, -, hblk, hcap, hcm, hsz, htk⟩⟩ := h
  · exact ⟨none, 0, by rw [e], fun h => by omega⟩
  · refine ⟨_, cap, rfl, fun _ => ⟨g, rfl, hcap, fun k hk j hj => ?_⟩⟩
    have hlt : k * 14 + j < fs.length * 14 := by omega
    rw [cell_of_row w g (k * 14 + j) cur _ _ hblk, ← flatF_get fs k hk j hj, ← htk, List.getElem?_take_of_lt hlt, Array.getElem?_toList]

set_option maxHeartbeats 4000000 in
set_option maxRecDepth 100000 in
theorem rISame_c (va vb : Value) (fs : List FactV) (w : World) (ha : RdF w va fs) (hb : RdF w vb fs) (hn : fs.length ≤ 1000) :
    Calls Tryd.prog 23 #[va, vb] w fun e w' => e = .returned (.bool true) ∧ ∃ n, w' = w.drewN n := by
  obtain ⟨A, ca, rfl, hca⟩ := ha
  obtain ⟨B, cb, rfl, hcb⟩ := hb
  have HA := Lib.hid hca
  have HB := Lib.hid hcb
  clear hca hcb
  go_enter Tryd.func23, Tryd.ntmps23
  go_wp2_with fail
  go_loopw [5] (fun i wx => ∃ k : Nat, k ≤ fs.length ∧ i = .int .i64 k ∧ ∃ n, wx = w.drewN n) (fun i _ => fs.length - (intOf i).toNat)
  case atStart => exact ⟨0, Nat.zero_le _, rfl, 0, rfl⟩
  case round =>
    obtain ⟨k, hk, rfl, n, rfl⟩ := hrel
    by_cases hlt : k < fs.length
    · obtain ⟨g1, rfl, hc1, ha⟩ := HA.out (by omega)
      obtain ⟨g2, rfl, hc2, hb⟩ := HB.out (by omega)
      have ha' : ∀ j, j < 14 → w.cell? ⟨g1, k * 14 + j, none⟩ = (fs[k]).vals[j]? := ha k hlt
      have hb' : ∀ j, j < 14 → w.cell? ⟨g2, k * 14 + j, none⟩ = (fs[k]).vals[j]? := hb k hlt
      clear ha hb
      generalize fs[k] = x at *
      have a0 := ha' 0 (by omega)
      have a1 := ha' 1 (by omega)
      have a2 := ha' 2 (by omega)
      have a3 := ha' 3 (by omega)
      have a4 := ha' 4 (by omega)
      have a5 := ha' 5 (by omega)
      have a6 := ha' 6 (by omega)
      have a7 := ha' 7 (by omega)
      have a8 := ha' 8 (by omega)
      have a9 := ha' 9 (by omega)
      have a10 := ha' 10 (by omega)
      have a11 := ha' 11 (by omega)
      have a12 := ha' 12 (by omega)
      have a13 := ha' 13 (by omega)
      have b0 := hb' 0 (by omega)
      have b1 := hb' 1 (by omega)
      have b2 := hb' 2 (by omega)
      have b3 := hb' 3 (by omega)
      have b4 := hb' 4 (by omega)
      have b5 := hb' 5 (by omega)
      have b6 := hb' 6 (by omega)
      have b7 := hb' 7 (by omega)
      have b8 := hb' 8 (by omega)
      have b9 := hb' 9 (by omega)
      have b10 := hb' 10 (by omega)
      have b11 := hb' 11 (by omega)
      have b12 := hb' 12 (by omega)
      have b13 := hb' 13 (by omega)
      clear ha' hb'
      simp only [FactV.vals, List.getElem?_cons_zero, List.getElem?_cons_succ, Nat.add_zero] at a0 a1 a2 a3 a4 a5 a6 a7 a8 a9 a10 a11 a12 a13 b0 b1 b2 b3 b4 b5 b6 b7 b8 b9 b10 b11 b12 b13
      go_wp2_with fail
      go_quiet (fail)
      go_wp2_with fail
      go_roundw
      case rel => first | exact ⟨k + 1, by omega, by go_num, _, rfl⟩ | exact ⟨k + 1, by omega, by go_num, _, World.drewN_drewN ..⟩
      case measure => simp [intOf]; omega
    · obtain rfl : k = fs.length := by omega
      go_wp2_with fail
      go_ret
      exact ⟨rfl, _, rfl⟩

end Go.Proofs.YtbbngcacfdgahaaDoor
