/- Chapter 46: a desk in memory; the contracts of what only reads it. -/
import Derived.Test.YtbbngcacfdgahaaDoorInB
import Derived.Laws.AppendOwn
namespace Go.Proofs.YtbbngcacfdgahaaDoor
open Go.RowKit
set_option linter.unusedVariables false
set_option linter.unusedSimpArgs false

/-- An inquiry. -/
structure IQ where
  filing : FactV
  state : Int := 1
  line : ByteArray := ⟨#[]⟩
def IQ.vals (q : IQ) : List Value := q.filing.vals ++ ([.int .i64 q.state, .string q.line] : List Value)
/-- A desk. -/
structure DeskV where
  about : FactV
  limit : Int
  fee : Int
  out : Bool := false
  since : Int := 0
  time : Int := 0
  list : List IQ := []
  facts : List FactV := []
def DeskV.cells (d : DeskV) (lv fv : Value) : Array Value := (d.about.vals ++ ([.int .i64 d.limit, .int .i64 d.fee, .bool d.out, .int .i64 d.since, .int .i64 d.time, lv, fv] : List Value)).toArray

/-- The desk d lies at block D; its rows are its own. -/
structure DeskI (w : World) (base D : Nat) (d : DeskV) (lv fv : Value) : Prop where
  low : base ≤ D
  blk : w.heap[D]? = some (.cells (d.cells lv fv) 65 (0, 0))
  list : w.ownsRow base 68 16 lv d.list.length (d.list.flatMap IQ.vals)
  facts : w.ownsRow base 58 14 fv d.facts.length (d.facts.flatMap FactV.vals)
  apart : lv.ownBlock ≠ some D ∧ fv.ownBlock ≠ some D ∧ (∀ g, lv.ownBlock = some g → fv.ownBlock ≠ some g)
  few : d.list.length ≤ 99

theorem DeskI.cell {w : World} {base D : Nat} {d : DeskV} {lv fv : Value} (h : DeskI w base D d lv fv) (j : Nat) : w.cell? ⟨D, j, none⟩ = (d.cells lv fv)[j]? := by
  rw [cell_of_row w D j _ _ _ h.blk]

theorem vals_length (q : IQ) : q.vals.length = 16 := rfl
theorem flat_get (l : List IQ) : ∀ (k : Nat) (h : k < l.length) (j : Nat), j < 16 → (l.flatMap IQ.vals)[k * 16 + j]? = (l[k]).vals[j]? := by
  induction l with
  | nil => intro k h; simp at h
  | cons q r ih =>
    intro k h j hj
    rw [List.flatMap_cons]
    cases k with
    | zero => rw [List.getElem?_append_left (by rw [vals_length]; omega)]; simp
    | succ k =>
      rw [List.getElem?_append_right (by rw [vals_length]; omega), vals_length, show (k + 1) * 16 + j - 16 = k * 16 + j from by omega, ih k (by simpa using h) j hj]
      rfl

theorem DeskI.row {w : World} {base D : Nat} {d : DeskV} {lv fv : Value} (h : DeskI w base D d lv fv) : ∃ A cap, lv = .slice A d.list.length cap ∧
    (0 < d.list.length → ∃ g, A = some ⟨g, 0, none⟩ ∧ ∀ k (hk : k < d.list.length) j, j < 16 → w.cell? ⟨g, k * 16 + j, none⟩ = (d.list[k]).vals[j]?) := by
  obtain ⟨-, ⟨rfl, e⟩ | ⟨g, cap, cur, rfl, -, hblk, hcap, hcm, hsz, htk⟩⟩ := h.list
  · exact ⟨none, 0, by rw [e], fun h => by omega⟩
  · refine ⟨_, cap, rfl, fun _ => ⟨g, rfl, fun k hk j hj => ?_⟩⟩
    have hlt : k * 16 + j < d.list.length * 16 := by omega
    rw [cell_of_row w g (k * 16 + j) cur _ _ hblk, ← flat_get d.list k hk j hj, ← htk, List.getElem?_take_of_lt hlt, Array.getElem?_toList]

def knownE (d : DeskV) (n : Int) : Int := if 1 ≤ n ∧ n ≤ d.list.length then 0 else 8

theorem known_c (base D : Nat) (d : DeskV) (lv fv : Value) (n : Int) (w : World) (h : DeskI w base D d lv fv) :
    Calls Tryd.prog 40 #[.pointer (some ⟨D, 0, none⟩), .int .i64 n] w fun e w' => e = .returned (.int .i64 (knownE d n)) ∧ w = w' := by
  obtain ⟨A, cap, rfl, -⟩ := h.row
  have c19 : w.cell? ⟨D, 19, none⟩ = some (.slice A d.list.length cap) := h.cell 19
  have hf := h.few
  clear h
  by_cases h1 : n < 1
  · have HK : Hid (knownE d n = 8) := Lib.hid (by unfold knownE; rw [if_neg (by omega)])
    go_enter Tryd.func40, Tryd.ntmps40
    go_wp2_with fail
    go_ret
    exact ⟨ret_int46 HK.out.symm, rfl⟩
  · by_cases h2 : n ≤ d.list.length
    · have HK : Hid (knownE d n = 0) := Lib.hid (by unfold knownE; rw [if_pos (by omega)])
      go_enter Tryd.func40, Tryd.ntmps40
      go_wp2_with fail
      go_ret
      exact ⟨ret_int46 HK.out.symm, rfl⟩
    · have HK : Hid (knownE d n = 8) := Lib.hid (by unfold knownE; rw [if_neg (by omega)])
      go_enter Tryd.func40, Tryd.ntmps40
      go_wp2_with fail
      go_ret
      exact ⟨ret_int46 HK.out.symm, rfl⟩

/-- The state of inquiry n, if it is known. -/
def stateOf (d : DeskV) (n : Int) : Int := ((d.list[n.toNat - 1]?).map IQ.state).getD 0
def openE (d : DeskV) (n : Int) : Int := if 1 ≤ n ∧ n ≤ d.list.length then (if stateOf d n = 1 then 0 else 7) else 8

theorem open_c (base D : Nat) (d : DeskV) (lv fv : Value) (n : Int) (w : World) (h : DeskI w base D d lv fv) :
    Calls Tryd.prog 34 #[.pointer (some ⟨D, 0, none⟩), .int .i64 n] w fun e w' => e = .returned (.int .i64 (openE d n)) ∧ w = w' := by
  have HK := Lib.hid (known_c base D d lv fv n w h)
  obtain ⟨A, cap, rfl, hrow⟩ := h.row
  have c19 : w.cell? ⟨D, 19, none⟩ = some (.slice A d.list.length cap) := h.cell 19
  have hf := h.few
  clear h
  by_cases h1 : 1 ≤ n ∧ n ≤ d.list.length
  · obtain ⟨m, rfl⟩ : ∃ m : Nat, n = (m : Int) + 1 := ⟨(n - 1).toNat, by omega⟩
    have hm : m < d.list.length := by omega
    obtain ⟨g, rfl, hc⟩ := hrow (by omega)
    have cs : w.cell? ⟨g, m * 16 + 14, none⟩ = some (.int .i64 d.list[m].state) := hc m hm 14 (by omega)
    have hst : stateOf d ((m : Int) + 1) = d.list[m].state := by
      unfold stateOf
      rw [show ((m : Int) + 1).toNat - 1 = m from by omega, List.getElem?_eq_getElem hm]; rfl
    have HE : Hid (openE d ((m : Int) + 1) = if d.list[m].state = 1 then 0 else 7) := Lib.hid (by unfold openE; rw [if_pos h1, hst])
    have HK2 : knownE d ((m : Int) + 1) = 0 := by unfold knownE; rw [if_pos h1]
    rw [HK2] at HK
    clear hc hrow hst HK2
    generalize d.list[m].state = st at *
    have ix : ((m : Int) + 1 - 1) = m := by omega
    by_cases h1s : st = 1
    · subst h1s
      rw [if_pos rfl] at HE
      go_enter Tryd.func34, Tryd.ntmps34
      go_wp2_with fail
      refine HK.out.mono ?_; rintro e w' ⟨rfl, rfl⟩
      go_wp2_with fail
      go_ret
      exact ⟨ret_int46 HE.out.symm, rfl⟩
    · rw [if_neg h1s] at HE
      have hb : (st == 1) = false := by rw [beq_eq_false_iff_ne]; exact h1s
      go_enter Tryd.func34, Tryd.ntmps34
      go_wp2_with fail
      refine HK.out.mono ?_; rintro e w' ⟨rfl, rfl⟩
      go_wp2_with fail
      go_ret
      exact ⟨ret_int46 HE.out.symm, rfl⟩
  · have HE : Hid (openE d n = 8) := Lib.hid (by unfold openE; rw [if_neg h1])
    have HK2 : knownE d n = 8 := by unfold knownE; rw [if_neg h1]
    rw [HK2] at HK
    clear HK2 hrow
    go_enter Tryd.func34, Tryd.ntmps34
    go_wp2_with fail
    refine HK.out.mono ?_; rintro e w' ⟨rfl, rfl⟩
    go_wp2_with fail
    go_ret
    exact ⟨ret_int46 HE.out.symm, rfl⟩

def pendingB (d : DeskV) : Bool := openE d d.list.length == 0
theorem Pending_c (base D : Nat) (d : DeskV) (lv fv : Value) (w : World) (h : DeskI w base D d lv fv) :
    Calls Tryd.prog 12 #[.pointer (some ⟨D, 0, none⟩)] w fun e w' => e = .returned (.bool (pendingB d)) ∧ w = w' := by
  have HO := Lib.hid (open_c base D d lv fv d.list.length w h)
  obtain ⟨A, cap, rfl, -⟩ := h.row
  have c19 : w.cell? ⟨D, 19, none⟩ = some (.slice A d.list.length cap) := h.cell 19
  have hf := h.few
  clear h
  unfold pendingB
  generalize openE d d.list.length = oe at *
  go_enter Tryd.func12, Tryd.ntmps12
  go_wp2_with fail
  refine HO.out.mono ?_; rintro e w' ⟨rfl, rfl⟩
  go_wp2_with fail
  go_ret
  exact ⟨rfl, rfl⟩

def clockE (d : DeskV) (t : Int) (ok : Bool) : Int := if inTime t && ok then (if t < d.time then 15 else 0) else 1
theorem clock_c (base D : Nat) (d : DeskV) (lv fv : Value) (t : Int) (ok : Bool) (w : World) (h : DeskI w base D d lv fv) :
    Calls Tryd.prog 41 #[.pointer (some ⟨D, 0, none⟩), .int .i64 t, .bool ok] w fun e w' => e = .returned (.int .i64 (clockE d t ok)) ∧ w = w' := by
  have HS := Lib.hid (seconds_c t w)
  have c18 : w.cell? ⟨D, 18, none⟩ = some (.int .i64 d.time) := h.cell 18
  clear h
  unfold clockE
  generalize inTime t = it at *
  generalize d.time = dt at *
  cases it
  · go_enter Tryd.func41, Tryd.ntmps41
    go_wp2_with fail
    refine HS.out.mono ?_; rintro e w' ⟨rfl, rfl⟩
    go_wp2_with fail
    go_ret
    exact ⟨ret_int46 (by simp), rfl⟩
  cases ok
  · go_enter Tryd.func41, Tryd.ntmps41
    go_wp2_with fail
    refine HS.out.mono ?_; rintro e w' ⟨rfl, rfl⟩
    go_wp2_with fail
    go_ret
    exact ⟨ret_int46 (by simp), rfl⟩
  by_cases h1 : t < dt
  all_goals
    go_enter Tryd.func41, Tryd.ntmps41
    go_wp2_with fail
    refine HS.out.mono ?_; rintro e w' ⟨rfl, rfl⟩
    go_wp2_with fail
    go_ret
    exact ⟨ret_int46 (by simp [h1]), rfl⟩

end Go.Proofs.YtbbngcacfdgahaaDoor
