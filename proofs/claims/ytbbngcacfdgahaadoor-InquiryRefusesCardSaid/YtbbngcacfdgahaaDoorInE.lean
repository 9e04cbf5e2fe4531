/- Chapter 46: decide, Fees: their contracts. -/
import Derived.Test.YtbbngcacfdgahaaDoorInD
namespace Go.Proofs.YtbbngcacfdgahaaDoor
open Go.RowKit
set_option linter.unusedVariables false
set_option linter.unusedSimpArgs false

/-- The error of a decision. -/
def decideE (d : DeskV) (n t : Int) (ok : Bool) : Int := if clockE d t ok = 0 then openE d n else clockE d t ok
def DecPost (w : World) (D : Nat) (t k : Int) (e : Ending) (w' : World) : Prop := e = .returned (.int .i64 k) ∧ w' = if k = 0 then w.setCell ⟨D, 18, none⟩ (.int .i64 t) else w
theorem DecPost.no {w : World} {D : Nat} {t k : Int} (h : k ≠ 0) : DecPost w D t k (.returned (.int .i64 k)) w := ⟨rfl, by rw [if_neg h]⟩
theorem DecPost.yes {w : World} {D : Nat} {t : Int} : DecPost w D t 0 (.returned (.int .i64 0)) (w.setCell ⟨D, 18, none⟩ (.int .i64 t)) := ⟨rfl, rfl⟩

theorem decide_c (base D : Nat) (d : DeskV) (lv fv : Value) (n t : Int) (ok : Bool) (w : World) (h : DeskI w base D d lv fv) :
    Calls Tryd.prog 52 #[.pointer (some ⟨D, 0, none⟩), .int .i64 n, .int .i64 t, .bool ok] w (DecPost w D t (decideE d n t ok)) := by
  have HC := Lib.hid (clock_c base D d lv fv t ok w h)
  have HO := Lib.hid (open_c base D d lv fv n w h)
  have f18 : w.frozen? ⟨D, 18, none⟩ = false := frozen_block h.blk
  have c18 : w.cell? ⟨D, 18, none⟩ = some (.int .i64 d.time) := h.cell 18
  clear h
  unfold decideE
  generalize clockE d t ok = k at *
  generalize openE d n = j at *
  by_cases h0 : k = 0
  · subst h0
    rw [if_pos rfl]
    by_cases h1 : j = 0
    · subst h1
      go_enter Tryd.func52, Tryd.ntmps52
      go_wp2_with fail
      refine HC.out.mono ?_; rintro e w' ⟨rfl, rfl⟩
      go_wp2_with fail
      refine HO.out.mono ?_; rintro e w' ⟨rfl, rfl⟩
      go_wp2_with fail
      go_ret
      exact DecPost.yes
    · have hj : (j == 0) = false := by rw [beq_eq_false_iff_ne]; exact h1
      have HP := Lib.hid (DecPost.no (w := w) (D := D) (t := t) h1)
      go_enter Tryd.func52, Tryd.ntmps52
      go_wp2_with fail
      refine HC.out.mono ?_; rintro e w' ⟨rfl, rfl⟩
      go_wp2_with fail
      refine HO.out.mono ?_; rintro e w' ⟨rfl, rfl⟩
      go_wp2_with fail
      go_ret
      exact HP.out
  · rw [if_neg h0]
    have hk : (k == 0) = false := by rw [beq_eq_false_iff_ne]; exact h0
    have HP := Lib.hid (DecPost.no (w := w) (D := D) (t := t) h0)
    go_enter Tryd.func52, Tryd.ntmps52
    go_wp2_with fail
    refine HC.out.mono ?_; rintro e w' ⟨rfl, rfl⟩
    go_wp2_with fail
    go_ret
    exact HP.out

/-- The fees of the first k inquiries. -/
def feesV (d : DeskV) (k : Nat) : Int := (d.list.take k).foldl (fun s q => if q.state = 3 then s + d.fee else s) 0
theorem feesV_succ (d : DeskV) (k : Nat) (h : k < d.list.length) : feesV d (k + 1) = if d.list[k].state = 3 then feesV d k + d.fee else feesV d k := by
  unfold feesV
  rw [List.take_succ_eq_append_getElem h, List.foldl_append]; rfl
theorem feesV_bound (d : DeskV) (h0 : 0 ≤ d.fee) (h1 : d.fee ≤ 1000000) : ∀ k, k ≤ d.list.length → 0 ≤ feesV d k ∧ feesV d k ≤ 1000000 * k := by
  intro k
  induction k with
  | zero => intro _; simp [feesV]
  | succ k ih =>
    intro h
    rw [feesV_succ d k (by omega)]
    have := ih (by omega)
    split <;> constructor <;> omega

end Go.Proofs.YtbbngcacfdgahaaDoor
