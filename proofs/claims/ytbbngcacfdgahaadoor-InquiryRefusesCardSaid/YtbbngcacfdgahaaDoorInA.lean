/- Chapter 46: the desk in memory; the contracts of seconds and of New. -/
import Derived.Test.YtbbngcacfdgahaaDoorIdF
namespace Go.Proofs.YtbbngcacfdgahaaDoor
open Go.RowKit
set_option linter.unusedVariables false
set_option linter.unusedSimpArgs false

def inTime (n : Int) : Bool := decide (0 ≤ n) && decide (n ≤ 1000000000)
theorem ret_int46 {a b : Int} (h : a = b) : Ending.returned (.int .i64 a) = Ending.returned (.int .i64 b) := by rw [h]

theorem seconds_c (n : Int) (w : World) : Calls Tryd.prog 31 #[.int .i64 n] w fun e w' => e = .returned (.bool (inTime n)) ∧ w = w' := by
  by_cases h0 : 0 ≤ n <;> by_cases h1 : n ≤ 1000000000
  all_goals
    go_enter Tryd.func31, Tryd.ntmps31
    go_wp2
    all_goals first | (exfalso; omega) | (go_ret; exact ⟨by simp [inTime, h0, h1], rfl⟩)

end Go.Proofs.YtbbngcacfdgahaaDoor
