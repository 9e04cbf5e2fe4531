/- Contracts of Name, Title, Federation, Code, Bib of package ident. -/
import Derived.Test.YtbbngcacfdgahaaDoorIdB

namespace Go.Proofs.YtbbngcacfdgahaaDoor
open Go.RowKit
set_option linter.unusedVariables false
set_option linter.unusedSimpArgs false

theorem federationB_c (c : UInt8) (w : World) :
    Calls Tryd.prog 65 #[.int .u8 c.toNat] w fun e w' => e = .returned (.bool (isUpper c.toNat)) ∧ w = w' := by
  obtain ⟨h0, h1⟩ := u8_lt c
  generalize (c.toNat : Int) = b at *
  by_cases h1 : 65 ≤ b <;> by_cases h2 : b ≤ 90
  all_goals
    go_enter Tryd.func65, Tryd.ntmps65
    go_wp2
    all_goals first | (exfalso; omega) | (go_ret; exact ⟨by simp [isUpper, h1, h2], rfl⟩)

/-- 'every' with a predicate that turns nothing. -/
theorem every_pure (s : ByteArray) (most : Int) (g : Nat) (p : UInt8 → Bool) (w : World) (hs : s.size ≤ 9223372036854775807) (hm : -9223372036854775808 ≤ most) (hm' : most ≤ 9223372036854775807)
    (eg : ∀ args w, (callFunc g args).run Tryd.prog w = .ok (.enter g args) w) (hg : ∀ (c : UInt8) (W : World), Calls Tryd.prog g #[.int .u8 c.toNat] W fun e w' => e = .returned (.bool (p c)) ∧ W = w') :
    Calls Tryd.prog 53 #[.string s, .int .i64 most, .func (.func g) #[] #[]] w fun e w' => e = .returned (.bool (everyB most p s.data.toList)) ∧ w = w' := by
  refine (every_c s most g #[] p (fun _ W => W = w) w hs hm hm' rfl eg ?_).mono ?_
  · rintro pre c W _ rfl
    exact (hg c W).mono (by rintro e w' ⟨he, rfl⟩; exact ⟨he, rfl⟩)
  · rintro e w' ⟨he, pre, hp, _⟩
    exact ⟨he, hp.symm⟩

def nameS (l : List UInt8) : Bool := everyB 16 nameChar l && isLower ((l.getD 0 0).toNat : Int)
def federationS (l : List UInt8) : Bool := everyB 3 (fun c => isUpper c.toNat) l && decide (l.length = 3)

set_option maxHeartbeats 400000 in
theorem Name_c (s : ByteArray) (w : World) (hs : s.size ≤ 9223372036854775807) :
    Calls Tryd.prog 29 #[.string s] w fun e w' => e = .returned (.bool (nameS s.data.toList)) ∧ w = w' := by
  cases he0 : everyB 16 nameChar s.data.toList
  · have He := Lib.hid he0; clear he0
    have Hn : Hid (nameS s.data.toList = false) := by unfold nameS; rw [He.out]; rfl
    go_enter Tryd.func29, Tryd.ntmps29
    go_wp2_with (go_at_call 53; refine (every_pure _ _ _ nameChar _ hs (by omega) (by omega) (enters_of Tryd.func54 (by kernel_rfl) rfl) nameB_c).mono ?_; rintro e w' ⟨rfl, rfl⟩; rw [He.out])
    go_ret
    exact ⟨by rw [Hn.out]; rfl, rfl⟩
  · have He := Lib.hid he0
    have hlen : 1 ≤ s.size := by
      unfold everyB at he0; simp only [Bool.and_eq_true, decide_eq_true_eq] at he0; exact he0.1.1
    clear he0
    have h0 : (0 : Nat) < s.size := hlen
    have Hn : Hid (nameS s.data.toList = isLower (s[0].toNat : Int)) := by
      unfold nameS; rw [He.out]
      have : s.data.toList.getD 0 0 = s[0] := by
        rw [List.getD_eq_getElem?_getD, List.getElem?_eq_getElem (by simpa using h0)]; rfl
      rw [this]; rfl
    obtain ⟨b0, b1⟩ := u8_lt s[0]
    go_enter Tryd.func29, Tryd.ntmps29
    go_wp2_with (first | (go_at_call 53; refine (every_pure _ _ _ nameChar _ hs (by omega) (by omega) (enters_of Tryd.func54 (by kernel_rfl) rfl) nameB_c).mono ?_; rintro e w' ⟨rfl, rfl⟩; rw [He.out]) | (go_at_call 55; refine (lower_c _ _ (by omega) (by omega)).mono ?_; rintro e w' ⟨rfl, rfl⟩))
    go_ret
    exact ⟨by rw [Hn.out]; rfl, rfl⟩

set_option maxHeartbeats 400000 in
theorem Federation_c (s : ByteArray) (w : World) (hs : s.size ≤ 9223372036854775807) :
    Calls Tryd.prog 48 #[.string s] w fun e w' => e = .returned (.bool (federationS s.data.toList)) ∧ w = w' := by
  have hl : s.data.toList.length = s.size := rfl
  cases he0 : everyB 3 (fun c => isUpper c.toNat) s.data.toList
  · have He := Lib.hid he0; clear he0
    have Hn : Hid (federationS s.data.toList = false) := by unfold federationS; rw [He.out]; rfl
    clear hl
    go_enter Tryd.func48, Tryd.ntmps48
    go_wp2_with (go_at_call 53; refine (every_pure _ _ _ (fun c => isUpper c.toNat) _ hs (by omega) (by omega) (enters_of Tryd.func65 (by kernel_rfl) rfl) federationB_c).mono ?_; rintro e w' ⟨rfl, rfl⟩; rw [He.out])
    go_ret
    exact ⟨by rw [Hn.out]; rfl, rfl⟩
  · have He := Lib.hid he0
    clear he0
    have Hn : Hid (federationS s.data.toList = ((s.size : Int) == 3)) := by
      unfold federationS; rw [He.out, hl]
      show _ = _
      by_cases h : s.size = 3
      · simp [h]
      · have : ((s.size : Int) == 3) = false := by simp; omega
        rw [this]; simp [h]
    clear hl
    go_enter Tryd.func48, Tryd.ntmps48
    go_wp2_with (go_at_call 53; refine (every_pure _ _ _ (fun c => isUpper c.toNat) _ hs (by omega) (by omega) (enters_of Tryd.func65 (by kernel_rfl) rfl) federationB_c).mono ?_; rintro e w' ⟨rfl, rfl⟩; rw [He.out])
    go_ret
    exact ⟨by rw [Hn.out]; rfl, rfl⟩

theorem Bib_c (n : Int) (w : World) :
    Calls Tryd.prog 30 #[.int .i64 n] w fun e w' => e = .returned (.bool (decide (1 ≤ n) && decide (n ≤ 9999))) ∧ w = w' := by
  by_cases h1 : 1 ≤ n <;> by_cases h2 : n ≤ 9999
  all_goals
    go_enter Tryd.func30, Tryd.ntmps30
    go_wp2
    all_goals first | (exfalso; omega) | (go_ret; exact ⟨by simp [h1, h2], rfl⟩)

end Go.Proofs.YtbbngcacfdgahaaDoor
