/- Contracts of the small functions of package ident. -/
import Derived.Test.YtbbngcacfdgahaaDoorProg
import Derived.WalkKit
import Derived.WalkSpells
import Derived.WalkLawsBesides
import Derived.Lib.Hide
import Derived.Deep.QuietTactic
import Derived.BigQuiet
import Derived.Shelf.Abstract
namespace Go.Proofs.YtbbngcacfdgahaaDoor
open Go.RowKit
set_option linter.unusedVariables false
set_option linter.unusedSimpArgs false

def isDigit (b : Int) : Bool := decide (48 ≤ b) && decide (b ≤ 57)
def isLower (b : Int) : Bool := decide (97 ≤ b) && decide (b ≤ 122)
def isUpper (b : Int) : Bool := decide (65 ≤ b) && decide (b ≤ 90)

theorem digit_c (b : Int) (w : World) (h0 : 0 ≤ b) (h1 : b < 256) :
    Calls Tryd.prog 56 #[.int .u8 b] w fun e w' => e = .returned (.bool (isDigit b)) ∧ w = w' := by
  by_cases h1 : 48 ≤ b <;> by_cases h2 : b ≤ 57
  all_goals
    go_enter Tryd.func56, Tryd.ntmps56
    go_wp2
    all_goals first | (exfalso; omega) | (go_ret; exact ⟨by simp [isDigit, h1, h2], rfl⟩)

theorem lower_c (b : Int) (w : World) (h0 : 0 ≤ b) (h1 : b < 256) :
    Calls Tryd.prog 55 #[.int .u8 b] w fun e w' => e = .returned (.bool (isLower b)) ∧ w = w' := by
  by_cases h1 : 97 ≤ b <;> by_cases h2 : b ≤ 122
  all_goals
    go_enter Tryd.func55, Tryd.ntmps55
    go_wp2
    all_goals first | (exfalso; omega) | (go_ret; exact ⟨by simp [isLower, h1, h2], rfl⟩)

/-- What is asked of the predicate that is handed on: it may write what is its own. -/
def Accepts (P : Program) (g : Nat) (lb : Array Value) (p : UInt8 → Bool) (N : Nat) (I : List UInt8 → World → Prop) : Prop :=
  ∀ (pre : List UInt8) (c : UInt8) (W : World), pre.length < N → I pre W → Calls P g (#[.int .u8 c.toNat] ++ lb) W fun e W' => e = .returned (.bool (p c)) ∧ I (pre ++ [c]) W'

/-- What 'every' answers. -/
def everyB (most : Int) (p : UInt8 → Bool) (l : List UInt8) : Bool := decide (1 ≤ l.length) && decide ((l.length : Int) ≤ most) && l.all p

def EveryPost (most : Int) (p : UInt8 → Bool) (I : List UInt8 → World → Prop) (l : List UInt8) (e : Ending) (w' : World) : Prop :=
  e = .returned (.bool (everyB most p l)) ∧ ∃ pre, I pre w' ∧ (everyB most p l = true → pre = l)

theorem take_snoc (s : ByteArray) (k : Nat) (h : k < s.size) : s.data.toList.take (k + 1) = s.data.toList.take k ++ [s[k]] := by
  rw [List.take_succ_eq_append_getElem (by simpa using h)]; rfl

theorem all_take_false {p : UInt8 → Bool} (s : ByteArray) (k : Nat) (h : k < s.size) (hp : p s[k] = false) : s.data.toList.all p = false := by
  rw [List.all_eq_false]
  exact ⟨s[k], by rw [ByteArray.getElem_eq_getElem_data]; exact Array.mem_toList_iff.2 (Array.getElem_mem _), by simp [hp]⟩

theorem all_take_snoc {p : UInt8 → Bool} (s : ByteArray) (k : Nat) (h : k < s.size) (ha : (s.data.toList.take k).all p = true) (hp : p s[k] = true) : (s.data.toList.take (k + 1)).all p = true := by
  rw [take_snoc s k h]; simp [ha, hp]

set_option maxHeartbeats 1000000 in
theorem every_c (s : ByteArray) (most : Int) (g : Nat) (lb : Array Value) (p : UInt8 → Bool) (I : List UInt8 → World → Prop) (w : World)
    (hs : s.size ≤ 9223372036854775807) (hm : -9223372036854775808 ≤ most) (hm' : most ≤ 9223372036854775807) (hI : I [] w) (eg : ∀ args w, (callFunc g args).run Tryd.prog w = .ok (.enter g args) w)
    (hg : Accepts Tryd.prog g lb p s.size I) :
    Calls Tryd.prog 53 #[.string s, .int .i64 most, .func (.func g) #[] lb] w (EveryPost most p I s.data.toList) := by
  have hl : s.data.toList.length = s.size := rfl
  by_cases h1 : s.size < 1
  · have he : everyB most p s.data.toList = false := by unfold everyB; rw [hl]; simp [show ¬ 1 ≤ s.size by omega]
    go_enter Tryd.func53, Tryd.ntmps53
    go_wp2
    go_ret
    exact ⟨by rw [he]; rfl, [], hI, fun h => by rw [he] at h; cases h⟩
  by_cases h2 : most < s.size
  · have he : everyB most p s.data.toList = false := by unfold everyB; rw [hl]; simp [show ¬ (s.size : Int) ≤ most by omega]
    go_enter Tryd.func53, Tryd.ntmps53
    go_wp2
    go_ret
    exact ⟨by rw [he]; rfl, [], hI, fun h => by rw [he] at h; cases h⟩
  have he : everyB most p s.data.toList = s.data.toList.all p := by unfold everyB; rw [hl]; simp [show 1 ≤ s.size by omega, show (s.size : Int) ≤ most by omega]
  have He := Lib.hid he; clear he
  clear hl
  go_enter Tryd.func53, Tryd.ntmps53
  go_wp2
  go_loopw [19] (fun i wr => ∃ k : Nat, k ≤ s.size ∧ i = .int .i64 k ∧ I (s.data.toList.take k) wr ∧ (s.data.toList.take k).all p = true) (fun i _ => s.size - (intOf i).toNat)
  case atStart => exact ⟨0, Nat.zero_le _, rfl, by simpa using hI, by simp⟩
  case round =>
    obtain ⟨k, hk, rfl, hi0, ha0⟩ := hrel
    have hi := Lib.hid hi0; clear hi0
    have ha := Lib.hid ha0; clear ha0
    by_cases hlt : k < s.size
    · cases hp0 : p s[k]
      · have hp := Lib.hid hp0; clear hp0
        go_wp2_with (go_at_fn g; refine (hg _ _ _ (by simp; omega) hi.out).mono ?_; rintro e w' ⟨rfl, hi'⟩; rw [hp.out])
        go_ret
        have hf : everyB most p s.data.toList = false := by rw [He.out]; exact all_take_false s k hlt hp.out
        exact ⟨by rw [hf]; rfl, _, hi', fun h => by rw [hf] at h; cases h⟩
      · have hp := Lib.hid hp0; clear hp0
        go_wp2_with (go_at_fn g; refine (hg _ _ _ (by simp; omega) hi.out).mono ?_; rintro e w' ⟨rfl, hi'⟩; rw [hp.out])
        go_roundw
        case rel => exact ⟨k + 1, by omega, by go_num, by rw [take_snoc s k hlt]; exact hi', all_take_snoc s k hlt ha.out hp.out⟩
        case measure => simp [intOf]; omega
    · go_wp2
      go_ret
      have hk' : s.data.toList.take k = s.data.toList := List.take_of_length_le (by simp; omega)
      have hf : everyB most p s.data.toList = true := by rw [He.out, ← hk']; exact ha.out
      exact ⟨by rw [hf]; rfl, _, hi.out, fun _ => hk'⟩

end Go.Proofs.YtbbngcacfdgahaaDoor
