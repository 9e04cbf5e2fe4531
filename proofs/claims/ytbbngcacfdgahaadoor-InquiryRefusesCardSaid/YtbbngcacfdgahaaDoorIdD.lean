/- Contracts of Code and Title of package ident. -/
import Derived.Test.YtbbngcacfdgahaaDoorIdC
import Derived.Test.YtbbngcacfdgahaaDoorShelf
import Derived.Lib.SmallJoins
import Derived.Lib.AppendIntMem
namespace Go.Proofs.YtbbngcacfdgahaaDoor
open Go.RowKit
set_option linter.unusedVariables false
set_option linter.unusedSimpArgs false

def isLetter (c : UInt8) : Bool := isUpper c.toNat || isLower c.toNat
def codeChar (c : UInt8) : Bool := isLetter c || isDigit c.toNat
def codeS (l : List UInt8) : Bool := everyB 8 codeChar l && l.any isLetter
def letters (l : List UInt8) : Nat := (l.filter isLetter).length

theorem letters_snoc_t {l : List UInt8} {c : UInt8} (h : isLetter c = true) : letters (l ++ [c]) = letters l + 1 := by simp [letters, List.filter_append, h]
theorem letters_snoc_f {l : List UInt8} {c : UInt8} (h : isLetter c = false) : letters (l ++ [c]) = letters l := by simp [letters, List.filter_append, h]
theorem letters_le (l : List UInt8) : letters l ≤ l.length := List.length_filter_le _ _
theorem letters_pos (l : List UInt8) : (0 < letters l) ↔ l.any isLetter = true := by
  unfold letters; rw [List.length_pos_iff_exists_mem]; simp [List.any_eq_true]

/-- The table of white space that strings.TrimSpace reads lies as its initialiser lays it. -/
def Tabs (w : World) : Prop := Lib.TabIs Tryd.prog w "strings.asciiSpace" .u8 Lib.asciiSpaceTab

theorem Tabs.below {w w' : World} (h : Tabs w) (hb : Below w.heap.size w w') : Tabs w' := by
  unfold Tabs at *
  exact Lib.tabBelow_of_tabIs h w' hb

theorem str_toList (s : ByteArray) : s.toList = s.data.toList := Lib.toList_data s

def titleS (l : List UInt8) : Bool := everyB 40 titleChar l && decide (l.head? ≠ some 32) && decide (l.getLast? ≠ some 32)

theorem dropWhile_isSp {l : List UInt8} (h : l.all titleChar = true) : l.dropWhile Lib.isSp = l ↔ l.head? ≠ some 32 := by
  cases l with
  | nil => simp
  | cons c r =>
    simp only [List.all_cons, Bool.and_eq_true] at h
    have hc := h.1
    unfold titleChar at hc
    simp only [Bool.and_eq_true, decide_eq_true_eq] at hc
    by_cases h32 : c = 32
    · subst h32
      have : Lib.isSp 32 = true := by decide
      rw [List.dropWhile_cons_of_pos this]
      simp only [List.head?_cons, ne_eq, not_true_eq_false, iff_false]
      intro e
      have := congrArg List.length e
      have h2 := (List.dropWhile_suffix Lib.isSp (l := r)).length_le
      simp at this; omega
    · have : Lib.isSp c = false := by
        unfold Lib.isSp
        have n9 : c ≠ 9 := by intro e; subst e; simp at hc
        have n10 : c ≠ 10 := by intro e; subst e; simp at hc
        have n11 : c ≠ 11 := by intro e; subst e; simp at hc
        have n12 : c ≠ 12 := by intro e; subst e; simp at hc
        have n13 : c ≠ 13 := by intro e; subst e; simp at hc
        simp [n9, n10, n11, n12, n13, h32]
      rw [List.dropWhile_cons_of_neg (by simp [this])]
      simp [h32]

theorem trimSpace_eq {l : List UInt8} (h : l.all titleChar = true) : Lib.trimSpace l = l ↔ (l.head? ≠ some 32 ∧ l.getLast? ≠ some 32) := by
  unfold Lib.trimSpace
  constructor
  · intro e
    have hle : (((l.dropWhile Lib.isSp).reverse.dropWhile Lib.isSp).reverse).length = l.length := by rw [e]
    have h1 := (List.dropWhile_suffix Lib.isSp (l := l)).length_le
    have h2 := (List.dropWhile_suffix Lib.isSp (l := (l.dropWhile Lib.isSp).reverse)).length_le
    simp only [List.length_reverse] at hle h2
    have hd : l.dropWhile Lib.isSp = l := by
      have hs : l.dropWhile Lib.isSp <:+ l := List.dropWhile_suffix _
      exact hs.eq_of_length (by omega)
    refine ⟨(dropWhile_isSp h).1 hd, ?_⟩
    rw [hd] at e
    have hr : l.reverse.dropWhile Lib.isSp = l.reverse := by
      have := congrArg List.reverse e
      simpa using this
    have := (dropWhile_isSp (l := l.reverse) (by simpa using h)).1 hr
    simpa using this
  · rintro ⟨a, b⟩
    rw [(dropWhile_isSp h).2 a, (dropWhile_isSp (l := l.reverse) (by simpa using h)).2 (by simpa using b), List.reverse_reverse]

set_option maxHeartbeats 400000 in
theorem Title_c (s : ByteArray) (w : World) (hs : s.size ≤ 9223372036854775807) (ht : Tabs w) :
    Calls Tryd.prog 42 #[.string s] w fun e w' => e = .returned (.bool (titleS s.data.toList)) ∧ Below w.heap.size w w' := by
  cases he0 : everyB 40 titleChar s.data.toList
  · have He := Lib.hid he0; clear he0
    have Hn : Hid (titleS s.data.toList = false) := by unfold titleS; rw [He.out]; rfl
    go_enter Tryd.func42, Tryd.ntmps42
    go_wp2_with (go_at_call 53; refine (every_pure _ _ _ titleChar _ hs (by omega) (by omega) (enters_of Tryd.func62 (by kernel_rfl) rfl) titleB_c).mono ?_; rintro e w' ⟨rfl, rfl⟩; rw [He.out])
    go_ret
    exact ⟨by rw [Hn.out]; rfl, Below.refl _ _⟩
  · have He := Lib.hid he0
    have hall : s.data.toList.all titleChar = true := by
      unfold everyB at he0; simp only [Bool.and_eq_true] at he0; exact he0.2
    clear he0
    have hasc : ∀ (j : Nat) b, s.data.toList[j]? = some b → b.toNat < 128 := by
      intro j b hb
      have := List.all_eq_true.1 hall b (List.mem_of_getElem? hb)
      unfold titleChar at this
      simp only [Bool.and_eq_true, decide_eq_true_eq] at this
      omega
    have Hn : Hid (titleS s.data.toList = (Lib.trimSpace s.data.toList == s.toList)) := by
      show _ = _
      rw [str_toList]
      show _ = (Lib.trimSpace s.data.toList == s.data.toList)
      have he := trimSpace_eq hall
      unfold titleS; rw [He.out]
      by_cases h : Lib.trimSpace s.data.toList = s.data.toList
      · rw [h]
        obtain ⟨a, b⟩ := he.1 h
        simp only [a, b, ne_eq, not_false_eq_true, decide_true, Bool.and_self, beq_self_eq_true]
      · have hn : (Lib.trimSpace s.data.toList == s.data.toList) = false := by simpa using h
        rw [hn]
        have hc : ¬ (s.data.toList.head? ≠ some 32 ∧ s.data.toList.getLast? ≠ some 32) := fun q => h (he.2 q)
        simp only [ne_eq, not_and, Bool.true_and, Bool.and_eq_false_imp, decide_eq_true_eq, decide_eq_false_iff_not] at hc ⊢
        exact fun a => hc a
    have hT := Tryd.strings_TrimSpace s w hs hasc ht
    clear hasc
    have HALL := Lib.hid hall; clear hall
    have HT := Lib.hid hT; clear hT
    go_enter Tryd.func42, Tryd.ntmps42
    go_wp2_with (first | (go_at_call 53; refine (every_pure _ _ _ titleChar _ hs (by omega) (by omega) (enters_of Tryd.func62 (by kernel_rfl) rfl) titleB_c).mono ?_; rintro e w' ⟨rfl, rfl⟩; rw [He.out]) | (go_at_call 63; refine HT.out.mono ?_; rintro e w' ⟨rfl, rfl⟩))
    go_ret
    exact ⟨by rw [Hn.out]; rfl, Joins.below_bytesWorld _ _ _ _ (Nat.le_refl _)⟩

end Go.Proofs.YtbbngcacfdgahaaDoor
