/- Contracts of Code and Title of package ident. -/
import Derived.Test.YtegjcmoneemhjaaDoorIdC
import Derived.Test.YtegjcmoneemhjaaDoorShelf
import Derived.Lib.SmallJoins
import Derived.Lib.AppendIntMem
namespace Go.Proofs.YtegjcmoneemhjaaDoor
open Go.RowKit
set_option linter.unusedVariables false
set_option linter.unusedSimpArgs false

def isLetter (c : UInt8) : Bool := isUpper c.toNat || isLower c.toNat
def codeChar (c : UInt8) : Bool := isLetter c || isDigit c.toNat
def codeS (l : List UInt8) : Bool := everyB 8 codeChar l && l.any isLetter
def letters (l : List UInt8) : Nat := (l.filter isLetter).length

theorem letters_snoc_t {l : List UInt8} {c : UInt8} (h : isLetter c = true) : letters (l ++ [c]) = letters l + 1 := by simp [letters, List.filter_append, h]
theorem letters_snoc_f {l : List UInt8} {c : UInt8} (h : isLetter c = false) : letters (l ++ [c]) = letters l := by simp [letters, List.filter_append, h]
theorem letters_le (l : List UInt8) : letters l ≤ l.length := List.length_filter_le _ _
theorem letters_pos (l : List UInt8) : (0 < letters l) ↔ l.any isLetter = true := by
  unfold letters; rw [List.length_pos_iff_exists_mem]; simp [List.any_eq_true]

/-- What the closure of Code keeps: the count in its box. -/
def CodeI (w : World) (pre : List UInt8) (W : World) : Prop :=
  W.heap[w.heap.size]? = some (.cells #[.int .i64 (letters pre : Int)] 3 (0, 0)) ∧ Below w.heap.size w W

theorem CodeI.cell {w W : World} {pre : List UInt8} (h : CodeI w pre W) : W.cell? ⟨w.heap.size, 0, none⟩ = some (.int .i64 (letters pre : Int)) := by
  unfold World.cell?; rw [h.1]; rfl
theorem CodeI.frozen {w W : World} {pre : List UInt8} (h : CodeI w pre W) : W.frozen? ⟨w.heap.size, 0, none⟩ = false := by
  unfold World.frozen?; rw [h.1]; simp
theorem CodeI.set {w W : World} {pre pre' : List UInt8} (h : CodeI w pre W) : (letters pre' : Int) = (letters pre : Int) + 1 → CodeI w pre' (W.setCell ⟨w.heap.size, 0, none⟩ (.int .i64 ((letters pre : Int) + 1))) := by
  intro e
  refine ⟨?_, h.2.setCell (Nat.le_refl _) _⟩
  have hl := (Array.getElem?_eq_some_iff.1 h.1).1
  simp only [World.setCell, Array.getElem?_modify]
  rw [if_pos trivial, h.1, ← e]
  rfl

theorem CodeI.same {w W : World} {pre pre' : List UInt8} (h : CodeI w pre W) (e : letters pre' = letters pre) : CodeI w pre' W := ⟨by rw [e]; exact h.1, h.2⟩

theorem CodeI.start (w : World) : CodeI w [] (w.alloc (.cells #[.int .i64 0] 3)) :=
  ⟨by show (w.heap.push _)[w.heap.size]? = _; simp [letters], (Below.refl _ _).alloc (Nat.le_refl _) _⟩

set_option maxHeartbeats 400000 in
theorem codeB_c (w : World) (pre : List UInt8) (c : UInt8) (W : World) (hp : pre.length < 9223372036854775807) (hI : CodeI w pre W) :
    Calls Tryd.prog 49 #[.int .u8 c.toNat, .pointer (some ⟨w.heap.size, 0, none⟩)] W fun e W' => e = .returned (.bool (codeChar c)) ∧ CodeI w (pre ++ [c]) W' := by
  obtain ⟨h0, h1⟩ := u8_lt c
  have hle := letters_le pre
  cases hu0 : isUpper c.toNat
  · cases hl0 : isLower c.toNat
    · have hs : letters (pre ++ [c]) = letters pre := letters_snoc_f (by simp [isLetter, hu0, hl0])
      have HI := Lib.hid (hI.same hs); clear hI hs
      have HC : Hid (codeChar c = isDigit c.toNat) := Lib.hid (by simp [codeChar, isLetter, hu0, hl0])
      have hu := Lib.hid hu0; clear hu0
      have hl := Lib.hid hl0; clear hl0
      go_enter Tryd.func49, Tryd.ntmps49
      go_wp2_with (first | (go_at_call 48; refine (federationB_c c _).mono ?_; rintro e w' ⟨rfl, rfl⟩; rw [hu.out]) | (go_at_call 45; refine (lower_c _ _ (by omega) (by omega)).mono ?_; rintro e w' ⟨rfl, rfl⟩; rw [hl.out]) | (go_at_call 46; refine (digit_c _ _ (by omega) (by omega)).mono ?_; rintro e w' ⟨rfl, rfl⟩))
      go_ret
      exact ⟨by rw [HC.out]; rfl, HI.out⟩
    · have hs : (letters (pre ++ [c]) : Int) = (letters pre : Int) + 1 := by rw [letters_snoc_t (by simp [isLetter, hl0])]; rfl
      have HI := Lib.hid (hI.set hs); have hc := hI.cell; have hf := hI.frozen; clear hI hs
      have HC : Hid (codeChar c = true) := Lib.hid (by simp [codeChar, isLetter, hl0])
      have hu := Lib.hid hu0; clear hu0
      have hl := Lib.hid hl0; clear hl0
      go_enter Tryd.func49, Tryd.ntmps49
      go_wp2_with (first | (go_at_call 48; refine (federationB_c c _).mono ?_; rintro e w' ⟨rfl, rfl⟩; rw [hu.out]) | (go_at_call 45; refine (lower_c _ _ (by omega) (by omega)).mono ?_; rintro e w' ⟨rfl, rfl⟩; rw [hl.out]))
      go_ret
      exact ⟨by rw [HC.out]; rfl, HI.out⟩
  · have hs : (letters (pre ++ [c]) : Int) = (letters pre : Int) + 1 := by rw [letters_snoc_t (by simp [isLetter, hu0])]; rfl
    have HI := Lib.hid (hI.set hs); have hc := hI.cell; have hf := hI.frozen; clear hI hs
    have HC : Hid (codeChar c = true) := Lib.hid (by simp [codeChar, isLetter, hu0])
    have hu := Lib.hid hu0; clear hu0
    go_enter Tryd.func49, Tryd.ntmps49
    go_wp2_with (first | (go_at_call 48; refine (federationB_c c _).mono ?_; rintro e w' ⟨rfl, rfl⟩; rw [hu.out]))
    go_ret
    exact ⟨by rw [HC.out]; rfl, HI.out⟩

/-- The closure's word with a bound on what has come. -/
theorem codeB_accepts (w : World) (N : Nat) (hN : N < 9223372036854775807) : Accepts Tryd.prog 49 #[.pointer (some ⟨w.heap.size, 0, none⟩)] codeChar N (CodeI w) :=
  fun pre c W hp hI => codeB_c w pre c W (by omega) hI

set_option maxHeartbeats 400000 in
theorem Code_c (s : ByteArray) (w : World) (hs : s.size ≤ 140737488351232) :
    Calls Tryd.prog 16 #[.string s] w fun e w' => e = .returned (.bool (codeS s.data.toList)) ∧ Below w.heap.size w w' := by
  have hE : ∀ W : World, CodeI w [] W → Calls Tryd.prog 43 #[.string s, .int .i64 8, .func (.func 49) #[] #[.pointer (some ⟨w.heap.size, 0, none⟩)]] W (EveryPost 8 codeChar (CodeI w) s.data.toList) :=
    fun W hW => every_c s 8 49 _ codeChar (CodeI w) W (by omega) (by omega) (by omega) hW (enters_of Tryd.func49 (by kernel_rfl) rfl) (codeB_accepts w s.size (by omega))
  have HE := Lib.hid hE; clear hE
  cases hb0 : everyB 8 codeChar s.data.toList
  · have hb := Lib.hid hb0; clear hb0
    have Hn : Hid (codeS s.data.toList = false) := by unfold codeS; rw [hb.out]; rfl
    go_enter Tryd.func16, Tryd.ntmps16
    go_wp2_with (go_at_call 43; refine (HE.out _ ?_).mono ?_; exact CodeI.start w; rintro e w' ⟨rfl, pre, hI, hp⟩; rw [hb.out]; have hc := hI.cell; have HI := Lib.hid hI; clear hI hp)
    go_ret
    exact ⟨by rw [Hn.out]; rfl, HI.out.2⟩
  · have hb := Lib.hid hb0; clear hb0
    have Hn : Hid (codeS s.data.toList = decide (0 < letters s.data.toList)) := by
      show _ = _
      unfold codeS; rw [hb.out, Bool.eq_iff_iff, decide_eq_true_iff, letters_pos]; rfl
    go_enter Tryd.func16, Tryd.ntmps16
    go_wp2_with (go_at_call 43; refine (HE.out _ ?_).mono ?_; exact CodeI.start w; rintro e w' ⟨rfl, pre, hI, hp⟩; rw [hb.out]; have hc := hI.cell; obtain rfl := hp hb.out; have HI := Lib.hid hI; clear hI hp)
    go_ret
    exact ⟨by rw [Hn.out]; simp, HI.out.2⟩

/-- The table of white space that strings.TrimSpace reads lies as its initialiser lays it. -/
def Tabs (w : World) : Prop := Lib.TabIs Tryd.prog w "strings.asciiSpace" .u8 Lib.asciiSpaceTab

theorem Tabs.below {w w' : World} (h : Tabs w) (hb : Below w.heap.size w w') : Tabs w' := by
  unfold Tabs at *
  exact Lib.tabBelow_of_tabIs h w' hb

theorem str_toList (s : ByteArray) : s.toList = s.data.toList := Lib.toList_data s

def titleS (l : List UInt8) : Bool := everyB 40 titleChar l && decide (l.head? ≠ some 32) && decide (l.getLast? ≠ some 32)

theorem dropWhile_isSp {l : List UInt8} (h : l.all titleChar = true) : l.dropWhile Lib.isSp = l ↔ l.head? ≠ some 32 := by
  cases l with
  | nil => simp
  | cons c r =>
    simp only [List.all_cons, Bool.and_eq_true] at h
    have hc := h.1
    unfold titleChar at hc
    simp only [Bool.and_eq_true, decide_eq_true_eq] at hc
    by_cases h32 : c = 32
    · subst h32
      have : Lib.isSp 32 = true := by decide
      rw [List.dropWhile_cons_of_pos this]
      simp only [List.head?_cons, ne_eq, not_true_eq_false, iff_false]
      intro e
      have := congrArg List.length e
      have h2 := (List.dropWhile_suffix Lib.isSp (l := r)).length_le
      simp at this; omega
    · have : Lib.isSp c = false := by
        unfold Lib.isSp
        have n9 : c ≠ 9 := by intro e; subst e; simp at hc
        have n10 : c ≠ 10 := by intro e; subst e; simp at hc
        have n11 : c ≠ 11 := by intro e; subst e; simp at hc
        have n12 : c ≠ 12 := by intro e; subst e; simp at hc
        have n13 : c ≠ 13 := by intro e; subst e; simp at hc
        simp [n9, n10, n11, n12, n13, h32]
      rw [List.dropWhile_cons_of_neg (by simp [this])]
      simp [h32]

theorem trimSpace_eq {l : List UInt8} (h : l.all titleChar = true) : Lib.trimSpace l = l ↔ (l.head? ≠ some 32 ∧ l.getLast? ≠ some 32) := by
  unfold Lib.trimSpace
  constructor
  · intro e
    have hle : (((l.dropWhile Lib.isSp).reverse.dropWhile Lib.isSp).reverse).length = l.length := by rw [e]
    have h1 := (List.dropWhile_suffix Lib.isSp (l := l)).length_le
    have h2 := (List.dropWhile_suffix Lib.isSp (l := (l.dropWhile Lib.isSp).reverse)).length_le
    simp only [List.length_reverse] at hle h2
    have hd : l.dropWhile Lib.isSp = l := by
      have hs : l.dropWhile Lib.isSp <:+ l := List.dropWhile_suffix _
      exact hs.eq_of_length (by omega)
    refine ⟨(dropWhile_isSp h).1 hd, ?_⟩
    rw [hd] at e
    have hr : l.reverse.dropWhile Lib.isSp = l.reverse := by
      have := congrArg List.reverse e
      simpa using this
    have := (dropWhile_isSp (l := l.reverse) (by simpa using h)).1 hr
    simpa using this
  · rintro ⟨a, b⟩
    rw [(dropWhile_isSp h).2 a, (dropWhile_isSp (l := l.reverse) (by simpa using h)).2 (by simpa using b), List.reverse_reverse]

set_option maxHeartbeats 400000 in
theorem Title_c (s : ByteArray) (w : World) (hs : s.size ≤ 9223372036854775807) (ht : Tabs w) :
    Calls Tryd.prog 18 #[.string s] w fun e w' => e = .returned (.bool (titleS s.data.toList)) ∧ Below w.heap.size w w' := by
  cases he0 : everyB 40 titleChar s.data.toList
  · have He := Lib.hid he0; clear he0
    have Hn : Hid (titleS s.data.toList = false) := by unfold titleS; rw [He.out]; rfl
    go_enter Tryd.func18, Tryd.ntmps18
    go_wp2_with (go_at_call 43; refine (every_pure _ _ _ titleChar _ hs (by omega) (by omega) (enters_of Tryd.func50 (by kernel_rfl) rfl) titleB_c).mono ?_; rintro e w' ⟨rfl, rfl⟩; rw [He.out])
    go_ret
    exact ⟨by rw [Hn.out]; rfl, Below.refl _ _⟩
  · have He := Lib.hid he0
    have hall : s.data.toList.all titleChar = true := by
      unfold everyB at he0; simp only [Bool.and_eq_true] at he0; exact he0.2
    clear he0
    have hasc : ∀ (j : Nat) b, s.data.toList[j]? = some b → b.toNat < 128 := by
      intro j b hb
      have := List.all_eq_true.1 hall b (List.mem_of_getElem? hb)
      unfold titleChar at this
      simp only [Bool.and_eq_true, decide_eq_true_eq] at this
      omega
    have Hn : Hid (titleS s.data.toList = (Lib.trimSpace s.data.toList == s.toList)) := by
      show _ = _
      rw [str_toList]
      show _ = (Lib.trimSpace s.data.toList == s.data.toList)
      have he := trimSpace_eq hall
      unfold titleS; rw [He.out]
      by_cases h : Lib.trimSpace s.data.toList = s.data.toList
      · rw [h]
        obtain ⟨a, b⟩ := he.1 h
        simp only [a, b, ne_eq, not_false_eq_true, decide_true, Bool.and_self, beq_self_eq_true]
      · have hn : (Lib.trimSpace s.data.toList == s.data.toList) = false := by simpa using h
        rw [hn]
        have hc : ¬ (s.data.toList.head? ≠ some 32 ∧ s.data.toList.getLast? ≠ some 32) := fun q => h (he.2 q)
        simp only [ne_eq, not_and, Bool.true_and, Bool.and_eq_false_imp, decide_eq_true_eq, decide_eq_false_iff_not] at hc ⊢
        exact fun a => hc a
    have hT := Tryd.strings_TrimSpace s w hs hasc ht
    clear hasc
    have HALL := Lib.hid hall; clear hall
    have HT := Lib.hid hT; clear hT
    go_enter Tryd.func18, Tryd.ntmps18
    go_wp2_with (first | (go_at_call 43; refine (every_pure _ _ _ titleChar _ hs (by omega) (by omega) (enters_of Tryd.func50 (by kernel_rfl) rfl) titleB_c).mono ?_; rintro e w' ⟨rfl, rfl⟩; rw [He.out]) | (go_at_call 51; refine HT.out.mono ?_; rintro e w' ⟨rfl, rfl⟩))
    go_ret
    exact ⟨by rw [Hn.out]; rfl, Joins.below_bytesWorld _ _ _ _ (Nat.le_refl _)⟩

end Go.Proofs.YtegjcmoneemhjaaDoor
