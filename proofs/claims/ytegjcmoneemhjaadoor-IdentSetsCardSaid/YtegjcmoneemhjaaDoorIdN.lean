/- The natural order in plain words: pieces, their comparison, the whole. -/
import Derived.Test.YtegjcmoneemhjaaDoorIdA
namespace Go.Proofs.YtegjcmoneemhjaaDoor
open Go.RowKit
set_option linter.unusedVariables false
set_option linter.unusedSimpArgs false

def ofL (l : List UInt8) : ByteArray := ⟨l.toArray⟩
theorem ofL_data (l : List UInt8) : (ofL l).data.toList = l := rfl
theorem ofL_toList (s : ByteArray) : ofL s.data.toList = s := rfl
theorem ofL_size (l : List UInt8) : (ofL l).size = l.length := rfl

theorem ext_data {a b : ByteArray} (h : a.data.toList = b.data.toList) : a = b := ByteArray.ext (Array.ext' h)
theorem extract_take (s : ByteArray) (k : Nat) : s.extract 0 k = ofL (s.data.toList.take k) := by
  apply ext_data
  rw [ofL_data, ByteArray.data_extract, Array.toList_extract, List.extract_eq_take_drop, List.drop_zero, Nat.sub_zero]
theorem extract_drop (s : ByteArray) (k : Nat) : s.extract k s.size = ofL (s.data.toList.drop k) := by
  apply ext_data
  rw [ofL_data, ByteArray.data_extract, Array.toList_extract, List.extract_eq_take_drop]
  apply List.take_of_length_le
  rw [List.length_drop]; exact Nat.le_refl _
theorem ret_str {a b : ByteArray} (h : a = b) : Ending.returned (.string a) = Ending.returned (.string b) := by rw [h]
theorem ret_int {k : IntKind} {a b : Int} (h : a = b) : Ending.returned (.int k a) = Ending.returned (.int k b) := by rw [h]
theorem ret_bool {a b : Bool} (h : a = b) : Ending.returned (.bool a) = Ending.returned (.bool b) := by rw [h]

/-- The first number that is not 0. -/
def firstNZ : List Int → Int
  | [] => 0
  | x :: r => if x ≠ 0 then x else firstNZ r
theorem firstNZ_two (x y : Int) : firstNZ [x, y] = if x ≠ 0 then x else y := by
  simp only [firstNZ]; split
  · rfl
  · split
    · rfl
    · omega

/-- The comparison of two byte strings. -/
def cmpL (l m : List UInt8) : Int := if Op.bytesLess l m then -1 else if Op.bytesLess m l then 1 else 0
def cmpI (x y : Int) : Int := if x < y then -1 else if x > y then 1 else 0

theorem bl_irrefl : ∀ l : List UInt8, Op.bytesLess l l = false
  | [] => rfl
  | c :: r => by simp [Op.bytesLess, bl_irrefl r]
theorem bl_total : ∀ l m : List UInt8, Op.bytesLess l m = false → Op.bytesLess m l = !(l == m)
  | [], [], _ => rfl
  | [], _ :: _, h => by simp [Op.bytesLess] at h
  | _ :: _, [], _ => rfl
  | c :: r, d :: s, h => by
    simp only [Op.bytesLess, Bool.or_eq_false_iff, decide_eq_false_iff_not, Bool.and_eq_false_imp, beq_iff_eq] at h
    obtain ⟨h1, h2⟩ := h
    by_cases e : c = d
    · subst e
      have := bl_total r s (h2 rfl)
      simp [Op.bytesLess, this]
    · have hlt : d < c := by
        rcases UInt8.lt_or_eq_of_le (UInt8.not_lt.1 h1) with h | h
        · exact h
        · exact absurd h.symm e
      have hb : (c == d) = false := by simpa using e
      simp [Op.bytesLess, hlt, List.cons_beq_cons, hb]
theorem bl_eq {l m : List UInt8} (h : Op.bytesLess l m = false) (b : Bool) (h' : Op.bytesLess m l = b) : (l == m) = !b := by
  rw [← h', bl_total l m h, Bool.not_not]
theorem bl_asymm {l m : List UInt8} (h : Op.bytesLess l m = true) : Op.bytesLess m l = false := by
  cases h2 : Op.bytesLess m l
  · rfl
  · exfalso
    induction l generalizing m with
    | nil => cases m with
      | nil => simp [Op.bytesLess] at h
      | cons d s => simp [Op.bytesLess] at h2
    | cons c r ih => cases m with
      | nil => simp [Op.bytesLess] at h
      | cons d s =>
        simp only [Op.bytesLess, Bool.or_eq_true, decide_eq_true_eq, Bool.and_eq_true, beq_iff_eq] at h h2
        rcases h with h | ⟨rfl, h⟩
        · rcases h2 with h2 | ⟨rfl, h2⟩
          · exact absurd h (UInt8.not_lt.2 (UInt8.le_of_lt h2))
          · exact absurd h (UInt8.lt_irrefl _)
        · rcases h2 with h2 | ⟨_, h2⟩
          · exact absurd h2 (UInt8.lt_irrefl _)
          · exact ih h h2

def dig (c : UInt8) : Bool := isDigit (c.toNat : Int)
def pieceN (l : List UInt8) : Nat := max 1 (l.takeWhile dig).length
def pieceL (l : List UInt8) : List UInt8 := l.take (pieceN l)
def keyOf' (c : UInt8) : Int := if dig c then 48 else (c.toNat : Int)
def noZeros (l : List UInt8) : List UInt8 := l.dropWhile (· == 48)
/-- The comparison of two pieces. -/
def cmpP (p q : List UInt8) : Int :=
  if dig (p.getD 0 0) && dig (q.getD 0 0) then firstNZ [cmpI (noZeros p).length (noZeros q).length, cmpL (noZeros p) (noZeros q)]
  else cmpI (keyOf' (p.getD 0 0)) (keyOf' (q.getD 0 0))

/-- Piece by piece; at the end the lengths of what is left. -/
def natR : Nat → List UInt8 → List UInt8 → Int
  | 0, _, _ => 0
  | n + 1, x, y =>
    if x = [] ∨ y = [] then cmpI x.length y.length
    else if cmpP (pieceL x) (pieceL y) ≠ 0 then cmpP (pieceL x) (pieceL y)
    else natR n (x.drop (pieceL x).length) (y.drop (pieceL y).length)

def natural (a b : List UInt8) : Int := firstNZ [natR (a.length + 1) a b, cmpL a b]

theorem pieceN_pos (l : List UInt8) : 1 ≤ pieceN l := by unfold pieceN; omega
theorem pieceN_le {l : List UInt8} (h : l ≠ []) : pieceN l ≤ l.length := by
  unfold pieceN
  have h1 := (List.takeWhile_prefix dig (l := l)).length_le
  have h2 := List.length_pos_iff.2 h
  omega
theorem pieceL_length {l : List UInt8} (h : l ≠ []) : (pieceL l).length = pieceN l := by
  unfold pieceL; rw [List.length_take]; have := pieceN_le h; omega
theorem pieceL_ne {l : List UInt8} (h : l ≠ []) : pieceL l ≠ [] := by
  intro e; have h1 := pieceL_length h; have h2 := pieceN_pos l; rw [e] at h1; simp at h1; omega

/-- Enough rounds give the same answer. -/
theorem natR_more : ∀ (n m : Nat) (x y : List UInt8), x.length < n → x.length < m → natR n x y = natR m x y := by
  intro n
  induction n with
  | zero => intro m x y h; omega
  | succ n ih =>
    intro m x y h h'
    cases m with
    | zero => omega
    | succ m =>
      simp only [natR]
      by_cases hc : x = [] ∨ y = []
      · rw [if_pos hc, if_pos hc]
      · rw [if_neg hc, if_neg hc]
        by_cases hp : cmpP (pieceL x) (pieceL y) ≠ 0
        · rw [if_pos hp, if_pos hp]
        · rw [if_neg hp, if_neg hp]
          have hx : x ≠ [] := fun e => hc (.inl e)
          have := pieceL_length hx; have := pieceN_pos x; have := List.length_pos_iff.2 hx
          exact ih m _ _ (by rw [List.length_drop]; omega) (by rw [List.length_drop]; omega)

theorem natR_end {n : Nat} {x y : List UInt8} (h : x.length < n) (hc : x = [] ∨ y = []) : natR n x y = cmpI x.length y.length := by
  cases n with
  | zero => omega
  | succ n => simp only [natR]; rw [if_pos hc]
theorem natR_stop {n : Nat} {x y : List UInt8} (h : x.length < n) (hx : x ≠ []) (hy : y ≠ []) (hp : cmpP (pieceL x) (pieceL y) ≠ 0) : natR n x y = cmpP (pieceL x) (pieceL y) := by
  cases n with
  | zero => omega
  | succ n => simp only [natR]; rw [if_neg (by simp [hx, hy]), if_pos hp]
theorem natR_step {n : Nat} {x y : List UInt8} (h : x.length < n) (hx : x ≠ []) (hy : y ≠ []) (hp : cmpP (pieceL x) (pieceL y) = 0) : natR n x y = natR n (x.drop (pieceL x).length) (y.drop (pieceL y).length) := by
  cases n with
  | zero => omega
  | succ n =>
    have := pieceL_length hx; have := pieceN_pos x; have := List.length_pos_iff.2 hx
    rw [natR_more (n + 1) n (x.drop _) _ (by rw [List.length_drop]; omega) (by rw [List.length_drop]; omega)]
    simp only [natR]; rw [if_neg (by simp [hx, hy]), if_neg (by simp [hp])]

end Go.Proofs.YtegjcmoneemhjaaDoor
