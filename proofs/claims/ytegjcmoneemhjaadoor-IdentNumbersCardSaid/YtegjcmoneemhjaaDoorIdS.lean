/- Decimal digits and the natural order: plain mathematics for the law on numbers. -/
import Derived.Test.YtegjcmoneemhjaaDoorIdO
namespace Go.Proofs.YtegjcmoneemhjaaDoor
open Go.RowKit
set_option linter.unusedVariables false
set_option linter.unusedSimpArgs false

/-- The decimal digits of a number; the first number bounds the rounds. -/
def digitsR : Nat → Nat → List UInt8
  | 0, _ => []
  | f + 1, n => if n < 10 then [UInt8.ofNat (48 + n)] else digitsR f (n / 10) ++ [UInt8.ofNat (48 + n % 10)]
def digitsN (n : Nat) : List UInt8 := digitsR (n + 1) n

theorem digitsR_more : ∀ (f g n : Nat), n < f → n < g → digitsR f n = digitsR g n := by
  intro f
  induction f with
  | zero => intro g n h; omega
  | succ f ih =>
    intro g n h h'
    cases g with
    | zero => omega
    | succ g =>
      simp only [digitsR]
      by_cases hn : n < 10
      · rw [if_pos hn, if_pos hn]
      · rw [if_neg hn, if_neg hn, ih g (n / 10) (by omega) (by omega)]
theorem digitsN_small {n : Nat} (h : n < 10) : digitsN n = [UInt8.ofNat (48 + n)] := by unfold digitsN; simp only [digitsR]; rw [if_pos h]
theorem digitsN_big {n : Nat} (h : ¬ n < 10) : digitsN n = digitsN (n / 10) ++ [UInt8.ofNat (48 + n % 10)] := by
  unfold digitsN
  rw [show digitsR (n + 1) n = if n < 10 then [UInt8.ofNat (48 + n)] else digitsR n (n / 10) ++ [UInt8.ofNat (48 + n % 10)] from rfl, if_neg h, digitsR_more n (n / 10 + 1) (n / 10) (by omega) (by omega)]

theorem dig_of {k : Nat} (h : k < 10) : dig (UInt8.ofNat (48 + k)) = true := by
  have : k = 0 ∨ k = 1 ∨ k = 2 ∨ k = 3 ∨ k = 4 ∨ k = 5 ∨ k = 6 ∨ k = 7 ∨ k = 8 ∨ k = 9 := by omega
  rcases this with rfl | rfl | rfl | rfl | rfl | rfl | rfl | rfl | rfl | rfl <;> decide

theorem digitsN_all : ∀ n, ∀ c ∈ digitsN n, dig c = true := by
  intro n
  induction n using Nat.strongRecOn with
  | ind n ih =>
    by_cases h : n < 10
    · rw [digitsN_small h]; intro c hc; rw [List.mem_singleton.1 hc]; exact dig_of h
    · rw [digitsN_big h]; intro c hc
      rcases List.mem_append.1 hc with hc | hc
      · exact ih (n / 10) (by omega) c hc
      · rw [List.mem_singleton.1 hc]; exact dig_of (by omega)
theorem digitsN_ne (n : Nat) : digitsN n ≠ [] := by
  by_cases h : n < 10
  · rw [digitsN_small h]; simp
  · rw [digitsN_big h]; simp

/-- The value of a row of digits. -/
def valOf (l : List UInt8) : Nat := l.foldl (fun a c => a * 10 + (c.toNat - 48)) 0
theorem valOf_snoc (l : List UInt8) (c : UInt8) : valOf (l ++ [c]) = valOf l * 10 + (c.toNat - 48) := by unfold valOf; rw [List.foldl_append]; rfl
theorem toNat_of {k : Nat} (h : k < 10) : (UInt8.ofNat (48 + k)).toNat = 48 + k := by
  rw [UInt8.toNat_ofNat']; omega
theorem valOf_digits : ∀ n, valOf (digitsN n) = n := by
  intro n
  induction n using Nat.strongRecOn with
  | ind n ih =>
    by_cases h : n < 10
    · rw [digitsN_small h]; unfold valOf; simp only [List.foldl_cons, List.foldl_nil]; rw [toNat_of h]; omega
    · rw [digitsN_big h, valOf_snoc, ih (n / 10) (by omega), toNat_of (by omega)]; omega

theorem foldl_val : ∀ (l : List UInt8) (a : Nat), l.foldl (fun a c => a * 10 + (c.toNat - 48)) a = a * 10 ^ l.length + valOf l := by
  intro l
  induction l with
  | nil => intro a; simp [valOf]
  | cons c r ih =>
    intro a
    unfold valOf
    simp only [List.foldl_cons]
    rw [ih, ih (0 * 10 + (c.toNat - 48)), List.length_cons, Nat.pow_succ, Nat.add_mul, Nat.zero_mul, Nat.zero_add, Nat.mul_assoc, Nat.mul_comm 10, Nat.add_assoc]
theorem valOf_cons (c : UInt8) (r : List UInt8) : valOf (c :: r) = (c.toNat - 48) * 10 ^ r.length + valOf r := by
  show (c :: r).foldl _ 0 = _
  simp only [List.foldl_cons]; rw [foldl_val, Nat.zero_mul, Nat.zero_add]
theorem dig_bounds {c : UInt8} (h : dig c = true) : 48 ≤ c.toNat ∧ c.toNat ≤ 57 := by
  unfold dig isDigit at h; simp only [Bool.and_eq_true, decide_eq_true_eq] at h; omega
theorem valOf_lt : ∀ l : List UInt8, (∀ c ∈ l, dig c = true) → valOf l < 10 ^ l.length := by
  intro l
  induction l with
  | nil => intro _; simp [valOf]
  | cons c r ih =>
    intro h
    have h1 := ih (fun d hd => h d (List.mem_cons_of_mem _ hd))
    have h2 := dig_bounds (h c (List.mem_cons_self ..))
    rw [valOf_cons, List.length_cons, Nat.pow_succ]
    have : (c.toNat - 48) * 10 ^ r.length ≤ 9 * 10 ^ r.length := Nat.mul_le_mul_right _ (by omega)
    omega
theorem valOf_noZ : ∀ l : List UInt8, valOf (noZeros l) = valOf l := by
  intro l
  induction l with
  | nil => rfl
  | cons c r ih =>
    by_cases h : c = 48
    · subst h
      have e : noZeros (48 :: r) = noZeros r := by simp [noZeros]
      rw [e, ih, valOf_cons]; simp
    · have e : noZeros (c :: r) = c :: r := by unfold noZeros; rw [List.dropWhile_cons_of_neg (by simpa using h)]
      rw [e]
theorem noZ_all {l : List UInt8} (h : ∀ c ∈ l, dig c = true) : ∀ c ∈ noZeros l, dig c = true := fun c hc => h c ((List.dropWhile_suffix _).subset hc)
theorem noZ_head (l : List UInt8) : noZeros l = [] ∨ ∃ c r, noZeros l = c :: r ∧ c ≠ 48 := by
  induction l with
  | nil => exact .inl rfl
  | cons c r ih =>
    by_cases h : c = 48
    · subst h
      have e : noZeros (48 :: r) = noZeros r := by simp [noZeros]
      rw [e]; exact ih
    · exact .inr ⟨c, r, by unfold noZeros; rw [List.dropWhile_cons_of_neg (by simpa using h)], h⟩

/-- Rows of digits of one length are in the order of their values. -/
theorem bl_val : ∀ (l m : List UInt8), (∀ c ∈ l, dig c = true) → (∀ c ∈ m, dig c = true) → l.length = m.length → (Op.bytesLess l m = true ↔ valOf l < valOf m) := by
  intro l
  induction l with
  | nil => intro m _ _ h; obtain rfl : m = [] := List.eq_nil_of_length_eq_zero (by simpa using h.symm); simp [Op.bytesLess, valOf]
  | cons c r ih =>
    intro m hl hm h
    cases m with
    | nil => simp at h
    | cons d s =>
      have hlen : r.length = s.length := by simpa using h
      have hr := valOf_lt r (fun d hd => hl d (List.mem_cons_of_mem _ hd))
      have hs := valOf_lt s (fun d hd => hm d (List.mem_cons_of_mem _ hd))
      have hc := dig_bounds (hl c (List.mem_cons_self ..))
      have hd := dig_bounds (hm d (List.mem_cons_self ..))
      have ih := ih s (fun d hd => hl d (List.mem_cons_of_mem _ hd)) (fun d hd => hm d (List.mem_cons_of_mem _ hd)) hlen
      rw [valOf_cons, valOf_cons, hlen]
      rw [hlen] at hr
      simp only [Op.bytesLess, Bool.or_eq_true, decide_eq_true_eq, Bool.and_eq_true, beq_iff_eq, UInt8.lt_iff_toNat_lt]
      generalize 10 ^ s.length = P at *
      by_cases h1 : c.toNat < d.toNat
      · have : (c.toNat - 48 + 1) * P ≤ (d.toNat - 48) * P := Nat.mul_le_mul_right _ (by omega)
        rw [Nat.add_mul] at this
        constructor
        · intro _; omega
        · intro _; exact .inl h1
      · by_cases h2 : d.toNat < c.toNat
        · have : (d.toNat - 48 + 1) * P ≤ (c.toNat - 48) * P := Nat.mul_le_mul_right _ (by omega)
          rw [Nat.add_mul] at this
          constructor
          · rintro (h | ⟨h, _⟩)
            · omega
            · subst h; omega
          · intro _; omega
        · have e : c = d := UInt8.toNat_inj.1 (by omega)
          subst e
          rw [ih]
          constructor
          · rintro (h | ⟨_, h⟩)
            · omega
            · omega
          · intro h; exact .inr ⟨rfl, by omega⟩

theorem val_lower {l : List UInt8} (h : ∀ c ∈ l, dig c = true) {c : UInt8} {r : List UInt8} (e : noZeros l = c :: r) (hc : c ≠ 48) : 10 ^ r.length ≤ valOf (noZeros l) := by
  have hd := dig_bounds (noZ_all h c (by rw [e]; exact List.mem_cons_self ..))
  have : c.toNat ≠ 48 := fun q => hc (UInt8.toNat_inj.1 q)
  rw [e, valOf_cons]
  have : 1 * 10 ^ r.length ≤ (c.toNat - 48) * 10 ^ r.length := Nat.mul_le_mul_right _ (by omega)
  omega
theorem len_val {l m : List UInt8} (hl : ∀ c ∈ l, dig c = true) (hm : ∀ c ∈ m, dig c = true) (h : (noZeros l).length < (noZeros m).length) : valOf l < valOf m := by
  rw [← valOf_noZ l, ← valOf_noZ m]
  have h1 := valOf_lt (noZeros l) (noZ_all hl)
  rcases noZ_head m with e | ⟨c, r, e, hc⟩
  · rw [e] at h; simp at h
  · have h2 := val_lower hm e hc
    rw [e] at h
    have : 10 ^ (noZeros l).length ≤ 10 ^ r.length := Nat.pow_le_pow_right (by omega) (by simp at h; omega)
    omega

/-- Two rows of digits as pieces: the order of their values. -/
theorem cmpT_digits {l m : List UInt8} (hl0 : l ≠ []) (hm0 : m ≠ []) (hl : ∀ c ∈ l, dig c = true) (hm : ∀ c ∈ m, dig c = true) (hne : valOf l ≠ valOf m) :
    cmpT (tokOf l) (tokOf m) ≠ 0 ∧ (cmpT (tokOf l) (tokOf m) < 0 ↔ valOf l < valOf m) := by
  obtain ⟨c, r, rfl⟩ := List.exists_cons_of_ne_nil hl0
  obtain ⟨d, s, rfl⟩ := List.exists_cons_of_ne_nil hm0
  unfold tokOf
  simp only [List.getD_cons_zero]
  rw [hl c (List.mem_cons_self ..), hm d (List.mem_cons_self ..)]
  simp only [if_true]
  generalize hL : c :: r = l at *
  generalize hM : d :: s = m at *
  unfold cmpT
  have hz : cmpI (48 : Int) 48 = 0 := rfl
  simp only [hz, firstNZ_two]
  rw [if_neg (by simp)]
  by_cases h1 : (noZeros l).length < (noZeros m).length
  · have e : cmpI ((noZeros l).length : Int) ((noZeros m).length : Int) = -1 := by unfold cmpI; rw [if_pos (by omega)]
    have := len_val hl hm h1
    rw [e]; simp; omega
  · by_cases h2 : (noZeros m).length < (noZeros l).length
    · have e : cmpI ((noZeros l).length : Int) ((noZeros m).length : Int) = 1 := by unfold cmpI; rw [if_neg (by omega), if_pos (by omega)]
      have := len_val hm hl h2
      rw [e]; simp; omega
    · have e : cmpI ((noZeros l).length : Int) ((noZeros m).length : Int) = 0 := by unfold cmpI; rw [if_neg (by omega), if_neg (by omega)]
      rw [e]
      simp only [ne_eq, not_true_eq_false, if_false]
      have b1 := bl_val (noZeros l) (noZeros m) (noZ_all hl) (noZ_all hm) (by omega)
      have b2 := bl_val (noZeros m) (noZeros l) (noZ_all hm) (noZ_all hl) (by omega)
      rw [valOf_noZ, valOf_noZ] at b1 b2
      unfold cmpL
      by_cases h3 : valOf l < valOf m
      · rw [b1.2 h3]; simp [h3]
      · have h4 : valOf m < valOf l := by omega
        have h5 : Op.bytesLess (noZeros l) (noZeros m) = false := by
          cases h : Op.bytesLess (noZeros l) (noZeros m)
          · rfl
          · exact absurd (b1.1 h) h3
        rw [h5, b2.2 h4]; simp; omega

/-- A piece ends where no digit follows. -/
theorem pieceL_digits {l a : List UInt8} (hl0 : l ≠ []) (hl : ∀ c ∈ l, dig c = true) (ha : ∀ c r, a = c :: r → dig c = false) : pieceL (l ++ a) = l := by
  have e : (l ++ a).takeWhile dig = l := by
    rw [List.takeWhile_append_of_pos hl]
    cases a with
    | nil => simp
    | cons c r => rw [List.takeWhile_cons_of_neg (by simp [ha c r rfl])]; simp
  have := List.length_pos_iff.2 hl0
  unfold pieceL pieceN
  rw [e, show max 1 l.length = l.length by omega, List.take_left']
  rfl

theorem toks_numbers {l a : List UInt8} (hl0 : l ≠ []) (hl : ∀ c ∈ l, dig c = true) (ha : ∀ c r, a = c :: r → dig c = false) : toksOf (l ++ a) = tokOf l :: toksOf a := by
  rw [toksOf_cons (by simp [hl0]), pieceL_digits hl0 hl ha]
  simp

/-- The pieces of a beginning that ends in no digit are those of the whole's. -/
theorem toks_before : ∀ (n : Nat) (x s : List UInt8), x.length < n → (∀ c, x.getLast? = some c → dig c = false) → toksOf (x ++ s) = toksOf x ++ toksOf s := by
  intro n
  induction n with
  | zero => intro x s h; omega
  | succ n ih =>
    intro x s h hlast
    by_cases hx : x = []
    · subst hx; rw [toksOf_nil]; simp
    have hp : pieceL (x ++ s) = pieceL x := by
      have hw : (x ++ s).takeWhile dig = x.takeWhile dig := by
        have hne : ¬ (∀ c ∈ x, dig c = true) := by
          intro hall
          obtain ⟨c, hc⟩ : ∃ c, x.getLast? = some c := by
            cases hq : x.getLast? with
            | none => simp at hq; exact absurd hq hx
            | some c => exact ⟨c, rfl⟩
          have := hlast c hc
          rw [hall c (List.mem_of_getLast? hc)] at this; cases this
        have e := List.takeWhile_append_dropWhile (p := dig) (l := x)
        have hd : x.dropWhile dig ≠ [] := by
          intro hd; rw [hd, List.append_nil] at e
          exact hne (fun c hc => by rw [← e] at hc; exact List.all_eq_true.1 (List.all_takeWhile) c hc)
        obtain ⟨c, r, hcr⟩ := List.exists_cons_of_ne_nil hd
        have hc : dig c = false := by
          have h1 := List.head_dropWhile_not dig hd
          simp only [hcr, List.head_cons] at h1
          exact h1
        conv => lhs; rw [← e, hcr]
        rw [List.append_assoc, List.takeWhile_append_of_pos (fun a ha => List.all_eq_true.1 (List.all_takeWhile) a ha), List.cons_append, List.takeWhile_cons_of_neg (by simp [hc]), List.append_nil]
      unfold pieceL pieceN
      rw [hw]
      rw [List.take_append_of_le_length]
      exact pieceN_le hx
    rw [toksOf_cons (by simp [hx]), toksOf_cons hx, hp]
    have hl := pieceL_length hx
    have h2 := pieceN_le hx
    rw [List.drop_append_of_le_length (by omega), ih _ s (by have := drop_piece_lt hx; omega) ?_]
    · rfl
    · intro c hc
      apply hlast
      have hne : x.drop (pieceL x).length ≠ [] := by intro e; rw [e] at hc; simp at hc
      rw [List.getLast?_drop] at hc
      split at hc
      · cases hc
      · exact hc

theorem lex_same {α : Type} {c : α → α → Int} (hc : Good c) : ∀ (p x y : List α), cmpLex c (p ++ x) (p ++ y) = cmpLex c x y := by
  intro p
  induction p with
  | nil => intro x y; rfl
  | cons a r ih => intro x y; simp only [List.cons_append, cmpLex]; rw [hc.refl, if_neg (by omega)]; exact ih x y

theorem natural_numbers (b : List UInt8) (m n : Nat) (a c : List UInt8) (hb : ∀ x, b.getLast? = some x → dig x = false) (ha : ∀ x r, a = x :: r → dig x = false) (hc : ∀ x r, c = x :: r → dig x = false) (hmn : m ≠ n) :
    natural (b ++ digitsN m ++ a) (b ++ digitsN n ++ c) < 0 ↔ m < n := by
  rw [natural_toks, firstNZ_two, List.append_assoc, List.append_assoc, toks_before _ b _ (Nat.lt_succ_self _) hb, toks_before _ b _ (Nat.lt_succ_self _) hb, lex_same good_cmpT,
    toks_numbers (digitsN_ne m) (digitsN_all m) ha, toks_numbers (digitsN_ne n) (digitsN_all n) hc]
  obtain ⟨h1, h2⟩ := cmpT_digits (digitsN_ne m) (digitsN_ne n) (digitsN_all m) (digitsN_all n) (by rw [valOf_digits, valOf_digits]; exact hmn)
  rw [valOf_digits, valOf_digits] at h2
  have E : cmpLex cmpT (tokOf (digitsN m) :: toksOf a) (tokOf (digitsN n) :: toksOf c) = cmpT (tokOf (digitsN m)) (tokOf (digitsN n)) := by simp only [cmpLex]; rw [if_pos h1]
  simp only [E, ne_eq, h1, not_false_eq_true, if_true]
  exact h2

end Go.Proofs.YtegjcmoneemhjaaDoor
