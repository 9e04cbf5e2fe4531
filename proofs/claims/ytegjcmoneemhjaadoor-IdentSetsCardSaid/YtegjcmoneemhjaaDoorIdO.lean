/- The natural order is an order: plain mathematics. -/
import Derived.Test.YtegjcmoneemhjaaDoorIdN
namespace Go.Proofs.YtegjcmoneemhjaaDoor
open Go.RowKit
set_option linter.unusedVariables false
set_option linter.unusedSimpArgs false

/-- A three-way comparison that is a total preorder. -/
structure Good {α : Type} (c : α → α → Int) : Prop where
  neg : ∀ x y, c y x = - c x y
  lo : ∀ x y, -1 ≤ c x y
  hi : ∀ x y, c x y ≤ 1
  trans : ∀ x y z, c x y ≤ 0 → c y z ≤ 0 → c x z ≤ 0

theorem Good.refl {α : Type} {c : α → α → Int} (h : Good c) (x : α) : c x x = 0 := by have := h.neg x x; omega
theorem Good.lt_le {α : Type} {c : α → α → Int} (h : Good c) {x y z : α} (h1 : c x y < 0) (h2 : c y z ≤ 0) : c x z < 0 := by
  have h3 := h.trans x y z (by omega) h2
  by_cases e : c x z = 0
  · have h4 : c z x ≤ 0 := by have := h.neg x z; omega
    have h5 := h.trans y z x h2 h4
    have := h.neg x y; omega
  · omega
theorem Good.le_lt {α : Type} {c : α → α → Int} (h : Good c) {x y z : α} (h1 : c x y ≤ 0) (h2 : c y z < 0) : c x z < 0 := by
  have h3 := h.trans x y z h1 (by omega)
  by_cases e : c x z = 0
  · have h4 : c z x ≤ 0 := by have := h.neg x z; omega
    have h5 := h.trans z x y h4 h1
    have := h.neg y z; omega
  · omega

theorem good_cmpI : Good cmpI where
  neg x y := by unfold cmpI; split <;> split <;> (try split) <;> omega
  lo x y := by unfold cmpI; split <;> (try split) <;> omega
  hi x y := by unfold cmpI; split <;> (try split) <;> omega
  trans x y z := by unfold cmpI; intro h1 h2; split at h1 <;> (try split at h1) <;> split at h2 <;> (try split at h2) <;> split <;> (try split) <;> omega

theorem bl_trans : ∀ {l m n : List UInt8}, Op.bytesLess l m = true → Op.bytesLess m n = true → Op.bytesLess l n = true
  | l, [], n, h, _ => by cases l <;> simp [Op.bytesLess] at h
  | l, _ :: _, [], _, h => by simp [Op.bytesLess] at h
  | [], _ :: _, _ :: _, _, _ => rfl
  | a :: l, b :: m, c :: n, h, h' => by
    simp only [Op.bytesLess, Bool.or_eq_true, decide_eq_true_eq, Bool.and_eq_true, beq_iff_eq] at h h' ⊢
    rcases h with h | ⟨rfl, h⟩
    · rcases h' with h' | ⟨rfl, h'⟩
      · exact .inl (UInt8.lt_trans h h')
      · exact .inl h
    · rcases h' with h' | ⟨rfl, h'⟩
      · exact .inl h'
      · exact .inr ⟨rfl, bl_trans h h'⟩

theorem cmpL_zero {l m : List UInt8} : cmpL l m = 0 ↔ l = m := by
  unfold cmpL
  constructor
  · intro h
    cases h1 : Op.bytesLess l m
    · cases h2 : Op.bytesLess m l
      · have := bl_total l m h1; rw [h2] at this; simpa using this
      · rw [h1, h2] at h; simp at h
    · rw [h1] at h; simp at h
  · rintro rfl; rw [bl_irrefl]; rfl

theorem good_cmpL : Good cmpL where
  neg x y := by
    unfold cmpL
    cases h1 : Op.bytesLess x y
    · cases h2 : Op.bytesLess y x <;> simp
    · rw [bl_asymm h1]; simp
  lo x y := by unfold cmpL; split <;> (try split) <;> omega
  hi x y := by unfold cmpL; split <;> (try split) <;> omega
  trans x y z h1 h2 := by
    have e1 : cmpL x y = 0 ∨ Op.bytesLess x y = true := by
      cases h : Op.bytesLess x y
      · unfold cmpL at h1; rw [h] at h1; left; unfold cmpL; rw [h]; cases h3 : Op.bytesLess y x
        · rfl
        · rw [h3] at h1; simp at h1
      · exact .inr rfl
    have e2 : cmpL y z = 0 ∨ Op.bytesLess y z = true := by
      cases h : Op.bytesLess y z
      · unfold cmpL at h2; rw [h] at h2; left; unfold cmpL; rw [h]; cases h3 : Op.bytesLess z y
        · rfl
        · rw [h3] at h2; simp at h2
      · exact .inr rfl
    rcases e1 with e1 | e1
    · rw [cmpL_zero] at e1; subst e1; exact h2
    · rcases e2 with e2 | e2
      · rw [cmpL_zero] at e2; subst e2; exact h1
      · unfold cmpL; rw [bl_trans e1 e2]; simp

/-- One comparison behind the other. -/
theorem Good.then {α : Type} {c d : α → α → Int} (hc : Good c) (hd : Good d) : Good (fun x y => firstNZ [c x y, d x y]) where
  neg x y := by
    simp only [firstNZ_two]
    have h1 := hc.neg x y; have h2 := hd.neg x y
    by_cases h : c x y = 0
    · rw [if_neg (by omega), if_neg (by omega)]; omega
    · rw [if_pos (by omega), if_pos (by omega)]; omega
  lo x y := by simp only [firstNZ_two]; have := hc.lo x y; have := hd.lo x y; split <;> omega
  hi x y := by simp only [firstNZ_two]; have := hc.hi x y; have := hd.hi x y; split <;> omega
  trans x y z := by
    simp only [firstNZ_two]
    intro h1 h2
    by_cases e1 : c x y = 0
    · rw [if_neg (by omega)] at h1
      by_cases e2 : c y z = 0
      · rw [if_neg (by omega)] at h2
        have h3 := hc.trans x y z (by omega) (by omega)
        have h4 : c z x ≤ 0 := hc.trans z y x (by have := hc.neg y z; omega) (by have := hc.neg x y; omega)
        have h5 : c x z = 0 := by have := hc.neg x z; omega
        rw [if_neg (by omega)]
        exact hd.trans x y z h1 h2
      · rw [if_pos (by omega)] at h2
        have h3 := hc.le_lt (x := x) (y := y) (z := z) (by omega) (by omega)
        rw [if_pos (by omega)]; omega
    · rw [if_pos (by omega)] at h1
      by_cases e2 : c y z = 0
      · have h3 := hc.lt_le (x := x) (y := y) (z := z) (by omega) (by omega)
        rw [if_pos (by omega)]; omega
      · rw [if_pos (by omega)] at h2
        have h3 := hc.lt_le (x := x) (y := y) (z := z) (by omega) (by omega)
        rw [if_pos (by omega)]; omega
theorem Good.by {α β : Type} {c : β → β → Int} (hc : Good c) (f : α → β) : Good (fun x y => c (f x) (f y)) where
  neg x y := hc.neg _ _
  lo x y := hc.lo _ _
  hi x y := hc.hi _ _
  trans x y z := hc.trans _ _ _

/-- What a piece is compared by. -/
structure Tok where
  key : Int
  num : List UInt8
def tokOf (p : List UInt8) : Tok := if dig (p.getD 0 0) then ⟨48, noZeros p⟩ else ⟨((p.getD 0 0).toNat : Int), []⟩
def cmpT (s t : Tok) : Int := firstNZ [cmpI s.key t.key, firstNZ [cmpI s.num.length t.num.length, cmpL s.num t.num]]
theorem good_cmpT : Good cmpT :=
  (good_cmpI.by Tok.key).then ((good_cmpI.by (fun t : Tok => (t.num.length : Int))).then (good_cmpL.by Tok.num))

theorem dig_key {c : UInt8} (h : dig c = false) : (c.toNat : Int) ≠ 48 := by
  intro e; unfold dig isDigit at h; rw [e] at h; simp at h
theorem cmpP_tok (p q : List UInt8) : cmpP p q = cmpT (tokOf p) (tokOf q) := by
  unfold cmpP cmpT tokOf keyOf'
  cases h1 : dig (p.getD 0 0) <;> cases h2 : dig (q.getD 0 0)
  · simp [firstNZ_two, cmpI, cmpL, Op.bytesLess]
  · have := dig_key h1
    have hn : cmpI ((p.getD 0 0).toNat : Int) 48 ≠ 0 := by unfold cmpI; split <;> (try split) <;> omega
    simp only [Bool.false_and, Bool.false_eq_true, if_false, if_true]
    rw [firstNZ_two, if_pos hn]
  · have := dig_key h2
    have hn : cmpI 48 ((q.getD 0 0).toNat : Int) ≠ 0 := by unfold cmpI; split <;> (try split) <;> omega
    simp only [Bool.and_false, Bool.false_eq_true, if_false, if_true]
    rw [firstNZ_two, if_pos hn]
  · have hz : cmpI (48 : Int) 48 = 0 := rfl
    simp only [Bool.and_self, if_true, hz]
    rw [firstNZ_two (0 : Int)]; simp

/-- Lists, element by element. -/
def cmpLex {α : Type} (c : α → α → Int) : List α → List α → Int
  | [], [] => 0
  | [], _ :: _ => -1
  | _ :: _, [] => 1
  | x :: r, y :: s => if c x y ≠ 0 then c x y else cmpLex c r s
theorem Good.lex {α : Type} {c : α → α → Int} (hc : Good c) : Good (cmpLex c) where
  neg x := by
    induction x with
    | nil => intro y; cases y <;> simp [cmpLex]
    | cons a r ih =>
      intro y; cases y with
      | nil => simp [cmpLex]
      | cons b s =>
        have := hc.neg a b
        simp only [cmpLex]
        by_cases h : c a b = 0
        · rw [if_neg (by omega), if_neg (by omega)]; exact ih s
        · rw [if_pos (by omega), if_pos (by omega)]; exact this
  lo x := by
    induction x with
    | nil => intro y; cases y <;> simp [cmpLex]
    | cons a r ih => intro y; cases y with
      | nil => simp [cmpLex]
      | cons b s => simp only [cmpLex]; split; exact hc.lo _ _; exact ih s
  hi x := by
    induction x with
    | nil => intro y; cases y <;> simp [cmpLex]
    | cons a r ih => intro y; cases y with
      | nil => simp [cmpLex]
      | cons b s => simp only [cmpLex]; split; exact hc.hi _ _; exact ih s
  trans x := by
    induction x with
    | nil => intro y z _ _; cases z <;> simp [cmpLex]
    | cons a r ih =>
      intro y z h1 h2
      cases y with
      | nil => simp [cmpLex] at h1
      | cons b s =>
        cases z with
        | nil => simp [cmpLex] at h2
        | cons d t =>
          simp only [cmpLex] at h1 h2 ⊢
          by_cases e1 : c a b = 0
          · rw [if_neg (by omega)] at h1
            by_cases e2 : c b d = 0
            · rw [if_neg (by omega)] at h2
              have h3 := hc.trans a b d (by omega) (by omega)
              have h4 : c d a ≤ 0 := hc.trans d b a (by have := hc.neg b d; omega) (by have := hc.neg a b; omega)
              have h5 : c a d = 0 := by have := hc.neg a d; omega
              rw [if_neg (by omega)]
              exact ih s t h1 h2
            · rw [if_pos (by omega)] at h2
              have h3 := hc.le_lt (x := a) (y := b) (z := d) (by omega) (by omega)
              rw [if_pos (by omega)]; omega
          · rw [if_pos (by omega)] at h1
            have h3 : c a d < 0 := by
              by_cases e2 : c b d = 0
              · exact hc.lt_le (x := a) (y := b) (z := d) (by omega) (by omega)
              · rw [if_pos (by omega)] at h2
                exact hc.lt_le (x := a) (y := b) (z := d) (by omega) (by omega)
            rw [if_pos (by omega)]; omega

def toks : Nat → List UInt8 → List Tok
  | 0, _ => []
  | n + 1, x => if x = [] then [] else tokOf (pieceL x) :: toks n (x.drop (pieceL x).length)
theorem drop_piece_lt {x : List UInt8} (h : x ≠ []) : (x.drop (pieceL x).length).length < x.length := by
  have := pieceL_length h; have := pieceN_pos x; have := List.length_pos_iff.2 h
  rw [List.length_drop]; omega
theorem toks_more : ∀ (n m : Nat) (x : List UInt8), x.length < n → x.length < m → toks n x = toks m x := by
  intro n
  induction n with
  | zero => intro m x h; omega
  | succ n ih =>
    intro m x h h'
    cases m with
    | zero => omega
    | succ m =>
      simp only [toks]
      by_cases hx : x = []
      · rw [if_pos hx, if_pos hx]
      · rw [if_neg hx, if_neg hx]
        have := drop_piece_lt hx
        rw [ih m _ (by omega) (by omega)]
def toksOf (x : List UInt8) : List Tok := toks (x.length + 1) x
theorem toksOf_nil : toksOf [] = [] := rfl
theorem toksOf_cons {x : List UInt8} (h : x ≠ []) : toksOf x = tokOf (pieceL x) :: toksOf (x.drop (pieceL x).length) := by
  have := drop_piece_lt h
  unfold toksOf
  rw [show toks (x.length + 1) x = if x = [] then [] else tokOf (pieceL x) :: toks x.length (x.drop (pieceL x).length) from rfl]
  rw [if_neg h, toks_more x.length ((x.drop (pieceL x).length).length + 1) _ (by omega) (by omega)]
theorem natR_toks : ∀ (n : Nat) (x y : List UInt8), x.length < n → natR n x y = cmpLex cmpT (toksOf x) (toksOf y) := by
  intro n
  induction n with
  | zero => intro x y h; omega
  | succ n ih =>
    intro x y h
    simp only [natR]
    by_cases hx : x = []
    · subst hx
      rw [if_pos (.inl rfl), toksOf_nil]
      by_cases hy : y = []
      · subst hy; rfl
      · rw [toksOf_cons hy]
        have := List.length_pos_iff.2 hy
        simp only [cmpLex, List.length_nil]
        unfold cmpI; rw [if_pos (by omega)]
    · by_cases hy : y = []
      · subst hy
        rw [if_pos (.inr rfl), toksOf_nil, toksOf_cons hx]
        have := List.length_pos_iff.2 hx
        simp only [cmpLex, List.length_nil]
        unfold cmpI; rw [if_neg (by omega), if_pos (by omega)]
      · rw [if_neg (by simp [hx, hy]), toksOf_cons hx, toksOf_cons hy]
        simp only [cmpLex]
        rw [cmpP_tok]
        have := drop_piece_lt hx
        rw [ih _ _ (by omega)]

theorem natural_toks (a b : List UInt8) : natural a b = firstNZ [cmpLex cmpT (toksOf a) (toksOf b), cmpL a b] := by
  unfold natural; rw [natR_toks _ _ _ (by omega)]
theorem good_natural : Good natural := by
  have h := (good_cmpT.lex.by toksOf).then good_cmpL
  have e : natural = fun x y => firstNZ [cmpLex cmpT (toksOf x) (toksOf y), cmpL x y] := by funext x y; exact natural_toks x y
  rw [e]; exact h
theorem natural_zero (a b : List UInt8) : natural a b = 0 ↔ a = b := by
  constructor
  · intro h
    rw [natural_toks, firstNZ_two] at h
    by_cases h0 : cmpLex cmpT (toksOf a) (toksOf b) = 0
    · rw [if_neg (by omega)] at h; exact cmpL_zero.1 h
    · rw [if_pos (by omega)] at h; omega
  · rintro rfl; exact good_natural.refl a

theorem bl_prefix : ∀ (l : List UInt8) (i : Nat), cmpL (l.take i) l ≤ 0 := by
  intro l
  induction l with
  | nil => intro i; simp [cmpL, Op.bytesLess]
  | cons c r ih =>
    intro i
    cases i with
    | zero => simp [cmpL, Op.bytesLess]
    | succ i =>
      have := ih i
      unfold cmpL at this ⊢
      simp only [List.take_succ_cons, Op.bytesLess, UInt8.lt_irrefl, decide_false, Bool.false_or, beq_self_eq_true, Bool.true_and]
      exact this

theorem takeWhile_all : ∀ {l : List UInt8}, (∀ c ∈ l, dig c = true) → l.takeWhile dig = l
  | [], _ => rfl
  | c :: r, h => by
    rw [List.takeWhile_cons_of_pos (h c (List.mem_cons_self ..)), takeWhile_all (fun d hd => h d (List.mem_cons_of_mem _ hd))]
theorem takeWhile_take_all {l : List UInt8} {i : Nat} (h : i ≤ (l.takeWhile dig).length) : (l.take i).takeWhile dig = l.take i := by
  have hp : l.take i = (l.takeWhile dig).take i := by
    have := List.takeWhile_append_dropWhile (p := dig) (l := l)
    conv => lhs; rw [← this]
    rw [List.take_append_of_le_length h]
  rw [hp]
  apply takeWhile_all
  intro c hc
  exact List.all_eq_true.1 (List.all_takeWhile) c (List.mem_of_mem_take hc)

theorem pieceL_take_long {x : List UInt8} {i : Nat} (hi : pieceN x ≤ i) : pieceL (x.take i) = pieceL x := by
  have h1 : ((x.take i).takeWhile dig) = x.takeWhile dig := by
    have e := List.takeWhile_append_dropWhile (p := dig) (l := x)
    have hl : (x.takeWhile dig).length ≤ i := by unfold pieceN at hi; omega
    by_cases hd : x.dropWhile dig = []
    · rw [hd, List.append_nil] at e
      have hxl : x.length ≤ i := by rw [← e]; exact hl
      rw [List.take_of_length_le hxl]
    · rcases Nat.lt_or_ge (x.takeWhile dig).length i with h | h
      · obtain ⟨c, r, hcr⟩ := List.exists_cons_of_ne_nil hd
        have hc : dig c = false := by
          have h1 := List.head_dropWhile_not dig hd
          simp only [hcr, List.head_cons] at h1
          exact h1
        have hx : x.take i = x.takeWhile dig ++ c :: (r.take (i - (x.takeWhile dig).length - 1)) := by
          conv => lhs; rw [← e, hcr]
          rw [List.take_append, List.take_of_length_le hl]
          obtain ⟨m, hm⟩ : ∃ m, i - (x.takeWhile dig).length = m + 1 := ⟨i - (x.takeWhile dig).length - 1, by omega⟩
          rw [hm, List.take_succ_cons]; rfl
        rw [hx, List.takeWhile_append_of_pos (fun a ha => by
          exact List.all_eq_true.1 (List.all_takeWhile) a ha), List.takeWhile_cons_of_neg (by simp [hc]), List.append_nil]
      · have he : (x.takeWhile dig).length = i := by omega
        have := takeWhile_take_all (l := x) (i := i) (by omega)
        rw [this]
        conv => lhs; rw [← e]
        rw [List.take_append_of_le_length (by omega), List.take_of_length_le (by omega)]
  unfold pieceL pieceN
  rw [h1, List.take_take]
  congr 1
  unfold pieceN at hi; omega

theorem noZ_take (l : List UInt8) : ∀ i, (noZeros (l.take i)).length < (noZeros l).length ∨ cmpL (noZeros (l.take i)) (noZeros l) ≤ 0 ∧ (noZeros (l.take i)).length ≤ (noZeros l).length := by
  induction l with
  | nil => intro i; right; simp [noZeros, cmpL, Op.bytesLess]
  | cons c r ih =>
    intro i
    cases i with
    | zero =>
      by_cases h : noZeros (c :: r) = []
      · right; rw [h]; simp [noZeros, cmpL, Op.bytesLess]
      · left; simpa [noZeros] using List.length_pos_iff.2 h
    | succ i =>
      by_cases h : c = 48
      · subst h
        simp only [List.take_succ_cons]
        have e : ∀ s : List UInt8, noZeros (48 :: s) = noZeros s := fun s => by simp [noZeros]
        rw [e, e]; exact ih i
      · have e : ∀ s : List UInt8, noZeros (c :: s) = c :: s := fun s => by unfold noZeros; rw [List.dropWhile_cons_of_neg (by simpa using h)]
        simp only [List.take_succ_cons]
        rw [e, e]
        right
        refine ⟨?_, by simp; omega⟩
        have := bl_prefix (c :: r) (i + 1)
        simpa using this

theorem tok_take {x : List UInt8} {i : Nat} (h0 : 0 < i) (hi : i < pieceN x) : cmpT (tokOf (x.take i)) (tokOf (pieceL x)) ≤ 0 := by
  have hw : pieceN x = (x.takeWhile dig).length := by unfold pieceN at *; omega
  have hx : x ≠ [] := by intro e; subst e; unfold pieceN at hi; simp at hi; omega
  obtain ⟨c, r, rfl⟩ := List.exists_cons_of_ne_nil hx
  have hc : dig c = true := by
    cases h : dig c
    · rw [List.takeWhile_cons_of_neg (by simp [h])] at hw; simp at hw; have := pieceN_pos (c :: r); omega
    · rfl
  have h1 : (pieceL (c :: r)).getD 0 0 = c := by
    unfold pieceL; rw [show pieceN (c :: r) = (pieceN (c :: r) - 1) + 1 by omega, List.take_succ_cons]; rfl
  have h2 : ((c :: r).take i).getD 0 0 = c := by rw [show i = (i - 1) + 1 by omega, List.take_succ_cons]; rfl
  unfold tokOf
  rw [h1, h2, hc]
  simp only [if_true]
  unfold cmpT
  have e : (c :: r).take i = (pieceL (c :: r)).take i := by
    unfold pieceL; rw [List.take_take]; congr 1; omega
  rw [e]
  have hz : cmpI (48 : Int) 48 = 0 := rfl
  simp only [hz, firstNZ_two]
  rw [if_neg (by simp)]
  rcases noZ_take (pieceL (c :: r)) i with h | ⟨h, h'⟩
  · have : cmpI ((noZeros ((pieceL (c :: r)).take i)).length : Int) ((noZeros (pieceL (c :: r))).length : Int) = -1 := by unfold cmpI; rw [if_pos (by omega)]
    rw [this]; simp
  · by_cases hl : (noZeros ((pieceL (c :: r)).take i)).length < (noZeros (pieceL (c :: r))).length
    · have : cmpI ((noZeros ((pieceL (c :: r)).take i)).length : Int) ((noZeros (pieceL (c :: r))).length : Int) = -1 := by unfold cmpI; rw [if_pos (by omega)]
      rw [this]; simp
    · have : cmpI ((noZeros ((pieceL (c :: r)).take i)).length : Int) ((noZeros (pieceL (c :: r))).length : Int) = 0 := by unfold cmpI; rw [if_neg (by omega), if_neg (by omega)]
      rw [this]; simp; exact h

theorem lex_prefix : ∀ (n : Nat) (x : List UInt8) (i : Nat), x.length < n → cmpLex cmpT (toksOf (x.take i)) (toksOf x) ≤ 0 := by
  intro n
  induction n with
  | zero => intro x i h; omega
  | succ n ih =>
    intro x i h
    by_cases hx : x = []
    · subst hx; simp [toksOf_nil, cmpLex]
    by_cases h0 : i = 0
    · subst h0; rw [List.take_zero, toksOf_nil, toksOf_cons hx]; simp [cmpLex]
    have ht : x.take i ≠ [] := by
      intro e; have h1 := congrArg List.length e; rw [List.length_take] at h1; have h2 := List.length_pos_iff.2 hx; simp only [List.length_nil] at h1; omega
    rw [toksOf_cons ht, toksOf_cons hx]
    simp only [cmpLex]
    rcases Nat.lt_or_ge i (pieceN x) with hi | hi
    · have hw : pieceN x = (x.takeWhile dig).length := by have := pieceN_pos x; unfold pieceN at *; omega
      have hp : pieceL (x.take i) = x.take i := by
        unfold pieceL pieceN
        rw [takeWhile_take_all (by omega)]
        apply List.take_of_length_le; omega
      have := tok_take (x := x) (i := i) (by omega) hi
      rw [hp]
      split
      · exact this
      · rw [List.drop_length, toksOf_nil]
        generalize toksOf _ = t
        cases t <;> simp [cmpLex]
    · rw [pieceL_take_long hi, good_cmpT.refl, if_neg (by omega), List.drop_take]
      have := drop_piece_lt hx
      exact ih _ _ (by omega)

theorem natural_prefix (a : List UInt8) (i : Nat) : natural (a.take i) a ≤ 0 := by
  rw [natural_toks, firstNZ_two]
  have h1 := lex_prefix (a.length + 1) a i (by omega)
  have h2 := bl_prefix a i
  split <;> assumption

end Go.Proofs.YtegjcmoneemhjaaDoor
