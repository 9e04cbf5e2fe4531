/- Chapter 46: what an operation does to a desk, in plain words. -/
import Derived.Test.YtbbngcacfdgahaaDoorInQ
namespace Go.Proofs.YtbbngcacfdgahaaDoor
open Go.RowKit
set_option linter.unusedVariables false
set_option linter.unusedSimpArgs false

theorem stateOf_at (d : DeskV) (m : Nat) (hm : m < d.list.length) : stateOf d ((m : Int) + 1) = d.list[m].state := by
  unfold stateOf
  rw [show ((m : Int) + 1).toNat - 1 = m by omega, List.getElem?_eq_getElem hm]; rfl
theorem openE_zero {d : DeskV} {n : Int} : openE d n = 0 ↔ ∃ m, ∃ hm : m < d.list.length, n = (m : Int) + 1 ∧ d.list[m].state = 1 := by
  unfold openE
  constructor
  · intro h
    by_cases h1 : 1 ≤ n ∧ n ≤ d.list.length
    · rw [if_pos h1] at h
      obtain ⟨m, rfl⟩ : ∃ m : Nat, n = (m : Int) + 1 := ⟨(n - 1).toNat, by omega⟩
      have hm : m < d.list.length := by omega
      rw [stateOf_at d m hm] at h
      by_cases h2 : d.list[m].state = 1
      · exact ⟨m, hm, rfl, h2⟩
      · rw [if_neg h2] at h; cases h
    · rw [if_neg h1] at h; cases h
  · rintro ⟨m, hm, rfl, h⟩
    rw [if_pos ⟨by omega, by omega⟩, stateOf_at d m hm, if_pos h]
theorem pending_iff {d : DeskV} : pendingB d = true ↔ ∃ hm : 0 < d.list.length, (d.list[d.list.length - 1]).state = 1 := by
  unfold pendingB
  rw [beq_iff_eq, openE_zero]
  constructor
  · rintro ⟨m, hm, e, h⟩
    have : m = d.list.length - 1 := by omega
    subst this
    exact ⟨by omega, h⟩
  · rintro ⟨hm, h⟩
    exact ⟨d.list.length - 1, by omega, by omega, h⟩

/-- What an operation does to the inquiries. -/
theorem doV_list (d : DeskV) (x : OpV) : ((doV d x).1.list = d.list) ∨ (∃ q, (doV d x).1.list = d.list ++ [q] ∧ q.state = 1 ∧ pendingB d = false) ∨
    (∃ m, ∃ hm : m < d.list.length, ∃ q, (doV d x).1.list = d.list.set m q ∧ d.list[m].state = 1 ∧ q.state ≠ 1) := by
  unfold doV
  by_cases h0 : x.kind = 0
  · rw [if_pos h0]; left
    unfold publishV
    split <;> rfl
  rw [if_neg h0]
  by_cases h1 : x.kind = 1
  · rw [if_pos h1]
    unfold fileV
    by_cases hf : fileE d x.text x.time = 0
    · rw [if_pos hf]
      right; left
      refine ⟨_, rfl, rfl, ?_⟩
      unfold fileE at hf
      by_cases hk : clockE d x.time (titleS x.text.data.toList) = 0
      · rw [if_pos hk] at hf
        cases hp : pendingB d
        · rfl
        · rw [hp] at hf
          by_cases ho : d.out = true
          · rw [if_pos ho, if_pos rfl] at hf; cases hf
          · rw [if_neg ho] at hf; cases hf
      · rw [if_neg hk] at hf; exact absurd hf hk
    · rw [if_neg hf]; left; rfl
  rw [if_neg h1]
  by_cases h2 : x.kind = 2
  · rw [if_pos h2]
    unfold withdrawV
    by_cases hd : decideE d x.number x.time true = 0
    · rw [if_pos hd]
      right; right
      obtain ⟨-, ha, hb, hc⟩ := decideE_known hd
      obtain ⟨m, hm⟩ : ∃ m : Nat, x.number = (m : Int) + 1 := ⟨(x.number - 1).toNat, by omega⟩
      have hml : m < d.list.length := by omega
      rw [hm, stateOf_at d m hml] at hc
      refine ⟨m, hml, { (d.list.getD m { filing := {} }) with state := 4 }, ?_, hc, ?_⟩
      · show d.list.set (x.number.toNat - 1) { (d.list.getD (x.number.toNat - 1) { filing := {} }) with state := 4 } = _
        rw [show x.number.toNat - 1 = m by omega]
      · show (4 : Int) ≠ 1
        decide
    · rw [if_neg hd]; left; rfl
  · rw [if_neg h2]
    unfold ruleV
    by_cases hd : decideE d x.number x.time (allowedB x.acc x.text.data.toList) = 0
    · rw [if_pos hd]
      right; right
      obtain ⟨-, ha, hb, hc⟩ := decideE_known hd
      obtain ⟨m, hm⟩ : ∃ m : Nat, x.number = (m : Int) + 1 := ⟨(x.number - 1).toNat, by omega⟩
      have hml : m < d.list.length := by omega
      rw [hm, stateOf_at d m hml] at hc
      refine ⟨m, hml, ruleQ (d.list.getD m { filing := {} }) x.acc x.text, ?_, hc, ?_⟩
      · show d.list.set (x.number.toNat - 1) (ruleQ (d.list.getD (x.number.toNat - 1) { filing := {} }) x.acc x.text) = _
        rw [show x.number.toNat - 1 = m by omega]
      · show (if x.acc then (2 : Int) else 3) ≠ 1
        split <;> decide
    · rw [if_neg hd]; left; rfl

theorem clock_time {d : DeskV} {t : Int} {ok : Bool} (h : clockE d t ok = 0) : 0 ≤ t ∧ t ≤ 1000000000 := inTime_bd h

theorem doV_facts (d : DeskV) (x : OpV) : (doV d x).1.facts.length ≤ d.facts.length + 1 := by
  unfold doV publishV fileV withdrawV ruleV
  (repeat' split) <;> simp
theorem doV_ok {d : DeskV} (h : DeskOk d) (x : OpV) : DeskOk (doV d x).1 := by
  unfold doV publishV fileV withdrawV ruleV
  by_cases h0 : x.kind = 0
  · rw [if_pos h0]
    by_cases hk : clockE d x.time true = 0
    · rw [if_pos hk]
      obtain ⟨a, b⟩ := clock_time hk
      exact ⟨a, b, h.limit0, h.limit1, h.fee0, h.fee1⟩
    · rw [if_neg hk]; exact h
  rw [if_neg h0]
  (repeat' split) <;> exact ⟨h.since0, h.since1, h.limit0, h.limit1, h.fee0, h.fee1⟩

/-- At most the last inquiry is pending. -/
def OneF (l : List Int) : Prop := ∀ i (h : i + 1 < l.length), l[i] ≠ 1
def states (d : DeskV) : List Int := d.list.map IQ.state
theorem states_length (d : DeskV) : (states d).length = d.list.length := by simp [states]

theorem doV_states {d : DeskV} (h : OneF (states d)) (x : OpV) : OneF (states (doV d x).1) ∧ (states d).length ≤ (states (doV d x).1).length ∧ (states (doV d x).1).length ≤ (states d).length + 1 ∧
    ∀ i (h1 : i < (states d).length) (h2 : i < (states (doV d x).1).length), (states d)[i] ≠ 1 → (states (doV d x).1)[i] = (states d)[i] := by
  rcases doV_list d x with e | ⟨q, e, hq, hp⟩ | ⟨m, hm, q, e, hs, hq⟩
  · have e2 : states (doV d x).1 = states d := by unfold states; rw [e]
    rw [e2]
    exact ⟨h, Nat.le_refl _, by omega, fun _ _ _ _ => rfl⟩
  · have e2 : states (doV d x).1 = states d ++ [1] := by unfold states; rw [e, List.map_append]; simp [hq]
    rw [e2]
    refine ⟨fun i hi => ?_, by simp, by simp, fun i h1 h2 _ => by rw [List.getElem_append_left h1]⟩
    have hi' : i < (states d).length := by simp at hi; exact hi
    rw [List.getElem_append_left hi']
    by_cases hl : i + 1 < (states d).length
    · exact h i hl
    · intro hc
      have : pendingB d = true := pending_iff.2 ⟨by rw [states_length] at hi'; omega, by
        have e3 : i = d.list.length - 1 := by rw [states_length] at hi' hl; omega
        subst e3
        simpa [states] using hc⟩
      rw [hp] at this; cases this
  · have e2 : states (doV d x).1 = (states d).set m q.state := by unfold states; rw [e, List.map_set]
    rw [e2]
    have hms : m < (states d).length := by rw [states_length]; exact hm
    have hmm : (states d)[m] = 1 := by simpa [states] using hs
    refine ⟨fun i hi => ?_, by simp, by simp, fun i h1 h2 hne => ?_⟩
    · have hi' : i + 1 < (states d).length := by simpa using hi
      rw [List.getElem_set]
      split
      · exact hq
      · exact h i hi'
    · rw [List.getElem_set_ne (fun e => hne (by subst e; exact hmm))]

/-- How many of the first k are pending. -/
def filed (l : List Int) (k : Nat) : Int := ((l.take k).filter (· == 1)).length
theorem filed_succ (l : List Int) (k : Nat) (h : k < l.length) : filed l (k + 1) = if l[k] = 1 then filed l k + 1 else filed l k := by
  unfold filed
  rw [List.take_succ_eq_append_getElem h, List.filter_append]
  by_cases h1 : l[k] = 1
  · simp [h1]
  · have : (l[k] == 1) = false := by rw [beq_eq_false_iff_ne]; exact h1
    simp [this, h1]
theorem filed_small {l : List Int} (h : OneF l) : ∀ k, k + 1 ≤ l.length → filed l k = 0 := by
  intro k
  induction k with
  | zero => intro _; simp [filed]
  | succ k ih =>
    intro hk
    rw [filed_succ l k (by omega), if_neg (h k (by omega)), ih (by omega)]
theorem filed_all {d : DeskV} (h : OneF (states d)) : filed (states d) (states d).length = if pendingB d then 1 else 0 := by
  cases hl : (states d).length with
  | zero =>
    have : pendingB d = false := by
      rw [Bool.eq_false_iff]; intro hp
      obtain ⟨h0, -⟩ := pending_iff.1 hp
      rw [states_length] at hl; omega
    rw [this]; simp [filed]
  | succ k =>
    rw [filed_succ _ k (by omega), filed_small h k (by omega)]
    have hk : k < (states d).length := by omega
    have e : (states d)[k] = (d.list[d.list.length - 1]'(by rw [states_length] at hl; omega)).state := by
      have : k = d.list.length - 1 := by rw [states_length] at hl; omega
      subst this
      simp [states]
    by_cases hp : pendingB d = true
    · obtain ⟨h0, h1⟩ := pending_iff.1 hp
      rw [if_pos (e.trans h1), hp]; rfl
    · have : ¬ (states d)[k] = 1 := fun hc => hp (pending_iff.2 ⟨by rw [states_length] at hl; omega, e.symm.trans hc⟩)
      rw [if_neg this, if_neg hp]

/-- The desk behind a list of operations. -/
def playV (d : DeskV) (l : List OpV) : DeskV := l.foldl (fun d x => (doV d x).1) d
theorem playV_snoc (d : DeskV) (l : List OpV) (x : OpV) : playV d (l ++ [x]) = (doV (playV d l) x).1 := by simp [playV]
theorem play_ok (l : List OpV) : ∀ {d : DeskV}, DeskOk d → DeskOk (playV d l) := by
  induction l with
  | nil => intro d h; exact h
  | cons x l ih => intro d h; exact ih (doV_ok h x)
theorem play_one (l : List OpV) : ∀ {d : DeskV}, OneF (states d) → OneF (states (playV d l)) := by
  induction l with
  | nil => intro d h; exact h
  | cons x l ih => intro d h; exact ih (doV_states h x).1
theorem play_facts (l : List OpV) : ∀ d : DeskV, (playV d l).facts.length ≤ d.facts.length + l.length := by
  induction l with
  | nil => intro d; simp [playV]
  | cons x l ih => intro d; have := ih (doV d x).1; have := doV_facts d x; simp only [playV, List.foldl_cons, List.length_cons] at *; omega
theorem play_len (l : List OpV) : ∀ {d : DeskV}, OneF (states d) → (playV d l).list.length ≤ d.list.length + l.length := by
  induction l with
  | nil => intro d h; simp [playV]
  | cons x l ih =>
    intro d h
    have h1 := doV_states h x
    have := ih h1.1
    have h2 := h1.2.2.1
    rw [states_length, states_length] at h2
    simp only [playV, List.foldl_cons, List.length_cons] at *
    omega

end Go.Proofs.YtbbngcacfdgahaaDoor
