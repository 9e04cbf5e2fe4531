/- The contract of Abbreviate. -/
import Derived.Test.YtegjcmoneemhjaaDoorIdK
namespace Go.Proofs.YtegjcmoneemhjaaDoor
open Go.RowKit
set_option linter.unusedVariables false
set_option linter.unusedSimpArgs false

/-- Another string of the list begins with s cut at n. -/
def abbrP (s : ByteArray) (n : Nat) (t : ByteArray) : Bool := Lib.hasPrefix t.data.toList (s.data.toList.take n) && (t.toList != s.toList)
/-- The abbreviation of s from n on; the first number bounds the rounds. -/
def abbrR (ss : List ByteArray) (s : ByteArray) : Nat → Nat → ByteArray
  | 0, _ => s
  | f + 1, n => if n < s.size then (if ss.any (abbrP s n) then abbrR ss s f (n + 1) else ofL (s.data.toList.take n)) else s
def abbrS (ss : List ByteArray) (least : Nat) (s : ByteArray) : ByteArray := abbrR ss s (s.size + 1) least

theorem abbrR_more (ss : List ByteArray) (s : ByteArray) : ∀ (f g n : Nat), s.size - n < f → s.size - n < g → abbrR ss s f n = abbrR ss s g n := by
  intro f
  induction f with
  | zero => intro g n h; omega
  | succ f ih =>
    intro g n h h'
    cases g with
    | zero => omega
    | succ g =>
      simp only [abbrR]
      by_cases hc : n < s.size
      · rw [if_pos hc, if_pos hc, ih g (n + 1) (by omega) (by omega)]
      · rw [if_neg hc, if_neg hc]
theorem abbrR_end {ss : List ByteArray} {s : ByteArray} {f n : Nat} (h : ¬ n < s.size) : abbrR ss s f n = s := by
  cases f with
  | zero => rfl
  | succ f => simp only [abbrR]; rw [if_neg h]
theorem abbrR_hit {ss : List ByteArray} {s : ByteArray} {n : Nat} (h : n < s.size) (hp : ss.any (abbrP s n) = false) : abbrR ss s (s.size + 1) n = ofL (s.data.toList.take n) := by
  simp only [abbrR]; rw [if_pos h, if_neg (by simp [hp])]
theorem abbrR_step {ss : List ByteArray} {s : ByteArray} {n : Nat} (h : n < s.size) (hp : ss.any (abbrP s n) = true) : abbrR ss s (s.size + 1) n = abbrR ss s (s.size + 1) (n + 1) := by
  rw [abbrR_more ss s (s.size + 1) s.size (n + 1) (by omega) (by omega)]
  simp only [abbrR]; rw [if_pos h, if_pos hp]

theorem own_below {w w1 : World} {base : Nat} {e : TypeId} {size n : Nat} {v : Value} {xs : List Value} (h : w.ownsRow base e size v n xs) (hb : Below w.heap.size w w1) : w1.ownsRow base e size v n xs :=
  h.kept (row := none) ⟨hb.os, hb.tape, hb.output, hb.size, fun i hi _ => hb.block i hi⟩ (by cases v.ownBlock <;> simp)

set_option maxHeartbeats 400000 in
theorem abbrB_c (s : ByteArray) (n S B : Nat) (W : World) (hn : n ≤ s.size) (hs : s.size ≤ 140737488351232) (cS : W.cell? ⟨S, 0, none⟩ = some (.string s)) (cB : W.cell? ⟨B, 0, none⟩ = some (.int .i64 n)) (t : ByteArray) :
    Calls Tryd.prog 61 #[.string t, .pointer (some ⟨S, 0, none⟩), .pointer (some ⟨B, 0, none⟩)] W fun e w' => e = .returned (.bool (abbrP s n t)) ∧ ∃ q, w' = W.drewN q := by
  have HE := Lib.hid (extract_take s n)
  cases hp0 : Lib.hasPrefix t.data.toList (s.data.toList.take n)
  · have hp := Lib.hid hp0
    have Hn : Hid (abbrP s n t = false) := Lib.hid (by unfold abbrP; rw [hp0]; rfl)
    clear hp0
    go_enter Tryd.func61, Tryd.ntmps61
    go_wp2_with (go_at_call 62; rw [HE.out]; refine (Tryd.strings_HasPrefix _ _ _).mono ?_; rintro e w' ⟨rfl, rfl⟩; rw [ofL_data, hp.out])
    go_ret
    exact ⟨ret_bool Hn.out.symm, 0, rfl⟩
  · have hp := Lib.hid hp0
    have Hn : Hid (abbrP s n t = (t.toList != s.toList)) := Lib.hid (by unfold abbrP; rw [hp0]; rfl)
    clear hp0
    go_enter Tryd.func61, Tryd.ntmps61
    go_wp2_with (go_at_call 62; rw [HE.out]; refine (Tryd.strings_HasPrefix _ _ _).mono ?_; rintro e w' ⟨rfl, rfl⟩; rw [ofL_data, hp.out])
    go_ret
    exact ⟨ret_bool Hn.out.symm, 0, rfl⟩

theorem idx_any {p : ByteArray → Bool} {ss : List ByteArray} (b : Bool) (h : ss.any p = b) : (Lib.idxBy (fun _ y => p y) ss default < 0) = (b = false) := by
  have h1 := Lib.idxBy_nonneg_iff (fun _ y => p y) ss (default : ByteArray)
  have h2 : (ss.any fun y => p y) = b := h
  rw [h2] at h1
  cases b
  · simp at h1 ⊢; omega
  · simp at h1 ⊢; omega

theorem getElem!_getD (ss : List ByteArray) (j : Nat) : ss[j]! = ss.getD j ByteArray.empty := by
  rw [List.getElem!_eq_getElem?_getD, List.getD_eq_getElem?_getD]; rfl

/-- slices.IndexFunc with the closure of Abbreviate. -/
theorem abbrIdx_c (v : Value) (ss : List ByteArray) (s : ByteArray) (n S B : Nat) (W : World) (hv : RdS W v ss) (hn : n ≤ s.size) (hs : s.size ≤ 140737488351232)
    (cS : W.cell? ⟨S, 0, none⟩ = some (.string s)) (cB : W.cell? ⟨B, 0, none⟩ = some (.int .i64 n)) :
    Calls Tryd.prog 60 #[v, .func (.func 61) #[] #[.pointer (some ⟨S, 0, none⟩), .pointer (some ⟨B, 0, none⟩)]] W fun e w' =>
      (∃ i : Int, e = .returned (.int .i64 i) ∧ ((ss.any (abbrP s n) = true → 0 ≤ i) ∧ (ss.any (abbrP s n) = false → i < 0))) ∧ ∃ q, w' = W.drewN q := by
  obtain ⟨h1, h2, h3⟩ := hv
  rcases h3 with ⟨rfl, A, cap, rfl⟩ | ⟨b, off, cap, rfl, hcap, hne, hc⟩
  · refine (Tryd.slices_IndexFunc_empty (α := ByteArray) A cap _ W).mono ?_
    rintro e w' ⟨rfl, rfl⟩
    exact ⟨⟨-1, rfl, by simp, by simp⟩, 0, rfl⟩
  · have hp : PredAt Tryd.prog 61 #[.pointer (some ⟨S, 0, none⟩), .pointer (some ⟨B, 0, none⟩)] Value.string (abbrP s n) W := by
      intro W' t hb
      unfold FnGives
      exact abbrB_c s n S B W' hn hs ((hb.cell (World.block_lt_of_cell? W _ cS)).trans cS) ((hb.cell (World.block_lt_of_cell? W _ cB)).trans cB) t
    refine (Tryd.slices_IndexFunc Value.string (abbrP s n) 61 _ (enters_of Tryd.func61 (by kernel_rfl) rfl) b off ss.length cap ss W hp (Nat.le_refl _) (by omega) (fun j hj => by rw [getElem!_getD]; exact hc j hj)).mono ?_
    rintro e w' ⟨rfl, q, rfl⟩
    rw [List.take_length]
    refine ⟨⟨_, rfl, ?_, ?_⟩, q, rfl⟩
    · intro ha; have := idx_any true ha; simp at this; omega
    · intro ha; have := idx_any false ha; simp at this; omega

end Go.Proofs.YtegjcmoneemhjaaDoor
