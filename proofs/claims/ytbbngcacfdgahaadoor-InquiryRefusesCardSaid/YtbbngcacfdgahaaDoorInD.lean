/- Chapter 46: State, decide, Publish: their contracts. -/
import Derived.Test.YtbbngcacfdgahaaDoorInC
import Derived.Laws.Rows
namespace Go.Proofs.YtbbngcacfdgahaaDoor
open Go.RowKit
set_option linter.unusedVariables false
set_option linter.unusedSimpArgs false

theorem frozen_block {w : World} {D j : Nat} {cs : Array Value} {t : TypeId} (h : w.heap[D]? = some (.cells cs t (0, 0))) : w.frozen? ⟨D, j, none⟩ = false := by
  simp [World.frozen?, h]
theorem grown_set (w : World) (D j : Nat) (v : Value) : w.grownBy (w.setCell ⟨D, j, none⟩ v) (some D) :=
  ⟨rfl, rfl, rfl, by simp, fun k hk hne => heap_setCell_other w ⟨D, j, none⟩ k v (fun e => hne (by rw [e]))⟩
theorem below_set {w : World} {base D : Nat} (j : Nat) (v : Value) (h : base ≤ D) : Below base w (w.setCell ⟨D, j, none⟩ v) :=
  ⟨rfl, rfl, rfl, by simp, fun k hk => heap_setCell_other w ⟨D, j, none⟩ k v (by show k ≠ D; omega)⟩

theorem DeskI.put {w : World} {base D : Nat} {d d' : DeskV} {lv fv : Value} (h : DeskI w base D d lv fv) (j : Nat) (v : Value) (e : (d.cells lv fv).setIfInBounds j v = d'.cells lv fv) (hl : d'.list = d.list) (hf : d'.facts = d.facts) :
    DeskI (w.setCell ⟨D, j, none⟩ v) base D d' lv fv := by
  refine ⟨h.low, ?_, ?_, ?_, h.apart, by rw [hl]; exact h.few⟩
  · rw [← e]; exact heap_setCell_same w D j _ _ v h.blk
  · rw [hl]; exact h.list.kept (grown_set w D j v) (.inr h.apart.1)
  · rw [hf]; exact h.facts.kept (grown_set w D j v) (.inr h.apart.2.1)

def stateR (d : DeskV) (n : Int) : Value := if 1 ≤ n ∧ n ≤ d.list.length then .tuple #[.int .i64 (stateOf d n), .int .i64 0] else .tuple #[.int .i64 0, .int .i64 8]
def StatePost (d : DeskV) (n : Int) (w : World) (e : Ending) (w' : World) : Prop := e = .returned (stateR d n) ∧ w = w'
theorem StatePost.bad {d : DeskV} {n : Int} {w : World} (h : ¬ (1 ≤ n ∧ n ≤ d.list.length)) : StatePost d n w (.returned (.tuple #[.int .i64 0, .int .i64 8])) w := ⟨by unfold stateR; rw [if_neg h], rfl⟩
theorem StatePost.ok {d : DeskV} {n : Int} {w : World} {s : Int} (h : 1 ≤ n ∧ n ≤ d.list.length) (hs : stateOf d n = s) : StatePost d n w (.returned (.tuple #[.int .i64 s, .int .i64 0])) w := ⟨by unfold stateR; rw [if_pos h, hs], rfl⟩

theorem State_c (base D : Nat) (d : DeskV) (lv fv : Value) (n : Int) (w : World) (h : DeskI w base D d lv fv) :
    Calls Tryd.prog 22 #[.pointer (some ⟨D, 0, none⟩), .int .i64 n] w (StatePost d n w) := by
  have HK := Lib.hid (known_c base D d lv fv n w h)
  obtain ⟨A, cap, rfl, hrow⟩ := h.row
  have c19 : w.cell? ⟨D, 19, none⟩ = some (.slice A d.list.length cap) := h.cell 19
  have hf := h.few
  clear h
  by_cases h1 : 1 ≤ n ∧ n ≤ d.list.length
  · obtain ⟨m, rfl⟩ : ∃ m : Nat, n = (m : Int) + 1 := ⟨(n - 1).toNat, by omega⟩
    have hm : m < d.list.length := by omega
    obtain ⟨g, rfl, hc⟩ := hrow (by omega)
    have cs : w.cell? ⟨g, m * 16 + 14, none⟩ = some (.int .i64 d.list[m].state) := hc m hm 14 (by omega)
    have hst : stateOf d ((m : Int) + 1) = d.list[m].state := by
      unfold stateOf
      rw [show ((m : Int) + 1).toNat - 1 = m from by omega, List.getElem?_eq_getElem hm]; rfl
    have HP := Lib.hid (StatePost.ok (w := w) h1 hst)
    have HK2 : knownE d ((m : Int) + 1) = 0 := by unfold knownE; rw [if_pos h1]
    rw [HK2] at HK
    clear hc hrow hst HK2
    generalize d.list[m].state = st at *
    have ix : ((m : Int) + 1 - 1) = m := by omega
    go_enter Tryd.func22, Tryd.ntmps22
    go_wp2_with fail
    refine HK.out.mono ?_; rintro e w' ⟨rfl, rfl⟩
    go_wp2_with fail
    go_ret2
    exact HP.out
  · have HP := Lib.hid (StatePost.bad (w := w) h1)
    have HK2 : knownE d n = 8 := by unfold knownE; rw [if_neg h1]
    rw [HK2] at HK
    clear HK2 hrow
    go_enter Tryd.func22, Tryd.ntmps22
    go_wp2_with fail
    refine HK.out.mono ?_; rintro e w' ⟨rfl, rfl⟩
    go_wp2_with fail
    go_ret2
    exact HP.out

/-- What an operation on a desk turns: the desk's block and its two rows. -/
structure Kp (base D : Nat) (lv fv : Value) (w W : World) : Prop where
  bel : Below base w W
  same : ∀ k, k < w.heap.size → k ≠ D → lv.ownBlock ≠ some k → fv.ownBlock ≠ some k → W.heap[k]? = w.heap[k]?
theorem Kp.refl (base D : Nat) (lv fv : Value) (w : World) : Kp base D lv fv w w := ⟨Below.refl _ _, fun _ _ _ _ _ => rfl⟩
theorem Kp.trans {base D : Nat} {lv fv : Value} {a b c : World} (h : Kp base D lv fv a b) (k : Kp base D lv fv b c) : Kp base D lv fv a c :=
  ⟨h.bel.trans k.bel, fun i hi h1 h2 h3 => (k.same i (Nat.lt_of_lt_of_le hi h.bel.size) h1 h2 h3).trans (h.same i hi h1 h2 h3)⟩
theorem Kp.alloc {base D : Nat} {lv fv : Value} {w W : World} (h : Kp base D lv fv w W) (hB : base ≤ W.heap.size) (o : Obj) : Kp base D lv fv w (W.alloc o) :=
  ⟨h.bel.alloc hB o, fun i hi h1 h2 h3 => (Below.heap_alloc W o i (Nat.lt_of_lt_of_le hi h.bel.size)).trans (h.same i hi h1 h2 h3)⟩
theorem Kp.drew {base D : Nat} {lv fv : Value} {w W : World} (h : Kp base D lv fv w W) : Kp base D lv fv w W.drew := ⟨h.bel.drew, h.same⟩
theorem Kp.drewN {base D : Nat} {lv fv : Value} {w W : World} (n : Nat) (h : Kp base D lv fv w W) : Kp base D lv fv w (W.drewN n) := ⟨⟨h.bel.os, h.bel.tape, h.bel.output, h.bel.size, h.bel.block⟩, h.same⟩
theorem Kp.setCell {base D : Nat} {lv fv : Value} {w W : World} (h : Kp base D lv fv w W) {p : Addr} (hp : base ≤ p.block) (hm : p.block = D ∨ lv.ownBlock = some p.block ∨ fv.ownBlock = some p.block) (v : Value) : Kp base D lv fv w (W.setCell p v) :=
  ⟨h.bel.setCell hp v, fun i hi h1 h2 h3 => (heap_setCell_other W p i v (by
    intro e
    rcases hm with hm | hm | hm
    · exact h1 (e.trans hm)
    · exact h2 (by rw [e]; exact hm)
    · exact h3 (by rw [e]; exact hm))).trans (h.same i hi h1 h2 h3)⟩
theorem Kp.ext {base D : Nat} {lv fv : Value} {w W : World} (h : Below w.heap.size w W) (hb : base ≤ w.heap.size) : Kp base D lv fv w W := ⟨h.mono hb, fun i hi _ _ _ => h.block i hi⟩
theorem Kp.size {base D : Nat} {lv fv : Value} {w W : World} (h : Kp base D lv fv w W) : w.heap.size ≤ W.heap.size := h.bel.size
/-- The rows behind an operation: those that were, or new ones. -/
def Rows2 (n : Nat) (lv fv lv' fv' : Value) : Prop := (∀ k, k < n → lv'.ownBlock = some k → lv.ownBlock = some k) ∧ (∀ k, k < n → fv'.ownBlock = some k → fv.ownBlock = some k)
theorem Rows2.refl (n : Nat) (lv fv : Value) : Rows2 n lv fv lv fv := ⟨fun _ _ h => h, fun _ _ h => h⟩
def NewOf (n : Nat) (v v' : Value) : Prop := ∀ k, k < n → v'.ownBlock = some k → v.ownBlock = some k
theorem NewOf.of {n m : Nat} {v v' : Value} (h : v'.ownBlock = v.ownBlock ∨ v'.ownBlock = some m) (hm : n ≤ m) : NewOf n v v' := by
  intro k hk e
  rcases h with h | h
  · rw [← h]; exact e
  · rw [h] at e; injection e with e; omega

/-- What an operation leaves: an error, and a desk. -/
def OpPost (w : World) (base D : Nat) (lv fv : Value) (d' : DeskV) (err : Int) (e : Ending) (w' : World) : Prop := e = .returned (.int .i64 err) ∧ Kp base D lv fv w w' ∧ ∃ lv' fv', DeskI w' base D d' lv' fv' ∧ Rows2 w.heap.size lv fv lv' fv'

def publishV (d : DeskV) (t : Int) : DeskV × Int := if clockE d t true = 0 then ({ d with out := true, since := t, time := t }, 0) else (d, clockE d t true)

theorem Publish_c (base D : Nat) (d : DeskV) (lv fv : Value) (t : Int) (w : World) (h : DeskI w base D d lv fv) :
    Calls Tryd.prog 25 #[.pointer (some ⟨D, 0, none⟩), .int .i64 t] w (OpPost w base D lv fv (publishV d t).1 (publishV d t).2) := by
  have HC := Lib.hid (clock_c base D d lv fv t true w h)
  have HD := Lib.hid h
  have f18 : w.frozen? ⟨D, 18, none⟩ = false := frozen_block h.blk
  have f17 : w.frozen? ⟨D, 17, none⟩ = false := frozen_block h.blk
  have f16 : w.frozen? ⟨D, 16, none⟩ = false := frozen_block h.blk
  have c18 : w.cell? ⟨D, 18, none⟩ = some (.int .i64 d.time) := h.cell 18
  have c17 : w.cell? ⟨D, 17, none⟩ = some (.int .i64 d.since) := h.cell 17
  have c16 : w.cell? ⟨D, 16, none⟩ = some (.bool d.out) := h.cell 16
  clear h
  by_cases h0 : clockE d t true = 0
  · have hP : publishV d t = ({ d with out := true, since := t, time := t }, 0) := by unfold publishV; rw [if_pos h0]
    rw [hP]
    rw [h0] at HC
    clear hP h0
    have H1 := Lib.hid (HD.out.put (d' := { d with time := t }) 18 (.int .i64 t) rfl rfl rfl)
    have H2 := Lib.hid (H1.out.put (d' := { d with time := t, since := t }) 17 (.int .i64 t) rfl rfl rfl)
    have H3 := Lib.hid (H2.out.put (d' := { d with time := t, since := t, out := true }) 16 (.bool true) rfl rfl rfl)
    have hB := Lib.hid ((((Kp.refl base D lv fv w).setCell (p := ⟨D, 18, none⟩) HD.out.low (.inl rfl) (.int .i64 t)).setCell (p := ⟨D, 17, none⟩) HD.out.low (.inl rfl) (.int .i64 t)).setCell (p := ⟨D, 16, none⟩) HD.out.low (.inl rfl) (.bool true))
    go_enter Tryd.func25, Tryd.ntmps25
    go_wp2_with fail
    refine HC.out.mono ?_; rintro e w' ⟨rfl, rfl⟩
    go_wp2_with fail
    go_ret
    exact ⟨rfl, hB.out, _, _, H3.out, Rows2.refl _ _ _⟩
  · have hP : publishV d t = (d, clockE d t true) := by unfold publishV; rw [if_neg h0]
    rw [hP]
    generalize clockE d t true = k at *
    have hk : (k == 0) = false := by rw [beq_eq_false_iff_ne]; exact h0
    clear hP
    go_enter Tryd.func25, Tryd.ntmps25
    go_wp2_with fail
    refine HC.out.mono ?_; rintro e w' ⟨rfl, rfl⟩
    go_wp2_with fail
    go_ret
    exact ⟨rfl, Kp.refl _ _ _ _ _, _, _, HD.out, Rows2.refl _ _ _⟩

end Go.Proofs.YtbbngcacfdgahaaDoor
