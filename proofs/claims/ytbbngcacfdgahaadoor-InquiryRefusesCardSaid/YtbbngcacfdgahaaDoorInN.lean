/- Chapter 46: the contract of Rule. -/
import Derived.Test.YtbbngcacfdgahaaDoorInM
import Derived.Deep.DeepCutAuto
import Derived.Deep.CutBlock
namespace Go.Proofs.YtbbngcacfdgahaaDoor
open Go.RowKit
set_option linter.unusedVariables false
set_option linter.unusedSimpArgs false

def lineS (l : List UInt8) : Bool := decide (l.length ≤ 400) && !l.any oddB
def allowedB (acc : Bool) (l : List UInt8) : Bool := lineS l && (acc || l.isEmpty)

theorem Ext.bytes {w W : World} (h : Ext w W) (e : TypeId) (s : ByteArray) : Ext w (Lib.bytesWorld W e s) :=
  Ext.trans h (Joins.below_bytesWorld _ W e s (Nat.le_refl _))

/-- The fact of a ruling, the inquiry behind it. -/
def ruleF (d : DeskV) (n : Int) (acc : Bool) (line : ByteArray) : FactV := { d.about with kind := 11, rev := 1, index := n, value := if acc then 1 else 2, text := if acc then line else d.about.text }
def ruleQ (q : IQ) (acc : Bool) (line : ByteArray) : IQ := { q with state := if acc then 2 else 3, line := if acc then line else q.line }
/-- What Rule makes of a desk. -/
def ruleV (d : DeskV) (n : Int) (acc : Bool) (line : ByteArray) (t : Int) : DeskV × Int :=
  if decideE d n t (allowedB acc line.data.toList) = 0 then
    ({ d with time := t, list := d.list.set (n.toNat - 1) (ruleQ (d.list.getD (n.toNat - 1) { filing := {} }) acc line), facts := d.facts ++ [ruleF d n acc line] }, 0)
  else (d, decideE d n t (allowedB acc line.data.toList))

theorem ruleV_ok {d : DeskV} {m : Nat} {acc : Bool} {line : ByteArray} {t : Int} (h0 : decideE d ((m : Int) + 1) t (allowedB acc line.data.toList) = 0) (hm : m < d.list.length) :
    ruleV d ((m : Int) + 1) acc line t = ({ d with time := t, list := d.list.set m (ruleQ d.list[m] acc line), facts := d.facts ++ [ruleF d ((m : Int) + 1) acc line] }, 0) := by
  unfold ruleV
  rw [if_pos h0, show ((m : Int) + 1).toNat - 1 = m by omega, List.getD_eq_getElem?_getD, List.getElem?_eq_getElem hm]; rfl
theorem ruleV_no {d : DeskV} {n : Int} {acc : Bool} {line : ByteArray} {t : Int} (h0 : ¬ decideE d n t (allowedB acc line.data.toList) = 0) :
    ruleV d n acc line t = (d, decideE d n t (allowedB acc line.data.toList)) := by unfold ruleV; rw [if_neg h0]

set_option maxHeartbeats 4000000 in
set_option maxRecDepth 100000 in
theorem Rule_c (base D : Nat) (d : DeskV) (lv fv : Value) (n t : Int) (acc : Bool) (line : ByteArray) (w : World) (h : DeskI w base D d lv fv) (hfn : d.facts.length ≤ 300) (hl : line.size ≤ 9223372036854775807) :
    Calls Tryd.prog 28 #[.pointer (some ⟨D, 0, none⟩), .int .i64 n, .bool acc, .string line, .int .i64 t] w (OpPost w base D lv fv (ruleV d n acc line t).1 (ruleV d n acc line t).2) := by
  have hll : line.data.toList.length = line.size := rfl
  have hcv := fun W => Lib.run_convert_string_bytes (P := Tryd.prog) W 9 87 5 line Tryd.underlying9 Tryd.underlying87 Tryd.underlying5
  have HC := Lib.hid (fun W => containsB_c line W hl)
  have HH := Lib.hid h; clear h
  have hll := Lib.hid hll
  go_enter Tryd.func28, Tryd.ntmps28
  go_upto_region 2 with fail
  go_cut [12] (fun s wx => s = .bool (allowedB acc line.data.toList) ∧ Ext w wx)
  case first =>
    by_cases h4 : line.size ≤ 400
    · cases ho0 : line.data.toList.any oddB
      · rw [ho0] at HC
        cases acc
        · have HA : Hid (allowedB false line.data.toList = line.toList.isEmpty) := Lib.hid (by unfold allowedB lineS; rw [ho0, str_toList, hll.out]; simp [h4])
          clear ho0
          go_wp2_with (go_at_call 51; refine (HC.out _).mono ?_; rintro e w' ⟨rfl, q, rfl⟩)
          go_meet
          exact ⟨by rw [HA.out], ((Ext.refl _).bytes _ _).drewN _⟩
        · have HA : Hid (allowedB true line.data.toList = true) := Lib.hid (by unfold allowedB lineS; rw [ho0, hll.out]; simp [h4])
          clear ho0
          go_wp2_with (go_at_call 51; refine (HC.out _).mono ?_; rintro e w' ⟨rfl, q, rfl⟩)
          go_meet
          exact ⟨by rw [HA.out], ((Ext.refl _).bytes _ _).drewN _⟩
      · rw [ho0] at HC
        have HA : Hid (allowedB acc line.data.toList = false) := Lib.hid (by unfold allowedB lineS; rw [ho0]; simp)
        clear ho0
        go_wp2_with (go_at_call 51; refine (HC.out _).mono ?_; rintro e w' ⟨rfl, q, rfl⟩)
        go_meet
        exact ⟨by rw [HA.out], ((Ext.refl _).bytes _ _).drewN _⟩
    · have HA : Hid (allowedB acc line.data.toList = false) := Lib.hid (by unfold allowedB lineS; rw [hll.out]; simp [h4])
      go_wp2_with fail
      go_meet
      exact ⟨by rw [HA.out], Ext.refl _⟩
  case rest =>
    obtain ⟨rfl, hE⟩ := hcut
    have HX := Lib.hid (HH.out.ext hE)
    have HD := Lib.hid (decide_c base D d lv fv n t (allowedB acc line.data.toList) wc HX.out)
    have hE := Lib.hid hE
    have hbb := HX.out.lt
    by_cases h0 : decideE d n t (allowedB acc line.data.toList) = 0
    · have h0' := h0
      rw [h0] at HD
      obtain ⟨-, h1, h2, h3⟩ := decideE_known h0
      clear h0 HC hcv hll
      obtain ⟨m, rfl⟩ : ∃ m : Nat, n = (m : Int) + 1 := ⟨(n - 1).toNat, by omega⟩
      have hm : m < d.list.length := by omega
      have HV := Lib.hid (ruleV_ok h0' hm)
      clear h0'
      generalize allowedB acc line.data.toList = ok at *
      have ix : ((m : Int) + 1 - 1) = m := by omega
      have H1 := HX.out.put (d' := { d with time := t }) 18 (.int .i64 t) rfl rfl rfl
      have hB1 : Kp base D lv fv w (wc.setCell ⟨D, 18, none⟩ (.int .i64 t)) := (Kp.ext hE.out.below HH.out.lt.2).setCell (p := ⟨D, 18, none⟩) HX.out.low (.inl rfl) _
      obtain ⟨w1, hw1⟩ : ∃ w1, Hid (wc.setCell ⟨D, 18, none⟩ (.int .i64 t) = w1) := ⟨_, Lib.hid rfl⟩
      rw [hw1.out] at H1 hB1
      have HD2 : Hid (Calls Tryd.prog 52 #[.pointer (some ⟨D, 0, none⟩), .int .i64 ((m : Int) + 1), .int .i64 t, .bool ok] wc fun e w' => e = .returned (.int .i64 0) ∧ w' = w1) := Lib.hid (HD.out.mono (by
        rintro e w' ⟨rfl, hw⟩; exact ⟨rfl, by rw [hw, if_pos rfl, hw1.out]⟩))
      clear HD hw1
      have hB1 := Lib.hid hB1
      obtain ⟨A, cap, rfl, hrow⟩ := H1.row
      obtain ⟨g, rfl, -⟩ := hrow (by show 0 < d.list.length; omega)
      clear hrow
      obtain ⟨hgb, hrow, hfr⟩ := H1.rowG (m := m) hm
      have c19 : w1.cell? ⟨D, 19, none⟩ = some (.slice (some ⟨g, 0, none⟩) d.list.length cap) := H1.cell 19
      have c14 : w1.cell? ⟨g, m * 16 + 14, none⟩ = some (.int .i64 d.list[m].state) := hrow 14 (by omega)
      have c15 : w1.cell? ⟨g, m * 16 + 15, none⟩ = some (.string d.list[m].line) := hrow 15 (by omega)
      have fr14 := hfr (m * 16 + 14)
      have fr15 := hfr (m * 16 + 15)
      have hf := H1.few
      have f0 : w1.cell? ⟨D, 0, none⟩ = some (.int .i64 d.about.kind) := H1.cell 0
      have f1 : w1.cell? ⟨D, 1, none⟩ = some (.int .i64 d.about.rev) := H1.cell 1
      have f2 : w1.cell? ⟨D, 2, none⟩ = some (.bool d.about.gone) := H1.cell 2
      have f3 : w1.cell? ⟨D, 3, none⟩ = some (.string d.about.phase) := H1.cell 3
      have f4 : w1.cell? ⟨D, 4, none⟩ = some (.string d.about.segment) := H1.cell 4
      have f5 : w1.cell? ⟨D, 5, none⟩ = some (.int .i64 d.about.bib) := H1.cell 5
      have f6 : w1.cell? ⟨D, 6, none⟩ = some (.string d.about.panel) := H1.cell 6
      have f7 : w1.cell? ⟨D, 7, none⟩ = some (.string d.about.judge) := H1.cell 7
      have f8 : w1.cell? ⟨D, 8, none⟩ = some (.int .i64 d.about.index) := H1.cell 8
      have f9 : w1.cell? ⟨D, 9, none⟩ = some (.string d.about.fed) := H1.cell 9
      have f10 : w1.cell? ⟨D, 10, none⟩ = some (.string d.about.name) := H1.cell 10
      have f11 : w1.cell? ⟨D, 11, none⟩ = some (.int .i64 d.about.value) := H1.cell 11
      have f12 : w1.cell? ⟨D, 12, none⟩ = some (.string d.about.text) := H1.cell 12
      have f13 : w1.cell? ⟨D, 13, none⟩ = some (.bool d.about.flag) := H1.cell 13
      have hlt := H1.lt
      have hgl : g < w1.heap.size := World.block_lt_of_cell? w1 _ c14
      have hgn : ¬ g = w1.heap.size := by omega
      have hgn2 : ¬ w1.heap.size = g := by omega
      have H1 := Lib.hid H1
      clear hrow hfr
      go_wp2_with fail
      refine HD2.out.mono ?_; rintro e w' ⟨rfl, rfl⟩
      cases acc
      · obtain ⟨W0, hW0⟩ : ∃ W0, w'.setCell ⟨g, m * 16 + 14, none⟩ (.int .i64 3) = W0 := ⟨_, rfl⟩
        have H2 := H1.out.setQ hm 14 (.int .i64 3) (ruleQ d.list[m] false line) (by omega) (vals_state _ _)
        have hB2 := hB1.out.setCell (p := ⟨g, m * 16 + 14, none⟩) hgb (.inr (.inl rfl)) (.int .i64 3)
        have hWs : W0.heap.size = w'.heap.size := by rw [← hW0]; simp
        rw [hW0] at H2 hB2
        have hD : D < W0.heap.size := H2.lt.1
        have f20 : ∀ W, Ext W0 W → W.cell? ⟨D, 20, none⟩ = some fv := fun W h => h.cell (H2.cell 20)
        have fr20 : ∀ W, Ext W0 W → W.frozen? ⟨D, 20, none⟩ = false := fun W h => (h.frozen hD).trans (frozen_block H2.blk)
        have H3 := Lib.hid (fun o o' => ((H2.alloc o).alloc o').drew)
        have P4 := Lib.hid (fun o o' => ((((hB2.alloc (Nat.le_trans H2.low (Nat.le_of_lt hD)) o).alloc (by have := H2.lt; simp; omega) o').drew) : Kp base D (.slice (some ⟨g, 0, none⟩) d.list.length cap) fv w _))
        have hbw := H2.lt.2
        clear H2 hB2
        go_wp2_with fail
        go_region_law (first
          | (refine step_fact rfl _ _ rfl base fv _ _ rfl (H3.out _ _).facts _ _ (ruleF d ((m : Int) + 1) false line) rfl ?gh hfn ?gb ?_
             case gh => exact heap_two _ _ _ _ (by simp [hWs])
             case gb => (simp [hWs]; omega)
             intro v2 w2 hown2 hg2 hat2
             obtain ⟨A2, k2, cc2, rfl⟩ := own_shape hown2
             obtain ⟨c20, fr20, HF, HB, HN⟩ := (H3.out _ _).pushFact _ hown2 hg2 hat2
             have HF := Lib.hid HF
             have HN := Lib.hid (fun k hk => HN k (Nat.lt_of_lt_of_le hk (P4.out _ _).size))
             have HB := Lib.hid ((P4.out _ _).trans (HB _))
             clear hown2 hg2 hat2)
          | fail)
        all_goals
          go_wp2_with fail
          go_ret
          rw [HV.out]
          exact ⟨rfl, HB.out, _, _, HF.out, fun _ _ h => h, HN.out⟩
      · obtain ⟨W0, hW0⟩ : ∃ W0, (w'.setCell ⟨g, m * 16 + 14, none⟩ (.int .i64 2)).setCell ⟨g, m * 16 + 15, none⟩ (.string line) = W0 := ⟨_, rfl⟩
        have H2 := (H1.out.setQ hm 14 (.int .i64 2) { d.list[m] with state := 2 } (by omega) (vals_state _ _)).setQ' hm 15 (.string line) (ruleQ d.list[m] true line) (by omega) (fun i => by
          simp only [List.getElem_set_self]
          exact vals_line { d.list[m] with state := 2 } line i)
        have hB2 := (hB1.out.setCell (p := ⟨g, m * 16 + 14, none⟩) hgb (.inr (.inl rfl)) (.int .i64 2)).setCell (p := ⟨g, m * 16 + 15, none⟩) hgb (.inr (.inl rfl)) (.string line)
        have hWs : W0.heap.size = w'.heap.size := by rw [← hW0]; simp
        rw [hW0] at H2 hB2
        have hD : D < W0.heap.size := H2.lt.1
        have f20 : ∀ W, Ext W0 W → W.cell? ⟨D, 20, none⟩ = some fv := fun W h => h.cell (H2.cell 20)
        have fr20 : ∀ W, Ext W0 W → W.frozen? ⟨D, 20, none⟩ = false := fun W h => (h.frozen hD).trans (frozen_block H2.blk)
        have H3 := Lib.hid (fun o o' => ((H2.alloc o).alloc o').drew)
        have P4 := Lib.hid (fun o o' => ((((hB2.alloc (Nat.le_trans H2.low (Nat.le_of_lt hD)) o).alloc (by have := H2.lt; simp; omega) o').drew) : Kp base D (.slice (some ⟨g, 0, none⟩) d.list.length cap) fv w _))
        have hbw := H2.lt.2
        clear H2 hB2
        go_wp2_with fail
        go_region_law (first
          | (refine step_fact rfl _ _ rfl base fv _ _ rfl (H3.out _ _).facts _ _ (ruleF d ((m : Int) + 1) true line) rfl ?gh hfn ?gb ?_
             case gh => exact heap_two _ _ _ _ (by simp [hWs])
             case gb => (simp [hWs]; omega)
             intro v2 w2 hown2 hg2 hat2
             obtain ⟨A2, k2, cc2, rfl⟩ := own_shape hown2
             obtain ⟨c20, fr20, HF, HB, HN⟩ := (H3.out _ _).pushFact _ hown2 hg2 hat2
             have HF := Lib.hid HF
             have HN := Lib.hid (fun k hk => HN k (Nat.lt_of_lt_of_le hk (P4.out _ _).size))
             have HB := Lib.hid ((P4.out _ _).trans (HB _))
             clear hown2 hg2 hat2)
          | fail)
        all_goals
          go_wp2_with fail
          go_ret
          rw [HV.out]
          exact ⟨rfl, HB.out, _, _, HF.out, fun _ _ h => h, HN.out⟩
    · have HV := Lib.hid (ruleV_no (line := line) h0)
      generalize decideE d n t (allowedB acc line.data.toList) = k at *
      have hk : (k == 0) = false := by rw [beq_eq_false_iff_ne]; exact h0
      have hk2 : (k != 0) = true := by rw [bne_iff_ne]; exact h0
      generalize allowedB acc line.data.toList = ok at *
      clear HC hcv hll
      go_wp2_with fail
      refine HD.out.mono ?_; rintro e w' ⟨rfl, hw⟩
      rw [if_neg h0] at hw
      subst hw
      go_wp2_with fail
      go_ret
      rw [HV.out]
      exact ⟨rfl, Kp.ext hE.out.below HH.out.lt.2, _, _, HX.out, Rows2.refl _ _ _⟩

end Go.Proofs.YtbbngcacfdgahaaDoor
