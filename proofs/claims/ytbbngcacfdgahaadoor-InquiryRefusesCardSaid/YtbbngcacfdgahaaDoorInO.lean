/- Chapter 46: the contract of File. -/
import Derived.Test.YtbbngcacfdgahaaDoorInN
namespace Go.Proofs.YtbbngcacfdgahaaDoor
open Go.RowKit
set_option linter.unusedVariables false
set_option linter.unusedSimpArgs false

/-- The error of File. -/
def fileE (d : DeskV) (s : ByteArray) (t : Int) : Int :=
  if clockE d t (titleS s.data.toList) = 0 then
    (if d.out = true then
      (if pendingB d = true then 9 else if d.limit < t - d.since then 10 else if d.list.length = 99 then 6 else 0)
    else 7)
  else clockE d t (titleS s.data.toList)
def fileF (d : DeskV) (s : ByteArray) (t : Int) : FactV := { d.about with kind := 10, rev := 1, index := (d.list.length : Int) + 1, value := t, text := s }
def fileV (d : DeskV) (s : ByteArray) (t : Int) : DeskV × Int × Int :=
  if fileE d s t = 0 then ({ d with time := t, list := d.list ++ [{ filing := fileF d s t }], facts := d.facts ++ [fileF d s t] }, (d.list.length : Int) + 1, 0)
  else (d, 0, fileE d s t)
def FilePost (w : World) (base D : Nat) (lv fv : Value) (r : DeskV × Int × Int) (e : Ending) (w' : World) : Prop :=
  e = .returned (.tuple #[.int .i64 r.2.1, .int .i64 r.2.2]) ∧ Kp base D lv fv w w' ∧ ∃ lv' fv', DeskI w' base D r.1 lv' fv' ∧ Rows2 w.heap.size lv fv lv' fv'
theorem fileV_no {d : DeskV} {s : ByteArray} {t k : Int} (h : fileE d s t = k) (h0 : k ≠ 0) : fileV d s t = (d, 0, k) := by unfold fileV; rw [h, if_neg h0]
theorem fileV_ok {d : DeskV} {s : ByteArray} {t : Int} (h : fileE d s t = 0) : fileV d s t = ({ d with time := t, list := d.list ++ [{ filing := fileF d s t }], facts := d.facts ++ [fileF d s t] }, (d.list.length : Int) + 1, 0) := by unfold fileV; rw [if_pos h]
theorem inTime_bd {d : DeskV} {t : Int} {ok : Bool} (h : clockE d t ok = 0) : 0 ≤ t ∧ t ≤ 1000000000 := by
  unfold clockE at h
  cases hi : inTime t
  · rw [hi] at h; simp at h
  · unfold inTime at hi; simpa using hi

theorem heap_one (W : World) (o : Obj) : ((W.alloc o).drew).heap[W.heap.size]? = some o := heap_alloc_new W o

set_option maxHeartbeats 4000000 in
set_option maxRecDepth 100000 in
theorem File_c (base D : Nat) (d : DeskV) (lv fv : Value) (s : ByteArray) (t : Int) (w : World) (h : DeskI w base D d lv fv) (hfn : d.facts.length ≤ 300) (hs : s.size ≤ 9223372036854775807) (ht : Tabs w)
    (hs0 : 0 ≤ d.since) (hs1 : d.since ≤ 1000000000) (hl0 : 0 ≤ d.limit) (hl1 : d.limit ≤ 1000000000) :
    Calls Tryd.prog 26 #[.pointer (some ⟨D, 0, none⟩), .string s, .int .i64 t] w (FilePost w base D lv fv (fileV d s t)) := by
  have HT := Lib.hid (Title_c s w hs ht)
  have HC := Lib.hid (fun W (hE : Ext w W) => clock_c base D d lv fv t (titleS s.data.toList) W (h.ext hE))
  have HP := Lib.hid (fun W (hE : Ext w W) => Pending_c base D d lv fv W (h.ext hE))
  obtain ⟨A, cap, rfl, -⟩ := h.row
  have HH := Lib.hid h
  have hlt := h.lt
  have hf := h.few
  clear h ht
  have hd : fileE d s t = if clockE d t (titleS s.data.toList) = 0 then
    (if d.out = true then
      (if pendingB d = true then 9 else if d.limit < t - d.since then 10 else if d.list.length = 99 then 6 else 0)
    else 7)
  else clockE d t (titleS s.data.toList) := rfl
  have HV := Lib.hid hd; clear hd
  have HI := Lib.hid (@inTime_bd d t (titleS s.data.toList))
  generalize clockE d t (titleS s.data.toList) = k at *
  go_enter Tryd.func26, Tryd.ntmps26
  go_upto_region 1 with fail
  go_cut [8] (fun s8 wx => s8 = .int .i64 k ∧ Ext w wx)
  case first =>
    go_wp2_with fail
    refine HT.out.mono ?_; rintro e w' ⟨rfl, hE⟩
    have hE2 : Ext w w' := hE
    go_wp2_with fail
    refine (HC.out _ hE2).mono ?_; rintro e w' ⟨rfl, rfl⟩
    go_wp2_with fail
    go_meet
    exact ⟨rfl, hE2⟩
  case rest =>
    obtain ⟨rfl, hE⟩ := hcut
    have HX := HH.out.ext hE
    have HP2 := Lib.hid (HP.out _ hE)
    have hB := Kp.ext (base := base) (D := D) (lv := (.slice A d.list.length cap)) (fv := fv) hE.below hlt.2
    have hlt2 := HX.lt
    have c16 : wc.cell? ⟨D, 16, none⟩ = some (.bool d.out) := HX.cell 16
    have c17 : wc.cell? ⟨D, 17, none⟩ = some (.int .i64 d.since) := HX.cell 17
    have c14 : wc.cell? ⟨D, 14, none⟩ = some (.int .i64 d.limit) := HX.cell 14
    have c18 : wc.cell? ⟨D, 18, none⟩ = some (.int .i64 d.time) := HX.cell 18
    have c19 : wc.cell? ⟨D, 19, none⟩ = some (.slice A d.list.length cap) := HX.cell 19
    have fr18 : wc.frozen? ⟨D, 18, none⟩ = false := frozen_block HX.blk
    have HX := Lib.hid HX
    have hB := Lib.hid hB
    clear HC HT HP hE
    by_cases h0 : k = 0
    · subst h0
      rw [if_pos rfl] at HV
      obtain ⟨t0, t1⟩ := HI.out rfl
      clear HI
      cases ho : d.out
      · rw [ho] at HV c16
        have HW := Lib.hid (fileV_no (HV.out.trans (if_neg (by simp))) (by omega))
        clear HV
        go_wp2_with fail
        go_ret2
        rw [HW.out]
        exact ⟨rfl, hB.out, _, _, HX.out, Rows2.refl _ _ _⟩
      rw [ho, if_pos rfl] at HV
      rw [ho] at c16
      cases hp : pendingB d
      · rw [hp, if_neg (by simp)] at HV
        rw [hp] at HP2
        clear hp
        by_cases hl : d.limit < t - d.since
        · have HW := Lib.hid (fileV_no (HV.out.trans (if_pos hl)) (by omega))
          clear HV
          go_wp2_with fail
          refine HP2.out.mono ?_; rintro e w' ⟨rfl, rfl⟩
          go_wp2_with fail
          go_quiet (fail)
          go_wp2_with fail
          go_ret2
          rw [HW.out]
          exact ⟨rfl, hB.out.drewN _, _, _, HX.out.ext (((Ext.refl _).drewN _)), Rows2.refl _ _ _⟩
        · rw [if_neg hl] at HV
          have hl2 : t - d.since ≤ d.limit := by omega
          clear hl
          by_cases h99 : d.list.length = 99
          · have HW := Lib.hid (fileV_no (HV.out.trans (if_pos h99)) (by omega))
            clear HV
            have hb99 : ((d.list.length : Int) == 99) = true := by rw [beq_iff_eq]; omega
            have h99 := Lib.hid h99
            go_upto_region 8 with (refine HP2.out.mono ?_; rintro e w' ⟨rfl, rfl⟩)
            go_quiet (fail)
            go_wp2_with fail
            go_ret2
            rw [HW.out]
            exact ⟨rfl, hB.out.drewN _, _, _, HX.out.ext (((Ext.refl _).drewN _)), Rows2.refl _ _ _⟩
          · have HW := Lib.hid (fileV_ok (HV.out.trans (if_neg h99)))
            clear HV
            have hb99 : ((d.list.length : Int) == 99) = false := by rw [beq_eq_false_iff_ne]; omega
            have hlt99 : d.list.length < 99 := by omega
            have h99 := Lib.hid h99
            go_upto_region 8 with (refine HP2.out.mono ?_; rintro e w' ⟨rfl, rfl⟩)
            obtain ⟨wb, hwb⟩ : ∃ wb, Hid (wb = wc) := ⟨_, Lib.hid rfl⟩
            go_cut [28] (fun s28 wx => s28 = .bool false ∧ ∃ nq, wx = wb.drewN nq)
            case first =>
              go_quiet (fail)
              go_wp2_with fail
              go_meet
              exact ⟨by rw [decide_eq_false (by omega)], _, by rw [hwb.out]⟩
            case rest =>
              obtain ⟨rfl, nq, hw⟩ := hcut
              have hwb := hwb.out
              subst hwb
              have hE3 : Ext wb wc := by rw [hw]; exact (Ext.refl _).drewN nq
              have hB3 := hB.out.trans (Kp.ext hE3.below hlt2.2)
              have HX3 := HX.out.ext hE3
              have H1 := HX3.put (d' := { d with time := t }) 18 (.int .i64 t) rfl rfl rfl
              have hB1 := hB3.setCell (p := ⟨D, 18, none⟩) HX3.low (.inl rfl) (.int .i64 t)
              have d18 : wc.cell? ⟨D, 18, none⟩ = some (.int .i64 d.time) := HX3.cell 18
              have d19 : wc.cell? ⟨D, 19, none⟩ = some (.slice A d.list.length cap) := HX3.cell 19
              have dr18 : wc.frozen? ⟨D, 18, none⟩ = false := frozen_block HX3.blk
              clear hw hE3 hB3 HX3 HX hB hlt2 c14 c16 c17 c18 c19 fr18
              obtain ⟨W0, hW0⟩ : ∃ W0, wc.setCell ⟨D, 18, none⟩ (.int .i64 t) = W0 := ⟨_, rfl⟩
              rw [hW0] at H1 hB1
              have hlt3 := H1.lt
              have f0 : W0.cell? ⟨D, 0, none⟩ = some (.int .i64 d.about.kind) := H1.cell 0
              have f1 : W0.cell? ⟨D, 1, none⟩ = some (.int .i64 d.about.rev) := H1.cell 1
              have f2 : W0.cell? ⟨D, 2, none⟩ = some (.bool d.about.gone) := H1.cell 2
              have f3 : W0.cell? ⟨D, 3, none⟩ = some (.string d.about.phase) := H1.cell 3
              have f4 : W0.cell? ⟨D, 4, none⟩ = some (.string d.about.segment) := H1.cell 4
              have f5 : W0.cell? ⟨D, 5, none⟩ = some (.int .i64 d.about.bib) := H1.cell 5
              have f6 : W0.cell? ⟨D, 6, none⟩ = some (.string d.about.panel) := H1.cell 6
              have f7 : W0.cell? ⟨D, 7, none⟩ = some (.string d.about.judge) := H1.cell 7
              have f8 : W0.cell? ⟨D, 8, none⟩ = some (.int .i64 d.about.index) := H1.cell 8
              have f9 : W0.cell? ⟨D, 9, none⟩ = some (.string d.about.fed) := H1.cell 9
              have f10 : W0.cell? ⟨D, 10, none⟩ = some (.string d.about.name) := H1.cell 10
              have f11 : W0.cell? ⟨D, 11, none⟩ = some (.int .i64 d.about.value) := H1.cell 11
              have f12 : W0.cell? ⟨D, 12, none⟩ = some (.string d.about.text) := H1.cell 12
              have f13 : W0.cell? ⟨D, 13, none⟩ = some (.bool d.about.flag) := H1.cell 13
              have g19 : W0.cell? ⟨D, 19, none⟩ = some (.slice A d.list.length cap) := H1.cell 19
              have H1 := Lib.hid H1
              have hB1 := Lib.hid hB1
              have hwr : IntKind.i64.wrap ((d.list.length : Int) + 1) = (d.list.length : Int) + 1 := by rw [IntKind.wrap_i64]; omega
              go_upto_region 14 with fail
              go_cut [9] (fun s9 wx => ∃ bx, s9 = .pointer (some ⟨bx, 0, none⟩) ∧ wx.heap[bx]? = some (.cells (fileF d s t).vals.toArray 58 (0, 0)) ∧ DeskI wx base D { d with time := t } (.slice A d.list.length cap) fv ∧ Kp base D (.slice A d.list.length cap) fv w wx ∧ (base ≤ bx ∧ bx ≠ D ∧ Value.ownBlock (.slice A d.list.length cap) ≠ some bx ∧ fv.ownBlock ≠ some bx))
              case first =>
                go_region_law (fail)
                all_goals
                  go_wp2_with fail
                  go_meet
                  exact ⟨W0.heap.size, rfl, heap_one _ _, (H1.out.alloc _).drew, (hB1.out.alloc hlt3.2 _).drew, hlt3.2, by omega, fun e => by have := (H1.out.list.lt _ e).2; omega, fun e => by have := (H1.out.facts.lt _ e).2; omega⟩
              case rest =>
                obtain ⟨bx, rfl, hbx, HD3, hB3, hbx1, hbx2, hbx3, hbx4⟩ := hcut
                clear H1 hB1 hlt3 hW0 g19
                clear f0 f1 f2 f3 f4 f5 f6 f7 f8 f9 f10 f11 f12 f13
                have f0 : wc.cell? ⟨bx, 0, none⟩ = some (.int .i64 10) := by rw [cell_of_row _ _ _ _ _ _ hbx]; rfl
                have f1 : wc.cell? ⟨bx, 1, none⟩ = some (.int .i64 1) := by rw [cell_of_row _ _ _ _ _ _ hbx]; rfl
                have f2 : wc.cell? ⟨bx, 2, none⟩ = some (.bool d.about.gone) := by rw [cell_of_row _ _ _ _ _ _ hbx]; rfl
                have f3 : wc.cell? ⟨bx, 3, none⟩ = some (.string d.about.phase) := by rw [cell_of_row _ _ _ _ _ _ hbx]; rfl
                have f4 : wc.cell? ⟨bx, 4, none⟩ = some (.string d.about.segment) := by rw [cell_of_row _ _ _ _ _ _ hbx]; rfl
                have f5 : wc.cell? ⟨bx, 5, none⟩ = some (.int .i64 d.about.bib) := by rw [cell_of_row _ _ _ _ _ _ hbx]; rfl
                have f6 : wc.cell? ⟨bx, 6, none⟩ = some (.string d.about.panel) := by rw [cell_of_row _ _ _ _ _ _ hbx]; rfl
                have f7 : wc.cell? ⟨bx, 7, none⟩ = some (.string d.about.judge) := by rw [cell_of_row _ _ _ _ _ _ hbx]; rfl
                have f8 : wc.cell? ⟨bx, 8, none⟩ = some (.int .i64 ((d.list.length : Int) + 1)) := by rw [cell_of_row _ _ _ _ _ _ hbx]; rfl
                have f9 : wc.cell? ⟨bx, 9, none⟩ = some (.string d.about.fed) := by rw [cell_of_row _ _ _ _ _ _ hbx]; rfl
                have f10 : wc.cell? ⟨bx, 10, none⟩ = some (.string d.about.name) := by rw [cell_of_row _ _ _ _ _ _ hbx]; rfl
                have f11 : wc.cell? ⟨bx, 11, none⟩ = some (.int .i64 t) := by rw [cell_of_row _ _ _ _ _ _ hbx]; rfl
                have f12 : wc.cell? ⟨bx, 12, none⟩ = some (.string s) := by rw [cell_of_row _ _ _ _ _ _ hbx]; rfl
                have f13 : wc.cell? ⟨bx, 13, none⟩ = some (.bool d.about.flag) := by rw [cell_of_row _ _ _ _ _ _ hbx]; rfl
                have hD : D < wc.heap.size := HD3.lt.1
                have f19 : ∀ W, Ext wc W → W.cell? ⟨D, 19, none⟩ = some (.slice A d.list.length cap) := fun W h => h.cell (HD3.cell 19)
                have H3 := Lib.hid (fun o => (HD3.alloc o).drew)
                have P4 := Lib.hid (fun o => (((hB3.alloc (Nat.le_trans HD3.low (Nat.le_of_lt hD)) o).drew) : Kp base D (.slice A d.list.length cap) fv w _))
                have hbw := HD3.lt.2
                have hbxl : bx < wc.heap.size := (Array.getElem?_eq_some_iff.1 hbx).1
                have hbxo := Lib.hid (fun o => (Below.heap_alloc wc o bx hbxl).trans hbx)
                clear HD3 hB3 hbx
                go_upto_region 15 with fail
                go_cut [] (fun wx => wx.heap[bx]? = some (.cells (fileF d s t).vals.toArray 58 (0, 0)) ∧ ∃ lv', DeskI wx base D { d with time := t, list := d.list ++ [{ filing := fileF d s t }] } lv' fv ∧ Kp base D (.slice A d.list.length cap) fv w wx ∧ Hid (NewOf w.heap.size (.slice A d.list.length cap) lv'))
                case first =>
                  go_region_law (first
                    | (refine step_inq rfl _ _ rfl base (.slice A d.list.length cap) _ _ rfl (H3.out _).list _ _ { filing := fileF d s t } rfl ?gh ?gn ?gb ?_
                       case gh => exact heap_one _ _
                       case gn => (show d.list.length ≤ 300; omega)
                       case gb => (simp; omega)
                       intro v2 w2 hown2 hg2 hat2
                       obtain ⟨A2, k2, cc2, rfl⟩ := own_shape hown2
                       have hb2 : w2.heap[bx]? = _ := (hg2.block bx (by simp; omega) (fun e => hbx3 e.symm)).trans (hbxo.out _)
                       obtain ⟨c20, fr20, HF, HB, HN⟩ := (H3.out _).pushInq _ hlt99 hown2 hg2 hat2
                       have HN := Lib.hid (fun k hk => HN k (Nat.lt_of_lt_of_le hk (P4.out _).size))
                       have HF := Lib.hid HF
                       have HB := Lib.hid ((P4.out _).trans (HB _))
                       have hb2 := Lib.hid hb2
                       clear hown2 hg2 hat2)
                    | fail)
                  all_goals
                    go_wp2_with fail
                    go_meet
                    exact ⟨(heap_setCell_other _ _ _ _ (by show bx ≠ D; omega)).trans hb2.out, _, HF.out, HB.out, HN⟩
                case rest =>
                  obtain ⟨hbx, lv', HD3, hB3, HNl⟩ := hcut
                  clear f19 hD H3 P4 hbw hbxl hbxo
                  clear f0 f1 f2 f3 f4 f5 f6 f7 f8 f9 f10 f11 f12 f13
                  have f0 : wc.cell? ⟨bx, 0, none⟩ = some (.int .i64 10) := by rw [cell_of_row _ _ _ _ _ _ hbx]; rfl
                  have f1 : wc.cell? ⟨bx, 1, none⟩ = some (.int .i64 1) := by rw [cell_of_row _ _ _ _ _ _ hbx]; rfl
                  have f2 : wc.cell? ⟨bx, 2, none⟩ = some (.bool d.about.gone) := by rw [cell_of_row _ _ _ _ _ _ hbx]; rfl
                  have f3 : wc.cell? ⟨bx, 3, none⟩ = some (.string d.about.phase) := by rw [cell_of_row _ _ _ _ _ _ hbx]; rfl
                  have f4 : wc.cell? ⟨bx, 4, none⟩ = some (.string d.about.segment) := by rw [cell_of_row _ _ _ _ _ _ hbx]; rfl
                  have f5 : wc.cell? ⟨bx, 5, none⟩ = some (.int .i64 d.about.bib) := by rw [cell_of_row _ _ _ _ _ _ hbx]; rfl
                  have f6 : wc.cell? ⟨bx, 6, none⟩ = some (.string d.about.panel) := by rw [cell_of_row _ _ _ _ _ _ hbx]; rfl
                  have f7 : wc.cell? ⟨bx, 7, none⟩ = some (.string d.about.judge) := by rw [cell_of_row _ _ _ _ _ _ hbx]; rfl
                  have f8 : wc.cell? ⟨bx, 8, none⟩ = some (.int .i64 ((d.list.length : Int) + 1)) := by rw [cell_of_row _ _ _ _ _ _ hbx]; rfl
                  have f9 : wc.cell? ⟨bx, 9, none⟩ = some (.string d.about.fed) := by rw [cell_of_row _ _ _ _ _ _ hbx]; rfl
                  have f10 : wc.cell? ⟨bx, 10, none⟩ = some (.string d.about.name) := by rw [cell_of_row _ _ _ _ _ _ hbx]; rfl
                  have f11 : wc.cell? ⟨bx, 11, none⟩ = some (.int .i64 t) := by rw [cell_of_row _ _ _ _ _ _ hbx]; rfl
                  have f12 : wc.cell? ⟨bx, 12, none⟩ = some (.string s) := by rw [cell_of_row _ _ _ _ _ _ hbx]; rfl
                  have f13 : wc.cell? ⟨bx, 13, none⟩ = some (.bool d.about.flag) := by rw [cell_of_row _ _ _ _ _ _ hbx]; rfl
                  have hD : D < wc.heap.size := HD3.lt.1
                  have f20 : ∀ W, Ext wc W → W.cell? ⟨D, 20, none⟩ = some fv := fun W h => h.cell (HD3.cell 20)
                  have H3 := Lib.hid (fun o => (HD3.alloc o).drew)
                  have P4 := Lib.hid (fun o => (((hB3.alloc (Nat.le_trans HD3.low (Nat.le_of_lt hD)) o).drew) : Kp base D (.slice A d.list.length cap) fv w _))
                  have hbw := HD3.lt.2
                  have hbxl : bx < wc.heap.size := (Array.getElem?_eq_some_iff.1 hbx).1
                  have hbxo := Lib.hid (fun o => (Below.heap_alloc wc o bx hbxl).trans hbx)
                  clear HD3 hB3 hbx
                  go_upto_region 16 with fail
                  go_cut [] (fun wx => wx.cell? ⟨bx, 8, none⟩ = some (.int .i64 ((d.list.length : Int) + 1)) ∧ ∃ fv', DeskI wx base D { d with time := t, list := d.list ++ [{ filing := fileF d s t }], facts := d.facts ++ [fileF d s t] } lv' fv' ∧ Kp base D (.slice A d.list.length cap) fv w wx ∧ Hid (NewOf w.heap.size fv fv'))
                  case first =>
                    go_region_law (first
                      | (refine step_fact rfl _ _ rfl base fv _ _ rfl (H3.out _).facts _ _ (fileF d s t) rfl ?gh hfn ?gb ?_
                         case gh => exact heap_one _ _
                         case gb => (simp; omega)
                         intro v2 w2 hown2 hg2 hat2
                         obtain ⟨A2, k2, cc2, rfl⟩ := own_shape hown2
                         have hb2 : w2.heap[bx]? = _ := (hg2.block bx (by simp; omega) (fun e => hbx4 e.symm)).trans (hbxo.out _)
                         obtain ⟨c20, fr20, HF, HB, HN⟩ := (H3.out _).pushFact _ hown2 hg2 hat2
                         have HN := Lib.hid (fun k hk => HN k (Nat.lt_of_lt_of_le hk (P4.out _).size))
                         have HF := Lib.hid HF
                         have HB := Lib.hid ((P4.out _).trans (HB _))
                         have hb2 := Lib.hid hb2
                         clear hown2 hg2 hat2)
                      | fail)
                    all_goals
                      go_wp2_with fail
                      go_meet
                      exact ⟨by rw [cell_of_row _ _ _ _ _ _ ((heap_setCell_other _ _ _ _ (by show bx ≠ D; omega)).trans hb2.out)]; rfl, _, HF.out, HB.out, HN⟩
                  case rest =>
                    obtain ⟨h8, fv', HD4, hB4, HNf⟩ := hcut
                    clear f20 hD H3 P4 hbw hbxl hbxo
                    clear f0 f1 f2 f3 f4 f5 f6 f7 f8 f9 f10 f11 f12 f13
                    have HD4 := Lib.hid HD4
                    have hB4 := Lib.hid hB4
                    go_wp2_with fail
                    go_ret2
                    rw [HW.out]
                    exact ⟨rfl, hB4.out, _, _, HD4.out, HNl.out, HNf.out⟩
      · rw [hp, if_pos rfl] at HV
        rw [hp] at HP2
        have HW := Lib.hid (fileV_no HV.out (by omega))
        clear HV
        go_wp2_with fail
        refine HP2.out.mono ?_; rintro e w' ⟨rfl, rfl⟩
        go_wp2_with fail
        go_ret2
        rw [HW.out]
        exact ⟨rfl, hB.out, _, _, HX.out, Rows2.refl _ _ _⟩
    · rw [if_neg h0] at HV
      have HW := Lib.hid (fileV_no HV.out h0)
      have hk : (k == 0) = false := by rw [beq_eq_false_iff_ne]; exact h0
      have hk2 : (k != 0) = true := by rw [bne_iff_ne]; exact h0
      clear HV HI
      go_wp2_with fail
      go_ret2
      rw [HW.out]
      exact ⟨rfl, hB.out, _, _, HX.out, Rows2.refl _ _ _⟩

end Go.Proofs.YtbbngcacfdgahaaDoor
