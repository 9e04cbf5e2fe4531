/- Chapter 46: the law InquiryLate, walked. -/
import Derived.Test.YtbbngcacfdgahaaDoorInS
import Derived.Test.YtbbngcacfdgahaaDoorLawINew
namespace Go.Proofs.YtbbngcacfdgahaaDoor
open Go.RowKit
set_option linter.unusedVariables false
set_option linter.unusedSimpArgs false

theorem title_jump : titleS strJump.data.toList = true := by rfl
theorem file_late {d : DeskV} {t a : Int} (h0 : 0 ≤ t) (h1 : t ≤ 1000000000) (ha : 0 ≤ a) (hl : d.list.length < 99) :
    fileE { d with out := true, since := t, time := t } strJump (t + a) = if 1000000000 < t + a then 1 else if pendingB d = true then 9 else if d.limit < a then 10 else 0 := by
  have hc : clockE { d with out := true, since := t, time := t } (t + a) (titleS strJump.data.toList) = if 1000000000 < t + a then 1 else 0 := by
    unfold clockE inTime
    rw [title_jump]
    by_cases h : 1000000000 < t + a
    · rw [if_pos h]; simp [show ¬ t + a ≤ 1000000000 by omega]
    · rw [if_neg h]; simp [show t + a ≤ 1000000000 by omega, show 0 ≤ t + a by omega]; omega
  unfold fileE
  rw [hc]
  by_cases h : 1000000000 < t + a
  · rw [if_pos h, if_neg (by decide), if_pos h]
  · rw [if_neg h, if_pos rfl, if_pos rfl]
    have hp : pendingB { d with out := true, since := t, time := t } = pendingB d := rfl
    rw [hp]
    split
    · rfl
    · show (if d.limit < t + a - t then (10 : Int) else if d.list.length = 99 then 6 else 0) = _
      rw [show t + a - t = a by omega, if_neg (show ¬ d.list.length = 99 by omega)]
theorem fileV_err (d : DeskV) (s : ByteArray) (t : Int) : fileE d s t = (fileV d s t).2.2 := by
  unfold fileV
  split
  · rename_i h; rw [h]
  · rfl
theorem newD_ok {p s : ByteArray} {bib limit fee : Int} (h : newE p s bib limit fee = 0) : DeskOk (newD p s bib limit fee) := by
  obtain ⟨a, b⟩ := newE_fee h
  exact ⟨by show (0 : Int) ≤ 0; omega, by show (0 : Int) ≤ 1000000000; omega, a.1, a.2, b.1, b.2⟩
theorem newD_one (p s : ByteArray) (bib limit fee : Int) : OneF (states (newD p s bib limit fee)) := fun i h => absurd h (by show ¬ i + 1 < 0; omega)
theorem play_take (d : DeskV) (l : List OpV) (k : Nat) (h : k < l.length) : playV d (l.take (k + 1)) = (doV (playV d (l.take k)) l[k]).1 := by
  rw [List.take_succ_eq_append_getElem h, playV_snoc]
theorem play_limit (l : List OpV) : ∀ d : DeskV, (playV d l).limit = d.limit ∧ (playV d l).fee = d.fee ∧ (playV d l).about = d.about := by
  induction l with
  | nil => intro d; exact ⟨rfl, rfl, rfl⟩
  | cons x l ih =>
    intro d
    have h : (doV d x).1.limit = d.limit ∧ (doV d x).1.fee = d.fee ∧ (doV d x).1.about = d.about := by
      unfold doV publishV fileV withdrawV ruleV
      (repeat' split) <;> exact ⟨rfl, rfl, rfl⟩
    have := ih (doV d x).1
    exact ⟨this.1.trans h.1, this.2.1.trans h.2.1, this.2.2.trans h.2.2⟩
theorem small_len {l : List OpV} {m : Int} (h : smallOps l m = true) : (l.length : Int) ≤ m := by
  unfold smallOps at h
  simp only [Bool.and_eq_true, decide_eq_true_eq] at h
  exact h.1

set_option maxHeartbeats 8000000 in
set_option maxRecDepth 100000 in
theorem InquiryLate_c (limit fee : Int) (v : Value) (ops : List OpV) (time after : Int) (w : World) (ht : Tabs w) (hR : RdOps w v ops) :
    Calls Tryd.prog 6 #[.int .i64 limit, .int .i64 fee, v, .int .i64 time, .int .i64 after] w fun e w' => e = .returned (.bool true) ∧ Below w.heap.size w w' := by
  have HA := Lib.hid (awake_c w ht)
  have HT := Lib.hid ht
  have HRd := Lib.hid hR
  obtain ⟨A, cap, rfl, hcl⟩ := hR.cells
  have HC := Lib.hid hcl; clear hcl
  have hlen := hR.1
  clear ht hR
  go_enter Tryd.func6, Tryd.ntmps6
  go_wp2_with fail
  refine HA.out.mono ?_; rintro e w1 ⟨rfl, hb1⟩
  have HB1 := Lib.hid hb1; clear hb1
  go_wp2_with fail
  refine (desk_c limit fee w1).mono ?_
  rintro e w2 (⟨h, rfl, rfl⟩ | ⟨h, rfl, rfl⟩)
  · have HS := Lib.hid (rISmall_c _ ops 12 w1 (HRd.out.below HB1.out))
    clear h
    cases hs : smallOps ops 12
    all_goals
      rw [hs] at HS
      go_wp2_with fail
      refine HS.out.mono ?_; rintro e w' ⟨rfl, rfl⟩
      go_wp2_with fail
      go_ret
      exact ⟨rfl, HB1.out⟩
  · have HOK := Lib.hid (newD_ok h)
    have HD := newDeskI w1 strFinal strFree 7 limit fee
    have HB2 := HB1.out.alloc HB1.out.size (.cells (deskCells strFinal strFree 7 limit fee) 65)
    have hB0 := HB1.out.size
    generalize hw2 : w1.alloc (.cells (deskCells strFinal strFree 7 limit fee) 65) = w2 at *
    clear hw2 h
    generalize hBn : w1.heap.size = B at *
    clear hBn
    have HD := Lib.hid HD
    have HB2 := Lib.hid HB2
    have HS := Lib.hid (rISmall_c _ ops 12 w2 (HRd.out.below HB2.out))
    cases hs : smallOps ops 12
    · rw [hs] at HS
      go_wp2_with fail
      refine HS.out.mono ?_; rintro e w' ⟨rfl, rfl⟩
      go_wp2_with fail
      go_ret
      exact ⟨rfl, HB2.out⟩
    rw [hs] at HS
    have hl12 := small_len hs
    clear hs
    by_cases hok : 0 ≤ after ∧ after ≤ 2000000000 ∧ 0 ≤ time ∧ time ≤ 1000000000
    · obtain ⟨a0, a1, t0, t1⟩ := hok
      generalize hd0 : newD strFinal strFree 7 limit fee = d0 at *
      have hlim : d0.limit = limit := by rw [← hd0]; rfl
      have hone : OneF (states d0) := by rw [← hd0]; exact newD_one _ _ _ _ _
      have hf0 : d0.facts.length = 0 ∧ d0.list.length = 0 := by rw [← hd0]; exact ⟨rfl, rfl⟩
      clear hd0
      have hlim := Lib.hid hlim
      have hone := Lib.hid hone
      have hf0 := Lib.hid hf0
      go_wp2_with fail
      refine HS.out.mono ?_; rintro e w' ⟨rfl, rfl⟩
      go_wp2_with fail
      go_loopw [12] (fun i wr => ∃ k : Nat, k ≤ ops.length ∧ i = .int .i64 k ∧ Below w.heap.size w wr ∧ ∃ lv fv, DeskI wr B B (playV d0 (ops.take k)) lv fv) (fun i _ => ops.length - (intOf i).toNat)
      case atStart => exact ⟨0, Nat.zero_le _, rfl, HB2.out, _, _, by rw [List.take_zero]; exact HD.out⟩
      case round =>
        obtain ⟨k, hk, rfl, hb, lv, fv, hd⟩ := hrel
        have Hb := Lib.hid hb
        have Hd := Lib.hid hd
        have hfl : (playV d0 (ops.take k)).facts.length ≤ 24 := by
          have := play_facts (ops.take k) d0
          rw [hf0.out.1, List.length_take] at this; omega
        have Hok := Lib.hid (play_ok (ops.take k) HOK.out)
        by_cases hlt : k < ops.length
        · obtain ⟨b, off, rfl, hbl, hcap, hc⟩ := HC.out (by omega)
          have hcell : ∀ i, i < 5 → wr.cell? ⟨b, off + k * 5 + i, none⟩ = (ops[k]).vals[i]? := fun i hi => (Hb.out.cell (p := ⟨b, off + k * 5 + i, none⟩) hbl).trans (hc k hlt i hi)
          have hts := (HRd.out.2.1 _ (List.getElem_mem hlt)).s
          have HP := Lib.hid (play_take d0 ops k hlt)
          have CD := do_c B B _ lv fv ops[k].kind ops[k].time ops[k].number ops[k].acc ops[k].text wr Hd.out Hok.out (by omega) hts (HT.out.below Hb.out)
          have CD := Lib.hid CD
          generalize ops[k] = x at *
          have c0 : wr.cell? ⟨b, off + k * 5, none⟩ = some (.int .i64 x.kind) := hcell 0 (by omega)
          have c1 : wr.cell? ⟨b, off + k * 5 + 1, none⟩ = some (.int .i64 x.time) := hcell 1 (by omega)
          have c2 : wr.cell? ⟨b, off + k * 5 + 2, none⟩ = some (.int .i64 x.number) := hcell 2 (by omega)
          have c3 : wr.cell? ⟨b, off + k * 5 + 3, none⟩ = some (.bool x.acc) := hcell 3 (by omega)
          have c4 : wr.cell? ⟨b, off + k * 5 + 4, none⟩ = some (.string x.text) := hcell 4 (by omega)
          clear hcell hc
          go_wp2_with fail
          refine CD.out.mono ?_; rintro e w' ⟨rfl, hkp, lv', fv', hd', -⟩
          have Hb' := Lib.hid (Hb.out.trans (hkp.bel.mono hB0))
          have Hd' := Lib.hid hd'
          clear hkp hd'
          go_wp2_with fail
          go_roundw
          case rel => exact ⟨k + 1, by omega, by go_num, Hb'.out, _, _, by rw [HP.out]; exact Hd'.out⟩
          case measure => simp [intOf]; omega
        · obtain rfl : k = ops.length := by omega
          rw [List.take_length] at Hd Hok hfl
          have hpl : (playV d0 ops).limit = limit := (play_limit ops d0).1.trans hlim.out
          have hll : (playV d0 ops).list.length ≤ 12 := by
            have := play_len ops hone.out
            rw [hf0.out.2] at this; omega
          generalize playV d0 ops = d at *
          have CP := Publish_c B B d lv fv time wr Hd.out
          have CP := Lib.hid CP
          have hV : publishV d time = if clockE d time true = 0 then ({ d with out := true, since := time, time := time }, 0) else (d, clockE d time true) := rfl
          by_cases hk0 : clockE d time true = 0
          · rw [hV, if_pos hk0] at CP
            have HLt := Lib.hid (file_late (d := d) t0 t1 a0 (by omega))
            have Hok2 : DeskOk { d with out := true, since := time, time := time } := ⟨t0, t1, Hok.out.limit0, Hok.out.limit1, Hok.out.fee0, Hok.out.fee1⟩
            have hfl2 : ({ d with out := true, since := time, time := time } : DeskV).facts.length ≤ 24 := hfl
            have hpe : pendingB { d with out := true, since := time, time := time } = pendingB d := rfl
            generalize hd2 : ({ d with out := true, since := time, time := time } : DeskV) = d2 at *
            clear hd2 hV hk0
            rw [hpl] at HLt
            have hpe := Lib.hid hpe
            have Hok2 := Lib.hid Hok2
            have CF := Lib.hid (fun W lv' fv' (h : DeskI W B B d2 lv' fv') (hT : Tabs W) => File_c B B d2 lv' fv' strJump (time + after) W h (by omega) (by decide) hT Hok2.out.since0 Hok2.out.since1 Hok2.out.limit0 Hok2.out.limit1)
            have HE := Lib.hid (fileV_err d2 strJump (time + after))
            go_wp2_with fail
            refine CP.out.mono ?_; rintro e w3 ⟨rfl, hkp, lv', fv', hd', -⟩
            have Hb3 := Lib.hid (Hb.out.trans (hkp.bel.mono hB0))
            have Hd3 := Lib.hid hd'
            clear hkp hd'
            have CQ := Lib.hid (Pending_c B B d2 lv' fv' w3 Hd3.out)
            have CF2 := Lib.hid (CF.out w3 lv' fv' Hd3.out (HT.out.below Hb3.out))
            clear CF CP
            rw [HE.out] at HLt
            by_cases h9 : 1000000000 < time + after
            · have HW := Lib.hid (HLt.out.trans (if_pos h9))
              clear HLt
              go_wp2_with fail
              refine CQ.out.mono ?_; rintro e w' ⟨rfl, rfl⟩
              go_wp2_with fail
              refine CF2.out.mono ?_; rintro e w4 ⟨rfl, hkp, -⟩
              rw [HW.out]
              have Hb4 := Lib.hid (Hb3.out.trans (hkp.bel.mono hB0))
              clear hkp
              go_wp2_with fail
              go_ret
              exact ⟨rfl, Hb4.out⟩
            have HLt := Lib.hid (HLt.out.trans (if_neg h9))
            have h9 : time + after ≤ 1000000000 := by omega
            cases hp : pendingB d
            · rw [hp] at HLt hpe
              have HLt := Lib.hid (HLt.out.trans (if_neg (by simp)))
              by_cases h8 : limit < after
              · have HW := Lib.hid (HLt.out.trans (if_pos h8))
                clear HLt hp
                go_wp2_with fail
                refine CQ.out.mono ?_; rintro e w' ⟨rfl, rfl⟩
                rw [hpe.out]
                go_wp2_with fail
                refine CF2.out.mono ?_; rintro e w4 ⟨rfl, hkp, -⟩
                rw [HW.out]
                have Hb4 := Lib.hid (Hb3.out.trans (hkp.bel.mono hB0))
                clear hkp
                go_wp2_with fail
                go_ret
                exact ⟨rfl, Hb4.out⟩
              · have HW := Lib.hid (HLt.out.trans (if_neg h8))
                clear HLt hp
                go_wp2_with fail
                refine CQ.out.mono ?_; rintro e w' ⟨rfl, rfl⟩
                rw [hpe.out]
                go_wp2_with fail
                refine CF2.out.mono ?_; rintro e w4 ⟨rfl, hkp, -⟩
                rw [HW.out]
                have Hb4 := Lib.hid (Hb3.out.trans (hkp.bel.mono hB0))
                clear hkp
                go_wp2_with fail
                go_ret
                exact ⟨rfl, Hb4.out⟩
            · rw [hp] at HLt hpe
              have HW := Lib.hid (HLt.out.trans (if_pos rfl))
              clear HLt hp
              go_wp2_with fail
              refine CQ.out.mono ?_; rintro e w' ⟨rfl, rfl⟩
              rw [hpe.out]
              go_wp2_with fail
              refine CF2.out.mono ?_; rintro e w4 ⟨rfl, hkp, -⟩
              rw [HW.out]
              have Hb4 := Lib.hid (Hb3.out.trans (hkp.bel.mono hB0))
              clear hkp
              go_wp2_with fail
              go_ret
              exact ⟨rfl, Hb4.out⟩
          · rw [hV, if_neg hk0] at CP
            generalize clockE d time true = kk at *
            have b1 : (kk != 0) = true := by rw [bne_iff_ne]; exact hk0
            go_wp2_with fail
            refine CP.out.mono ?_; rintro e w' ⟨rfl, hkp, -⟩
            have Hb' := Lib.hid (Hb.out.trans (hkp.bel.mono hB0))
            clear hkp
            go_wp2_with fail
            go_ret
            exact ⟨rfl, Hb'.out⟩
    · go_wp2_with fail
      refine HS.out.mono ?_; rintro e w' ⟨rfl, rfl⟩
      go_wp2_with fail
      all_goals first
        | (exfalso; omega)
        | (go_ret; exact ⟨rfl, HB2.out⟩)

end Go.Proofs.YtbbngcacfdgahaaDoor
