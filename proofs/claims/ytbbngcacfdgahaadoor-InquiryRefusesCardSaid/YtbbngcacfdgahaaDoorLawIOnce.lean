/- Chapter 46: the law InquiryOnce, walked. -/
import Derived.Test.YtbbngcacfdgahaaDoorLawILate
import Derived.Test.YtbbngcacfdgahaaDoorFw2
namespace Go.Proofs.YtbbngcacfdgahaaDoor
open Go.RowKit
set_option linter.unusedVariables false
set_option linter.unusedSimpArgs false

def ints (l : List Int) : List Value := l.map (Value.int .i64)
theorem infoInt : (Tryd.prog.info? 3).map (fun i => (i.zero, i.size, i.bytes)) = some (some (.int .i64 0), 1, 8) := by kernel_rfl
theorem stateR_at {d : DeskV} {j : Nat} (h : j < (states d).length) : stateR d ((j : Int) + 1) = .tuple #[.int .i64 (states d)[j], .int .i64 0] := by
  have hj : j < d.list.length := by rw [states_length] at h; exact h
  unfold stateR
  rw [if_pos ⟨by omega, by omega⟩, stateOf_at d j hj]
  simp [states]
theorem stateR_out {d : DeskV} {j : Nat} (h : (states d).length ≤ j) : stateR d ((j : Int) + 1) = .tuple #[.int .i64 0, .int .i64 8] := by
  rw [states_length] at h
  unfold stateR
  rw [if_neg (by omega)]
theorem ints_at {W : World} {base n g c : Nat} {l : List Int} (h : W.ownsRow base 3 1 (.slice (some ⟨g, 0, none⟩) n c) n (ints l)) {j : Nat} (hj : j < l.length) : W.cell? ⟨g, j, none⟩ = some (.int .i64 l[j]) := by
  have := h.cells (g := g) rfl j (.int .i64 l[j]) (by simp [ints, List.getElem?_eq_getElem hj])
  rwa [show (⟨g, 0, none⟩ : Addr).add j = ⟨g, j, none⟩ by unfold Addr.add; split <;> simp_all] at this
theorem owns_ext {w W : World} {base size n : Nat} {e : TypeId} {v : Value} {xs : List Value} (h : w.ownsRow base e size v n xs) (hE : Ext w W) : W.ownsRow base e size v n xs :=
  h.kept (hg := ⟨hE.os, hE.tape, hE.output, hE.size, fun k hk _ => hE.block k hk⟩) (row := none) (by cases v.ownBlock <;> simp)
theorem owns_same {w W : World} {base size n : Nat} {e : TypeId} {v : Value} {xs : List Value} (h : w.ownsRow base e size v n xs) (hs : ∀ g, v.ownBlock = some g → W.heap[g]? = w.heap[g]?) : W.ownsRow base e size v n xs := by
  obtain ⟨h1, h2 | ⟨g, cap, cur, hv, hg, hh, r⟩⟩ := h
  · exact ⟨h1, .inl h2⟩
  · exact ⟨h1, .inr ⟨g, cap, cur, hv, hg, by rw [hs g (by rw [hv]; rfl)]; exact hh, r⟩⟩

/-- A row of one's own that is none of a desk's blocks. -/
def Off (D : Nat) (lv fv v : Value) : Prop := ∀ g, v.ownBlock = some g → g ≠ D ∧ lv.ownBlock ≠ some g ∧ fv.ownBlock ≠ some g
theorem Off.kept {base D : Nat} {lv fv lv' fv' v : Value} {w W : World} {size n : Nat} {e : TypeId} {b0 : Nat} {xs : List Value} (h : Off D lv fv v) (ho : w.ownsRow b0 e size v n xs) (hk : Kp base D lv fv w W) (hr : Rows2 w.heap.size lv fv lv' fv') :
    W.ownsRow b0 e size v n xs ∧ Off D lv' fv' v := by
  refine ⟨owns_same ho fun g hg => ?_, fun g hg => ?_⟩
  · obtain ⟨a, b, c⟩ := h g hg
    exact hk.same g (ho.lt g hg).2 a b c
  · obtain ⟨a, b, c⟩ := h g hg
    exact ⟨a, fun q => b (hr.1 g (ho.lt g hg).2 q), fun q => c (hr.2 g (ho.lt g hg).2 q)⟩

set_option maxHeartbeats 8000000 in
set_option maxRecDepth 100000 in
theorem InquiryOnce_c (limit fee : Int) (v : Value) (ops : List OpV) (w : World) (ht : Tabs w) (hR : RdOps w v ops) :
    Calls Tryd.prog 5 #[.int .i64 limit, .int .i64 fee, v] w fun e w' => e = .returned (.bool true) ∧ Below w.heap.size w w' := by
  have HA := Lib.hid (awake_c w ht)
  have HT := Lib.hid ht
  have HRd := Lib.hid hR
  obtain ⟨i0, hi, hz0, hz1, hz2⟩ := info_parts infoInt
  obtain ⟨A, cap, rfl, hcl⟩ := hR.cells
  have HC := Lib.hid hcl; clear hcl
  have hlen := hR.1
  clear ht hR
  have hi := Lib.hid hi
  have hz0 := Lib.hid hz0
  have hz1 := Lib.hid hz1
  have hz2 := Lib.hid hz2
  go_enter Tryd.func5, Tryd.ntmps5
  go_wp2_with fail
  refine HA.out.mono ?_; rintro e w1 ⟨rfl, hb1⟩
  have HB1 := Lib.hid hb1; clear hb1
  go_wp2_with fail
  refine (desk_c limit fee w1).mono ?_
  rintro e w2 (⟨h, rfl, rfl⟩ | ⟨h, rfl, rfl⟩)
  · have HS := Lib.hid (rISmall_c _ ops 24 w1 (HRd.out.below HB1.out))
    clear h
    cases hs : smallOps ops 24
    all_goals
      rw [hs] at HS
      go_wp2_with fail
      refine HS.out.mono ?_; rintro e w' ⟨rfl, rfl⟩
      go_wp2_with fail
      go_ret
      exact ⟨rfl, HB1.out⟩
  · have HOK := Lib.hid (newD_ok h)
    have HD := newDeskI w1 strFinal strFree 7 limit fee
    have HB2 := HB1.out.alloc HB1.out.size (.cells (deskCells strFinal strFree 7 limit fee) 65)
    have hB0 := HB1.out.size
    generalize hw2 : w1.alloc (.cells (deskCells strFinal strFree 7 limit fee) 65) = w2 at *
    clear hw2 h
    generalize hBn : w1.heap.size = B at *
    clear hBn
    have HD := Lib.hid HD
    have HB2 := Lib.hid HB2
    have HS := Lib.hid (rISmall_c _ ops 24 w2 (HRd.out.below HB2.out))
    cases hs : smallOps ops 24
    · rw [hs] at HS
      go_wp2_with fail
      refine HS.out.mono ?_; rintro e w' ⟨rfl, rfl⟩
      go_wp2_with fail
      go_ret
      exact ⟨rfl, HB2.out⟩
    rw [hs] at HS
    have hl24 := small_len hs
    clear hs
    have hone : OneF (states (newD strFinal strFree 7 limit fee)) := newD_one _ _ _ _ _
    have hf0 : (newD strFinal strFree 7 limit fee).facts.length = 0 ∧ states (newD strFinal strFree 7 limit fee) = [] := ⟨rfl, rfl⟩
    generalize newD strFinal strFree 7 limit fee = d0 at *
    have hone := Lib.hid hone
    have hf0 := Lib.hid hf0
    go_wp2_with fail
    refine HS.out.mono ?_; rintro e w' ⟨rfl, rfl⟩
    go_wp2_with fail
    go_loopw [8, 9] (fun vo i wr => ∃ k : Nat, k ≤ ops.length ∧ i = .int .i64 k ∧ Below w.heap.size w wr ∧ ∃ lv fv, DeskI wr B B (playV d0 (ops.take k)) lv fv ∧
      wr.ownsRow w.heap.size 3 1 vo (states (playV d0 (ops.take k))).length (ints (states (playV d0 (ops.take k)))) ∧ Off B lv fv vo) (fun _ i _ => ops.length - (intOf i).toNat)
    case atStart => exact ⟨0, Nat.zero_le _, rfl, HB2.out, _, _, by rw [List.take_zero]; exact HD.out, by rw [List.take_zero]; show World.ownsRow _ _ _ _ _ (states d0).length (ints (states d0)); rw [hf0.out.2]; exact World.ownsRow_nil _ _ _ _, fun g hg => by cases hg⟩
    case round =>
      obtain ⟨k, hk, rfl, hb, lv, fv, hd, ho, hoff⟩ := hrel
      have Hb := Lib.hid hb
      have Hd := Lib.hid hd
      have Ho := Lib.hid ho
      have Hoff := Lib.hid hoff
      by_cases hlt : k < ops.length
      · obtain ⟨b, off, rfl, hbl, hcap, hc⟩ := HC.out (by omega)
        have hcell : ∀ i, i < 5 → wr.cell? ⟨b, off + k * 5 + i, none⟩ = (ops[k]).vals[i]? := fun i hi => (Hb.out.cell (p := ⟨b, off + k * 5 + i, none⟩) hbl).trans (hc k hlt i hi)
        have hts := (HRd.out.2.1 _ (List.getElem_mem hlt)).s
        have HP := Lib.hid (play_take d0 ops k hlt)
        have Hok := Lib.hid (play_ok (ops.take k) HOK.out)
        have hfl : (playV d0 (ops.take k)).facts.length ≤ 24 := by
          have := play_facts (ops.take k) d0
          rw [hf0.out.1, List.length_take] at this; omega
        have HST := Lib.hid (doV_states (play_one (ops.take k) hone.out) ops[k])
        have hl2 : (states (playV d0 (ops.take (k + 1)))).length ≤ k + 1 := by
          have := play_len (ops.take (k + 1)) hone.out
          rw [List.length_take, ← states_length, ← states_length, hf0.out.2] at this
          simp at this; omega
        have Hone2 := Lib.hid (play_one (ops.take (k + 1)) hone.out)
        have CD := do_c B B _ lv fv ops[k].kind ops[k].time ops[k].number ops[k].acc ops[k].text wr Hd.out Hok.out (by omega) hts (HT.out.below Hb.out)
        rw [HP.out] at hl2 Hone2
        generalize playV d0 (ops.take k) = dk at *
        have HP := Lib.hid HP.out
        have CD := Lib.hid CD
        generalize ops[k] = x at *
        have hx5 : (⟨x.kind, x.time, x.number, x.acc, x.text⟩ : OpV) = x := rfl
        rw [hx5] at CD
        clear hx5
        have c0 : wr.cell? ⟨b, off + k * 5, none⟩ = some (.int .i64 x.kind) := hcell 0 (by omega)
        have c1 : wr.cell? ⟨b, off + k * 5 + 1, none⟩ = some (.int .i64 x.time) := hcell 1 (by omega)
        have c2 : wr.cell? ⟨b, off + k * 5 + 2, none⟩ = some (.int .i64 x.number) := hcell 2 (by omega)
        have c3 : wr.cell? ⟨b, off + k * 5 + 3, none⟩ = some (.bool x.acc) := hcell 3 (by omega)
        have c4 : wr.cell? ⟨b, off + k * 5 + 4, none⟩ = some (.string x.text) := hcell 4 (by omega)
        clear hcell hc hb hd ho hoff
        go_wp2_with fail
        refine CD.out.mono ?_; rintro e w3 ⟨rfl, hkp, lv', fv', hd', hr2⟩
        have Hb3 := Lib.hid (Hb.out.trans (hkp.bel.mono hB0))
        have Hd3 := Lib.hid hd'
        have Ho3 := Lib.hid (Hoff.out.kept Ho.out hkp hr2)
        clear hkp hd' hr2 CD c0 c1 c2 c3 c4 Hd Ho Hoff
        generalize (doV dk x).1 = d2 at *
        have hD3 := Hd3.out.lt
        go_upto_block 2 with fail
        go_cut [10, 11] (fun vn vf wx => vf = .int .i64 (filed (states d2) (states d2).length) ∧ Ext w3 wx ∧ wx.ownsRow w3.heap.size 3 1 vn (states d2).length (ints (states d2)))
        case first =>
          go_wp2_with fail
          go_loopw [10, 11, 12] (fun vn vf i wx => ∃ j : Nat, j ≤ (states d2).length ∧ i = .int .i64 ((j : Int) + 1) ∧ vf = .int .i64 (filed (states d2) j) ∧ Ext w3 wx ∧ wx.ownsRow w3.heap.size 3 1 vn j (ints ((states d2).take j))) (fun _ _ i _ => (ops.length + 1 - (intOf i).toNat))
          case atStart => exact ⟨0, Nat.zero_le _, rfl, by simp [filed], Ext.refl _, by rw [List.take_zero]; exact World.ownsRow_nil _ _ _ _⟩
          case round =>
            obtain ⟨j, hj, rfl, rfl, hE, hn⟩ := hrel
            have HE := Lib.hid hE
            have HN := Lib.hid hn
            have hwz := hE.size
            clear hE hn
            have HSt := Lib.hid (State_c B B d2 lv' fv' ((j : Int) + 1) _ (Hd3.out.ext HE.out))
            by_cases hjl : j < (states d2).length
            · have hs := Lib.hid (stateR_at hjl)
              have hfs := Lib.hid (filed_succ (states d2) j hjl)
              have hts := Lib.hid (show ints ((states d2).take (j + 1)) = ints ((states d2).take j) ++ [.int .i64 (states d2)[j]] by rw [List.take_succ_eq_append_getElem hjl]; unfold ints; rw [List.map_append]; rfl)
              have hf1 : 0 ≤ filed (states d2) j ∧ filed (states d2) j ≤ 24 := by
                unfold filed
                have := List.length_filter_le (fun x : Int => x == 1) ((states d2).take j)
                rw [List.length_take] at this
                constructor <;> omega
              generalize (states d2)[j] = s at *
              generalize hfj : filed (states d2) j = fj at *
              have hfj := Lib.hid hfj
              obtain ⟨f0, f1⟩ := hf1
              have hn8 : (j + 1) * 8 ≤ 140737488355328 := by omega
              by_cases hs1 : s = 1
              · subst hs1
                have hfs := Lib.hid (hfs.out.trans (if_pos rfl))
                go_wp2_with fail
                refine HSt.out.mono ?_; rintro e w' ⟨rfl, rfl⟩
                rw [hs.out]
                go_wp2_with (at_builtin; refine wp_pushK w3.heap.size rfl _ _ 51 3 (.int .i64 0) 1 8 rfl Tryd.underlying51 infoInt rfl (by omega) (by omega) u10 j _ [.int .i64 1] (by rfl) (by rfl) (by simp [Value.oneCell']) rfl HN.out hwz hn8 ?_; intro v1 w4 hown hg hat; obtain ⟨A4, c4, rfl, -⟩ := owns_slice hown; have hE4 := Lib.hid (below_push HE.out HN.out hg (Nat.le_refl _) hwz); have HN4 := Lib.hid hown; clear hown hg hat)
                go_roundw
                case rel => exact ⟨j + 1, by omega, by go_num, by rw [hfs.out]; simp, hE4.out, by rw [hts.out]; exact HN4.out⟩
                case measure => simp [intOf]; omega
              · have hb1 : (s == 1) = false := by rw [beq_eq_false_iff_ne]; exact hs1
                have hfs := Lib.hid (hfs.out.trans (if_neg hs1))
                go_wp2_with fail
                refine HSt.out.mono ?_; rintro e w' ⟨rfl, rfl⟩
                rw [hs.out]
                go_wp2_with (at_builtin; refine wp_pushK w3.heap.size rfl _ _ 51 3 (.int .i64 0) 1 8 rfl Tryd.underlying51 infoInt rfl (by omega) (by omega) u10 j _ [.int .i64 s] (by rfl) (by rfl) (by simp [Value.oneCell']) rfl HN.out hwz hn8 ?_; intro v1 w4 hown hg hat; obtain ⟨A4, c4, rfl, -⟩ := owns_slice hown; have hE4 := Lib.hid (below_push HE.out HN.out hg (Nat.le_refl _) hwz); have HN4 := Lib.hid hown; clear hown hg hat)
                go_roundw
                case rel => exact ⟨j + 1, by omega, by go_num, by rw [hfs.out], hE4.out, by rw [hts.out]; exact HN4.out⟩
                case measure => simp [intOf]; omega
            · obtain rfl : j = (states d2).length := by omega
              rw [List.take_length] at HN
              have hs := Lib.hid (stateR_out (d := d2) (Nat.le_refl (states d2).length))
              by_cases hjo : ((states d2).length : Int) + 1 ≤ ops.length
              · go_wp2_with fail
                refine HSt.out.mono ?_; rintro e w' ⟨rfl, rfl⟩
                rw [hs.out]
                go_wp2_with fail
                go_meet
                exact ⟨rfl, HE.out, HN.out⟩
              · go_wp2_with fail
                go_meet
                exact ⟨rfl, HE.out, HN.out⟩
        case rest =>
          obtain ⟨rfl, hE, hn⟩ := hcut
          obtain ⟨Ao, co, rfl, hpo⟩ := owns_slice Ho3.out.1
          obtain ⟨An, cn, rfl, hpn⟩ := owns_slice hn
          have hfa := filed_all Hone2.out
          have HE := Lib.hid hE
          have HN := Lib.hid hn
          have Hd4 := Lib.hid (Hd3.out.ext hE)
          have Ho4 := Lib.hid (owns_ext Ho3.out.1 hE)
          have Hb4 := Lib.hid (Hb3.out.trans (hE.below.mono (by have := Hb3.out.size; exact this)))
          have CP := Lib.hid (Pending_c B B d2 lv' fv' wc Hd4.out)
          obtain ⟨-, h1, h2, h3⟩ := HST.out
          have h3 := Lib.hid h3
          have hol : (states dk).length ≤ 24 := by omega
          have hpo := Lib.hid hpo
          have hpn := Lib.hid hpn
          clear hE hn
          have hreg : Hid (filed (states d2) (states d2).length = if pendingB d2 = true then 1 else 0) := hfa
          clear hfa
          have hq1 : decide ((states d2).length < (states dk).length) = false := decide_eq_false (by omega)
          have hq2 : decide (((states dk).length : Int) + 1 < ((states d2).length : Int)) = false := decide_eq_false (by omega)
          cases hp : pendingB d2
          all_goals
            rw [hp] at CP hreg
            have hr := hreg.out
            simp only [if_true, Bool.false_eq_true, if_false] at hr
            rw [hr]
            clear hreg hr
            go_wp2_with fail
            refine CP.out.mono ?_; rintro e w' ⟨rfl, rfl⟩
            go_wp2_with fail
            obtain ⟨wb, hwb⟩ : ∃ wb, Hid (wb = wc) := ⟨_, rfl⟩
            go_loopw [15] (fun i wx => ∃ q : Nat, q ≤ (states dk).length ∧ i = .int .i64 q ∧ ∃ nq, wx = wc.drewN nq) (fun i _ => (states dk).length - (intOf i).toNat)
            case atStart => exact ⟨0, Nat.zero_le _, rfl, 0, rfl⟩
            case round =>
              obtain ⟨q, hq, rfl, nq, rfl⟩ := hrel
              by_cases hql : q < (states dk).length
              · have hqn : q < (states d2).length := by omega
                obtain ⟨g1, rfl⟩ := hpo.out (by omega)
                obtain ⟨g2, rfl⟩ := hpn.out (by omega)
                have e1 := ints_at Ho4.out hql
                have e2 := ints_at HN.out hqn
                have h3q := h3.out q hql hqn
                have hco : (states dk).length ≤ co := by
                  obtain ⟨-, ⟨e, -⟩ | ⟨g', cap', cur, e, hg, hblk, hcap2, -⟩⟩ := Ho4.out
                  · cases e
                  · injection e with _ _ e3; omega
                generalize (states dk)[q] = so at *
                generalize (states d2)[q] = sn at *
                by_cases hs1 : so = 1
                · subst hs1
                  clear h3q
                  go_upto_region 26 with fail
                  go_cut [107] (fun s wx => s = .bool false ∧ ∃ nq, wx = wb.drewN nq)
                  case first =>
                    go_quiet (fail)
                    go_wp2_with fail
                    go_meet
                    first | exact ⟨rfl, _, by rw [hwb.out, World.drewN_drewN]⟩ | exact ⟨rfl, _, by rw [hwb.out]⟩
                  case rest =>
                    obtain ⟨rfl, nq2, rfl⟩ := hcut
                    go_wp2_with fail
                    go_roundw
                    case rel => exact ⟨q + 1, by omega, by go_num, _, by rw [hwb.out]⟩
                    case measure => simp [intOf]; omega
                · have hb1 : (so != 1) = true := by rw [bne_iff_ne]; exact hs1
                  have h3q := h3q hs1
                  subst h3q
                  go_upto_region 26 with fail
                  go_cut [107] (fun s wx => s = .bool false ∧ ∃ nq, wx = wb.drewN nq)
                  case first =>
                    go_quiet (fail)
                    go_wp2_with fail
                    go_meet
                    first | exact ⟨rfl, _, by rw [hwb.out, World.drewN_drewN]⟩ | exact ⟨rfl, _, by rw [hwb.out]⟩
                  case rest =>
                    obtain ⟨rfl, nq2, rfl⟩ := hcut
                    go_wp2_with fail
                    go_roundw
                    case rel => exact ⟨q + 1, by omega, by go_num, _, by rw [hwb.out]⟩
                    case measure => simp [intOf]; omega
              · go_wp2_with fail
                go_roundw
                case rel =>
                  have hD := Hd3.out
                  exact ⟨k + 1, by omega, by go_num, belowN _ Hb4.out, lv', fv', by rw [HP.out]; exact Hd4.out.ext ((Ext.refl _).drewN _), by rw [HP.out]; exact owns_base (owns_ext HN.out ((Ext.refl _).drewN _)) Hb3.out.size,
                    fun g hg => ⟨by have := (HN.out.lt g hg).1; omega, fun e => by have := (HN.out.lt g hg).1; have := (hD.list.lt g e).2; omega, fun e => by have := (HN.out.lt g hg).1; have := (hD.facts.lt g e).2; omega⟩⟩
                case measure => simp [intOf]; omega
      · obtain rfl : k = ops.length := by omega
        go_wp2_with fail
        go_ret
        exact ⟨rfl, Hb.out⟩

end Go.Proofs.YtbbngcacfdgahaaDoor
