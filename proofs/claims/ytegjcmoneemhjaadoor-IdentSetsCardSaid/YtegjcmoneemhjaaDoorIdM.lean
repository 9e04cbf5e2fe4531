/- The contract of Abbreviate, whole. -/
import Derived.Test.YtegjcmoneemhjaaDoorIdL
namespace Go.Proofs.YtegjcmoneemhjaaDoor
open Go.RowKit
set_option linter.unusedVariables false
set_option linter.unusedSimpArgs false

theorem infoS : (Tryd.prog.info? 9).map (fun i => (i.zero, i.size, i.bytes)) = some (some (.string ⟨#[]⟩), 1, 16) := by kernel_rfl

def abbrs (ss : List ByteArray) (least : Nat) : List ByteArray := ss.map (abbrS ss least)
def strVals (xs : List ByteArray) : List Value := xs.map Value.string

def AbbrPost (ss : List ByteArray) (least : Int) (w : World) (e : Ending) (w' : World) : Prop :=
  Below w.heap.size w w' ∧
  (sortedB ss = false → e = .returned (.tuple #[.slice none 0 0, .int .i64 1])) ∧
  (sortedB ss = true → least < 1 → e = .returned (.tuple #[.slice none 0 0, .int .i64 5])) ∧
  (sortedB ss = true → 1 ≤ least → ∃ v', e = .returned (.tuple #[v', .int .i64 0]) ∧ w'.ownsRow w.heap.size 9 1 v' ss.length (strVals (abbrs ss least.toNat)))

theorem AbbrPost.unsorted {ss : List ByteArray} {least : Int} {w w' : World} (hb : sortedB ss = false) (h : Below w.heap.size w w') : AbbrPost ss least w (.returned (.tuple #[.slice none 0 0, .int .i64 1])) w' :=
  ⟨h, fun _ => rfl, (fun h => by rw [hb] at h; cases h), (fun h => by rw [hb] at h; cases h)⟩
theorem AbbrPost.short {ss : List ByteArray} {least : Int} {w w' : World} (hb : sortedB ss = true) (hl : least < 1) (h : Below w.heap.size w w') : AbbrPost ss least w (.returned (.tuple #[.slice none 0 0, .int .i64 5])) w' :=
  ⟨h, (fun h => by rw [hb] at h; cases h), fun _ _ => rfl, (fun _ h => by omega)⟩
theorem AbbrPost.ok {ss : List ByteArray} {m : Nat} {w w' : World} {v' : Value} (hb : sortedB ss = true) (hl : ¬ (m : Int) < 1) (h : Below w.heap.size w w') (ho : w'.ownsRow w.heap.size 9 1 v' ss.length (strVals (abbrs ss m))) : AbbrPost ss m w (.returned (.tuple #[v', .int .i64 0])) w' :=
  ⟨h, (fun h => by rw [hb] at h; cases h), (fun _ h => by omega), fun _ _ => ⟨_, rfl, ho⟩⟩

theorem abbrs_snoc (ss : List ByteArray) (least k : Nat) (s : ByteArray) (r : List ByteArray) (h : ss.drop k = s :: r) (hk : k < ss.length) :
    strVals ((abbrs ss least).take (k + 1)) = strVals ((abbrs ss least).take k) ++ [Value.string (abbrS ss least s)] := by
  have hs : ss[k]? = some s := by
    have := congrArg (·[0]?) h
    simpa using this
  have h2 : (abbrs ss least)[k]? = some (abbrS ss least s) := by unfold abbrs; rw [List.getElem?_map, hs]; rfl
  rw [List.take_add_one, h2]
  simp [strVals]

/-- What the inner loop keeps: the string's box, the counter's box. -/
structure InnerI (wo : World) (s : ByteArray) (n B : Nat) (w : World) : Prop where
  lt : wo.heap.size < B
  cS : w.cell? ⟨wo.heap.size, 0, none⟩ = some (.string s)
  cB : w.cell? ⟨B, 0, none⟩ = some (.int .i64 n)
  fB : w.frozen? ⟨B, 0, none⟩ = false
  below : Below wo.heap.size wo w

theorem InnerI.same {wo w w' : World} {s : ByteArray} {n B : Nat} (h : InnerI wo s n B w) (hb : Below w.heap.size w w') : InnerI wo s n B w' :=
  ⟨h.lt, (hb.cell (World.block_lt_of_cell? w _ h.cS)).trans h.cS, (hb.cell (World.block_lt_of_cell? w _ h.cB)).trans h.cB, (hb.frozen (World.block_lt_of_cell? w _ h.cB)).trans h.fB, h.below.trans (hb.mono h.below.size)⟩

theorem InnerI.next {wo w : World} {s : ByteArray} {n B : Nat} (h : InnerI wo s n B w) : InnerI wo s (n + 1) w.heap.size (w.alloc (.cells #[.int .i64 ((n : Int) + 1)] 3)) :=
  ⟨Nat.lt_of_lt_of_le h.lt (Nat.le_of_lt (World.block_lt_of_cell? w _ h.cB)), by
    have := World.block_lt_of_cell? w _ h.cS
    rw [(Below.alloc (Below.refl w.heap.size w) (Nat.le_refl _) _).cell (p := ⟨wo.heap.size, 0, none⟩) this]; exact h.cS, by simp, by simp, h.below.alloc h.below.size _⟩
theorem one_new (w : World) (x : Value) (t : TypeId) : ∀ j u, [x][j]? = some u → (w.alloc (.cells #[x] t)).cell? ((⟨w.heap.size, 0, none⟩ : Addr).add j) = some u := by
  intro j u hj
  match j, hj with
  | 0, hj => simp at hj; subst hj; simp [Addr.add]

theorem InnerI.start (wo : World) (s : ByteArray) (m : Nat) : InnerI wo s m (wo.heap.size + 1) ((wo.alloc (.cells #[.string s] 9)).alloc (.cells #[.int .i64 m] 3)) :=
  ⟨by omega, by simp, by simp, by simp, ((Below.refl _ _).alloc (Nat.le_refl _) _).alloc (by simp) _⟩

set_option maxHeartbeats 2000000 in
set_option maxRecDepth 100000 in
theorem Abbreviate_c (v : Value) (ss : List ByteArray) (least : Int) (w : World) (h : RdS w v ss) (hlo : -9223372036854775808 ≤ least) (hhi : least ≤ 9223372036854775807) :
    Calls Tryd.prog 27 #[v, .int .i64 least] w (AbbrPost ss least w) := by
  obtain ⟨i0, hi, hz0, hz1, hz2⟩ := info_parts infoS
  have HI0 := Lib.hid hi; clear hi
  have HZ0 := Lib.hid hz0; clear hz0
  have HZ1 := Lib.hid hz1; clear hz1
  have HZ2 := Lib.hid hz2; clear hz2
  have HS := Lib.hid (Sorted_c v ss w h)
  have hrd := Lib.hid h
  have hlen := h.1
  have hsz := Lib.hid h.2.1
  obtain ⟨A, cap, rfl⟩ : ∃ A cap, v = .slice A ss.length cap := by
    rcases h.2.2 with ⟨rfl, A, cap, rfl⟩ | ⟨b, off, cap, rfl, _⟩ <;> exact ⟨_, _, rfl⟩
  clear h
  cases hb0 : sortedB ss
  · have hb := Lib.hid hb0; clear hb0
    go_enter Tryd.func27, Tryd.ntmps27
    go_wp2_with (go_at_call 32; refine HS.out.mono ?_; rintro e w' ⟨rfl, q, rfl⟩; rw [hb.out])
    go_ret2
    exact AbbrPost.unsorted hb.out (blwN (Below.refl _ _) _)
  have hb := Lib.hid hb0; clear hb0
  by_cases hl1 : least < 1
  · go_enter Tryd.func27, Tryd.ntmps27
    go_wp2_with (go_at_call 32; refine HS.out.mono ?_; rintro e w' ⟨rfl, q, rfl⟩; rw [hb.out])
    go_ret2
    exact AbbrPost.short hb.out hl1 (blwN (Below.refl _ _) _)
  obtain ⟨m, rfl⟩ : ∃ m : Nat, least = m := ⟨least.toNat, by omega⟩
  go_enter Tryd.func27, Tryd.ntmps27
  go_wp2_with (go_at_call 32; refine HS.out.mono ?_; rintro e w' ⟨rfl, q, rfl⟩; rw [hb.out])
  go_loopw [6, 19] (fun o x wr => ∃ k : Nat, k ≤ ss.length ∧ x = .int .i64 k ∧ wr.ownsRow w.heap.size 9 1 o k (strVals ((abbrs ss m).take k)) ∧ Below w.heap.size w wr) (fun _ x _ => ss.length - (intOf x).toNat)
  case atStart => exact ⟨0, Nat.zero_le _, rfl, by simpa [strVals] using World.ownsRow_nil _ _ _ _, blwN (Below.refl _ _) _⟩
  case round =>
    obtain ⟨k, hk, rfl, hown0, hB⟩ := hrel
    have hown := Lib.hid hown0; clear hown0
    by_cases hlt : k < ss.length
    · obtain ⟨b, off, cap', hA, -, -, hc⟩ : ∃ b off cap', Value.slice A ss.length cap = .slice (some ⟨b, off, none⟩) ss.length cap' ∧ ss.length ≤ cap' ∧ ss ≠ [] ∧ ∀ j, j < ss.length → w.cell? ⟨b, off + j, none⟩ = some (.string (ss.getD j ByteArray.empty)) := by
        rcases hrd.out.2.2 with ⟨rfl, _⟩ | h
        · simp at hlt
        · exact h
      injection hA with hA1 _ hA2
      subst hA1
      subst hA2
      obtain ⟨s, hd0, hmem, -, hcs0⟩ := RdS.cellAt hc k hlt
      have hd := Lib.hid hd0; clear hd0
      have hcs : wr.cell? ⟨b, off + k, none⟩ = some (.string s) := (hB.cell (World.block_lt_of_cell? w _ hcs0)).trans hcs0
      have hss : s.size ≤ 140737488351232 := hsz.out s hmem
      have hB := Lib.hid hB
      clear hc hcs0 hmem
      go_wp2_with fail
      obtain ⟨wo, rfl⟩ : ∃ wo : World, wo = wr := ⟨_, rfl⟩
      go_loopw [9, 10] (fun sh p w2 => sh = .string s ∧ ∃ n B : Nat, p = .pointer (some ⟨B, 0, none⟩) ∧ InnerI wo s n B w2 ∧ abbrS ss m s = abbrR ss s (s.size + 1) n) (fun _ p w2 => match p with | .pointer (some a) => s.size - (intOf ((w2.cell? a).getD undef)).toNat | _ => 0)
      case atStart => exact ⟨rfl, m, wo.heap.size + 1, rfl, InnerI.start wo s m, rfl⟩
      case round =>
        obtain ⟨rfl, n, B, rfl, hI, ha0⟩ := hrel
        have ha := Lib.hid ha0; clear ha0
        have cS := hI.cS
        have cB := hI.cB
        have fB := hI.fB
        have bB := hI.lt
        have HI := Lib.hid hI
        clear hI
        by_cases hn : n < s.size
        · have HX := Lib.hid (fun (W : World) (h1 : RdS W (.slice (some ⟨b, off, none⟩) ss.length cap) ss) h2 h3 => abbrIdx_c _ ss s n wo.heap.size B W h1 (by omega) hss h2 h3)
          cases hp0 : ss.any (abbrP s n)
          · have hp := Lib.hid hp0; clear hp0
            have hv : RdS wr (.slice (some ⟨b, off, none⟩) ss.length cap) ss := hrd.out.below ((Below.mono hB.out (Nat.le_refl _)).trans (HI.out.below.mono hB.out.size))
            have hv := Lib.hid hv
            have Hx := Lib.hid ((ha.out.trans (abbrR_hit hn hp.out)).trans (extract_take s n).symm)
            go_wp2_with fail
            refine (HX.out _ hv.out cS cB).mono ?_
            rintro e w2 ⟨⟨i, rfl, -, hi1⟩, q, hq⟩
            have hi0 := hi1 hp.out
            have hI2 := HI.out.same (hq ▸ blwN (Below.refl wr.heap.size wr) q)
            clear hi1 hq cS cB fB
            have cS := hI2.cS
            have cB := hI2.cB
            have hown2 := own_below hown.out hI2.below
            have hB2 := hB.out.trans (hI2.below.mono hB.out.size)
            have hsz2 : w.heap.size ≤ w2.heap.size := hB2.size
            clear hI2
            go_wp2_with (at_builtin; refine wpList_append_own _ rfl _ _ 32 rfl w.heap.size 9 i0 (.string ⟨#[]⟩) 1 16 Tryd.underlying32 HI0.out HZ0.out HZ1.out HZ2.out rfl (by decide) _ _ _ rfl (hown2.alloc _) ⟨w2.heap.size, 0, none⟩ 1 1 [.string (s.extract 0 n)] rfl rfl ?c1 ?c2 ?c3 ?c4 ?c5 ?_)
            case c1 => exact one_new _ _ _
            case c2 => intro u hu; simp at hu; subst hu; rfl
            case c3 => unfold maxLen; omega
            case c4 => omega
            case c5 => simp; omega
            intro v' w4 hown4 hgrow _
            have hB4 := hB2.alloc hsz2 (.cells #[.string (s.extract 0 n)] 9)
            have hB4 := Lib.hid (hB4.grown hgrow (by simp; omega) (fun j e => (hown2.lt j e).1))
            have hown4 := Lib.hid hown4
            clear hgrow hown2 hB2
            go_wp2_with fail
            go_roundw
            case rel => exact ⟨k + 1, by omega, by go_num, by rw [abbrs_snoc ss m k s _ hd.out hlt, Hx.out]; exact hown4.out, hB4.out⟩
            case measure => simp [intOf]; omega
          · have hp := Lib.hid hp0; clear hp0
            have hv : RdS wr (.slice (some ⟨b, off, none⟩) ss.length cap) ss := hrd.out.below ((Below.mono hB.out (Nat.le_refl _)).trans (HI.out.below.mono hB.out.size))
            have hv := Lib.hid hv
            go_wp2_with (go_at_call 60; refine (HX.out _ hv.out cS cB).mono ?_; rintro e w2 ⟨⟨i, rfl, hi1, -⟩, q, hq⟩; have hi0 := hi1 hp.out; have hI2 := HI.out.same (hq ▸ blwN (Below.refl wr.heap.size wr) q); clear hi1 hq cS cB fB; have cS := hI2.cS; have cB := hI2.cB; have fB := hI2.fB; have HI2 := Lib.hid hI2; clear hI2)
            go_roundw
            case rel => exact ⟨rfl, n + 1, w2.heap.size, rfl, HI2.out.next, by rw [ha.out, abbrR_step hn hp.out]⟩
            case measure => simp [intOf, HI.out.cB]; omega
        · have Hx := Lib.hid (ha.out.trans (abbrR_end hn))
          have hown2 := own_below hown.out HI.out.below
          have hB2 := hB.out.trans (HI.out.below.mono hB.out.size)
          have hsz2 : w.heap.size ≤ wr.heap.size := hB2.size
          go_wp2_with (at_builtin; refine wpList_append_own _ rfl _ _ 32 rfl w.heap.size 9 i0 (.string ⟨#[]⟩) 1 16 Tryd.underlying32 HI0.out HZ0.out HZ1.out HZ2.out rfl (by decide) _ _ _ rfl (hown2.alloc _) ⟨wr.heap.size, 0, none⟩ 1 1 [.string (s)] rfl rfl ?c1 ?c2 ?c3 ?c4 ?c5 ?_)
          case c1 => exact one_new _ _ _
          case c2 => intro u hu; simp at hu; subst hu; rfl
          case c3 => unfold maxLen; omega
          case c4 => omega
          case c5 => simp; omega
          intro v' w4 hown4 hgrow _
          have hB4 := hB2.alloc hsz2 (.cells #[.string (s)] 9)
          have hB4 := Lib.hid (hB4.grown hgrow (by simp; omega) (fun j e => (hown2.lt j e).1))
          have hown4 := Lib.hid hown4
          clear hgrow hown2 hB2
          go_wp2_with fail
          go_roundw
          case rel => exact ⟨k + 1, by omega, by go_num, by rw [abbrs_snoc ss m k s _ hd.out hlt, Hx.out]; exact hown4.out, hB4.out⟩
          case measure => simp [intOf]; omega
    · have hk' : k = ss.length := by omega
      have hown' := Lib.hid (show wr.ownsRow w.heap.size 9 1 _ ss.length (strVals (abbrs ss m)) by
        have h := hown.out; rw [hk', List.take_of_length_le (by unfold abbrs; simp)] at h; exact h)
      clear hk'
      go_wp2_with fail
      go_ret2
      exact AbbrPost.ok hb.out (by omega) hB hown'.out

end Go.Proofs.YtegjcmoneemhjaaDoor
