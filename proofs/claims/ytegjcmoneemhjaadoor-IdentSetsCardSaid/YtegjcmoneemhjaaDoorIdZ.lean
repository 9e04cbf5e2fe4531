/- Sets by their elements: plain mathematics; Small tells the length. -/
import Derived.Test.YtegjcmoneemhjaaDoorIdY
import Derived.Test.YtegjcmoneemhjaaDoorIdQ
namespace Go.Proofs.YtegjcmoneemhjaaDoor
open Go.RowKit
set_option linter.unusedVariables false
set_option linter.unusedSimpArgs false

theorem bl_ext : ∀ (l m : List (List UInt8)), l.Pairwise (fun x y => Op.bytesLess x y = true) → m.Pairwise (fun x y => Op.bytesLess x y = true) → (∀ x, x ∈ l ↔ x ∈ m) → l = m := by
  intro l
  induction l with
  | nil =>
    intro m _ _ h
    cases m with
    | nil => rfl
    | cons b r => exact absurd ((h b).2 (List.mem_cons_self ..)) (by simp)
  | cons a r ih =>
    intro m hl hm h
    cases m with
    | nil => exact absurd ((h a).1 (List.mem_cons_self ..)) (by simp)
    | cons b s =>
      rw [List.pairwise_cons] at hl hm
      have e : a = b := by
        rcases List.mem_cons.1 ((h a).1 (List.mem_cons_self ..)) with e | e
        · exact e
        · rcases List.mem_cons.1 ((h b).2 (List.mem_cons_self ..)) with e' | e'
          · exact e'.symm
          · have h1 := hl.1 b e'
            have h2 := hm.1 a e
            rw [bl_asymm h1] at h2; cases h2
      subst e
      congr 1
      refine ih s hl.2 hm.2 (fun x => ?_)
      have hx := h x
      simp only [List.mem_cons] at hx
      constructor
      · intro hr
        rcases hx.1 (.inr hr) with e | e
        · subst e; have := hl.1 x hr; rw [bl_irrefl] at this; cases this
        · exact e
      · intro hr
        rcases hx.2 (.inr hr) with e | e
        · subst e; have := hm.1 x hr; rw [bl_irrefl] at this; cases this
        · exact e

theorem mem_datas (xs : List ByteArray) (l : List UInt8) : l ∈ datas xs ↔ ofL l ∈ xs := by
  constructor
  · intro h
    obtain ⟨s, hs, rfl⟩ := List.mem_map.1 h
    rw [ofL_toList]; exact hs
  · intro h
    exact List.mem_map.2 ⟨ofL l, h, ofL_data l⟩
theorem setS_ext {xs ys : List ByteArray} (h : ∀ s, s ∈ xs ↔ s ∈ ys) : setS xs = setS ys := by
  unfold setS
  rw [bl_ext _ _ (setL_lt (datas xs)) (setL_lt (datas ys)) (fun l => by rw [mem_setL, mem_setL, mem_datas, mem_datas, h])]

theorem mem_minusS (ps qs : List ByteArray) (s : ByteArray) : s ∈ minusS ps qs ↔ s ∈ ps ∧ s ∉ qs := by
  unfold minusS minusL
  constructor
  · intro h
    obtain ⟨l, hl, rfl⟩ := List.mem_map.1 h
    obtain ⟨h1, h2⟩ := List.mem_filter.1 hl
    refine ⟨(mem_datas _ _).1 ((mem_setL _ _).1 h1), fun h => ?_⟩
    have := (Lib.containsS_iff qs (ofL l)).2 h
    rw [this] at h2; simp at h2
  · rintro ⟨h1, h2⟩
    refine List.mem_map.2 ⟨s.data.toList, List.mem_filter.2 ⟨(mem_setL _ _).2 ((mem_datas _ _).2 (by rw [ofL_toList]; exact h1)), ?_⟩, ofL_toList s⟩
    rw [ofL_toList]
    cases h : Lib.containsS qs s
    · rfl
    · exact absurd ((Lib.containsS_iff qs s).1 h) h2
theorem minusS_empty (ps qs : List ByteArray) : minusS ps qs = [] ↔ ∀ s ∈ ps, s ∈ qs := by
  rw [List.eq_nil_iff_forall_not_mem]
  constructor
  · intro h s hs
    rcases Classical.em (s ∈ qs) with hq | hq
    · exact hq
    · exact absurd ((mem_minusS _ _ _).2 ⟨hs, hq⟩) (h s)
  · intro h s hs
    obtain ⟨h1, h2⟩ := (mem_minusS _ _ _).1 hs
    exact h2 (h s h1)
theorem contains_minus {ps qs : List ByteArray} {s : ByteArray} (h : s ∈ ps) : Lib.containsS (minusS ps qs) s = !Lib.containsS qs s := by
  cases hq : Lib.containsS qs s
  · exact (Lib.containsS_iff _ _).2 ((mem_minusS _ _ _).2 ⟨h, fun h' => by rw [(Lib.containsS_iff _ _).2 h'] at hq; cases hq⟩)
  · cases hm : Lib.containsS (minusS ps qs) s
    · rfl
    · exact absurd ((Lib.containsS_iff _ _).1 hq) ((mem_minusS _ _ _).1 ((Lib.containsS_iff _ _).1 hm)).2

/-- What Small tells. -/
def SmallPost (ss : List ByteArray) (w : World) (e : Ending) (w' : World) : Prop := ∃ b : Bool, e = .returned (.bool b) ∧ (b = true → ss.length ≤ 60) ∧ w = w'

set_option maxHeartbeats 400000 in
theorem rSmall60_c (v : Value) (ss : List ByteArray) (w : World) (h : RdS w v ss) : Calls Tryd.prog 26 #[v] w (SmallPost ss w) := by
  obtain ⟨h1, h2, h3⟩ := h
  rcases h3 with ⟨rfl, A, cap, rfl⟩ | ⟨b, off, cap, rfl, hcap, hne, hc⟩
  · clear h2
    have hnil : ([] : List ByteArray).length ≤ 60 := by simp
    go_enter Tryd.func26, Tryd.ntmps26
    go_wp2
    refine wp_loop_rounds 1 ?_
    rw [rounds_succ]
    go_wp2
    go_ret
    exact ⟨_, rfl, (fun _ => hnil), rfl⟩
  · have Hc := Lib.hid hc; clear hc hne
    have H2 := Lib.hid h2; clear h2
    go_enter Tryd.func26, Tryd.ntmps26
    go_wp2
    go_loop [3, 4] (fun n x => ∃ k : Nat, ∃ m : Int, k ≤ ss.length ∧ k ≤ 60 ∧ x = .int .i64 k ∧ n = .int .i64 m ∧ 0 ≤ m ∧ m ≤ 1500 * k) (fun _ x => ss.length - (intOf x).toNat)
    case atStart => exact ⟨0, 0, by omega, by omega, rfl, rfl, by omega, by omega⟩
    case round =>
      obtain ⟨k, m, hk, hk6, rfl, rfl, hm0, hm1⟩ := hrel
      by_cases hlt : k < ss.length
      · by_cases h60 : k < 60
        · obtain ⟨s, -, hmem, -, hcs⟩ := RdS.cellAt Hc.out k hlt
          have hss := H2.out s hmem
          clear hmem
          by_cases hs15 : 1500 < s.size
          · go_wp2_with fail
            go_ret
            exact ⟨_, rfl, (fun h => by first | omega | cases h | (simp at h)), rfl⟩
          · go_wp2_with fail
            go_round
            case rel => exact ⟨k + 1, m + s.size, by omega, by omega, by go_num, rfl, by omega, by omega⟩
            case measure => simp [intOf]; omega
        · obtain ⟨s, -, hmem, -, hcs⟩ := RdS.cellAt Hc.out k hlt
          clear hmem
          go_wp2_with fail
          go_ret
          exact ⟨_, rfl, (fun h => by first | omega | cases h | (simp at h)), rfl⟩
      · by_cases hmm : m ≤ 1500
        · go_wp2_with fail
          go_ret
          exact ⟨_, rfl, (fun h => by first | omega | cases h | (simp at h)), rfl⟩
        · go_wp2_with fail
          go_ret
          exact ⟨_, rfl, (fun h => by first | omega | cases h | (simp at h)), rfl⟩


end Go.Proofs.YtegjcmoneemhjaaDoor
