/- Chapter 46: the contract of Withdraw; what Rule asks of a line. -/
import Derived.Test.YtbbngcacfdgahaaDoorInK
import Derived.Shelf.SlicesE.IndexFunc
import Derived.Lib.SmallJoins
namespace Go.Proofs.YtbbngcacfdgahaaDoor
open Go.RowKit
set_option linter.unusedVariables false
set_option linter.unusedSimpArgs false

def laysCBRen : Go.Shelf.Ren := ⟨fun | 8 => 51 | 6 => 70 | n => n, fun | 22 => 87 | 23 => 5 | 25 => 85 | 4 => 4 | 3 => 3 | 0 => 0 | n => n, fun | n => n⟩
theorem laysCB : Go.Proofs.SlLaysH.n8 Tryd.prog laysCBRen := {
  mixed := by kernel_rfl
  f6 := ⟨Tryd.f70.name, by decide, Tryd.func70.trans (congrArg some (by kernel_rfl))⟩
  f8 := ⟨Tryd.f51.name, by decide, Tryd.func51.trans (congrArg some (by kernel_rfl))⟩
  t0 := Tryd.underlying0
  a0 := Tryd.isAgg0
  z0 := Tryd.sizeOf0
  v0 := Tryd.zeroValue0
  t3 := Tryd.underlying3
  a3 := Tryd.isAgg3
  z3 := Tryd.sizeOf3
  v3 := Tryd.zeroValue3
  t4 := Tryd.underlying4
  a4 := Tryd.isAgg4
  z4 := Tryd.sizeOf4
  v4 := Tryd.zeroValue4
  t22 := Tryd.underlying87
  a22 := Tryd.isAgg87
  z22 := Tryd.sizeOf87
  v22 := Tryd.zeroValue87
  a23 := Tryd.isAgg5
  z23 := Tryd.sizeOf5
  t25 := Tryd.underlying85
  a25 := Tryd.isAgg85
  z25 := Tryd.sizeOf85
  v25 := Tryd.zeroValue85 }

theorem DeskI.ext {w W : World} {base D : Nat} {d : DeskV} {lv fv : Value} (h : DeskI w base D d lv fv) (hE : Ext w W) : DeskI W base D d lv fv :=
  ⟨h.low, hE.blk h.blk, h.list.kept (hg := ⟨hE.os, hE.tape, hE.output, hE.size, fun k hk _ => hE.block k hk⟩) (row := none) (by cases lv.ownBlock <;> simp),
    h.facts.kept (hg := ⟨hE.os, hE.tape, hE.output, hE.size, fun k hk _ => hE.block k hk⟩) (row := none) (by cases fv.ownBlock <;> simp), h.apart, h.few⟩
theorem DeskI.lt {w : World} {base D : Nat} {d : DeskV} {lv fv : Value} (h : DeskI w base D d lv fv) : D < w.heap.size ∧ base ≤ w.heap.size := by
  have := (Array.getElem?_eq_some_iff.1 h.blk).1
  exact ⟨this, Nat.le_trans h.low (Nat.le_of_lt this)⟩

/-- What Withdraw makes of a desk. -/
def withdrawV (d : DeskV) (n t : Int) : DeskV × Int :=
  if decideE d n t true = 0 then
    ({ withState { d with time := t } (n.toNat - 1) 4 with facts := d.facts ++ [{ (d.list.getD (n.toNat - 1) { filing := {} }).filing with rev := 2, flag := true }] }, 0)
  else (d, decideE d n t true)

theorem decideE_known {d : DeskV} {n t : Int} {ok : Bool} (h : decideE d n t ok = 0) : clockE d t ok = 0 ∧ 1 ≤ n ∧ n ≤ d.list.length ∧ stateOf d n = 1 := by
  unfold decideE at h
  by_cases h0 : clockE d t ok = 0
  · rw [if_pos h0] at h
    unfold openE at h
    by_cases h1 : 1 ≤ n ∧ n ≤ d.list.length
    · rw [if_pos h1] at h
      refine ⟨h0, h1.1, h1.2, ?_⟩
      by_cases h2 : stateOf d n = 1
      · exact h2
      · rw [if_neg h2] at h; cases h
    · rw [if_neg h1] at h; cases h
  · rw [if_neg h0] at h; exact absurd h h0

theorem Withdraw_c (base D : Nat) (d : DeskV) (lv fv : Value) (n t : Int) (w : World) (h : DeskI w base D d lv fv) (hfn : d.facts.length ≤ 300) :
    Calls Tryd.prog 36 #[.pointer (some ⟨D, 0, none⟩), .int .i64 n, .int .i64 t] w (OpPost w base D lv fv (withdrawV d n t).1 (withdrawV d n t).2) := by
  have HD := Lib.hid (decide_c base D d lv fv n t true w h)
  by_cases h0 : decideE d n t true = 0
  · obtain ⟨-, h1, h2, h3⟩ := decideE_known h0
    obtain ⟨m, rfl⟩ : ∃ m : Nat, n = (m : Int) + 1 := ⟨(n - 1).toNat, by omega⟩
    have hm : m < d.list.length := by omega
    have e1 : ((m : Int) + 1).toNat - 1 = m := by omega
    have hW : withdrawV d ((m : Int) + 1) t = ({ withState { d with time := t } m 4 with facts := d.facts ++ [{ d.list[m].filing with rev := 2, flag := true }] }, 0) := by
      unfold withdrawV
      rw [if_pos h0, e1, List.getD_eq_getElem?_getD, List.getElem?_eq_getElem hm]; rfl
    rw [hW]
    obtain ⟨A, cap, rfl, hrow⟩ := h.row
    obtain ⟨g, rfl, -⟩ := hrow (by omega)
    have h1 := h.put (d' := { d with time := t }) 18 (.int .i64 t) rfl rfl rfl
    refine Withdraw_ok base D { d with time := t } fv m t cap g w (w.setCell ⟨D, 18, none⟩ (.int .i64 t)) d.list[m] (Lib.hid (HD.out.mono ?_)) ((Kp.refl base D _ fv w).setCell (p := ⟨D, 18, none⟩) h.low (.inl rfl) _) (Lib.hid h1) hm rfl hfn
    rintro e w' ⟨he, hw⟩
    rw [h0] at he hw
    exact ⟨he, by rw [hw, if_pos rfl]⟩
  · have hW : withdrawV d n t = (d, decideE d n t true) := by unfold withdrawV; rw [if_neg h0]
    rw [hW]
    generalize decideE d n t true = k at *
    have hk : (k == 0) = false := by rw [beq_eq_false_iff_ne]; exact h0
    have hk2 : (k != 0) = true := by rw [bne_iff_ne]; exact h0
    have H := Lib.hid h
    clear h hW
    go_enter Tryd.func36, Tryd.ntmps36
    go_wp2_with fail
    refine HD.out.mono ?_; rintro e w' ⟨rfl, hw⟩
    rw [if_neg h0] at hw
    subst hw
    go_wp2_with fail
    go_ret
    exact ⟨rfl, Kp.refl _ _ _ _ _, _, _, H.out, Rows2.refl _ _ _⟩

def oddB (c : UInt8) : Bool := decide ((c.toNat : Int) < 32) || decide (126 < (c.toNat : Int))
theorem IRuleB_c (c : UInt8) (w : World) : Calls Tryd.prog 50 #[.int .u8 c.toNat] w fun e w' => e = .returned (.bool (oddB c)) ∧ w = w' := by
  obtain ⟨h0, h1⟩ := u8_lt c
  unfold oddB
  generalize (c.toNat : Int) = b at *
  by_cases h1 : b < 32 <;> by_cases h2 : 126 < b
  all_goals
    go_enter Tryd.func50, Tryd.ntmps50
    go_wp2
    all_goals first | (exfalso; omega) | (go_ret; exact ⟨by simp [h1, h2], rfl⟩)

theorem containsB_c (s : ByteArray) (w : World) (hs : s.size ≤ 9223372036854775807) :
    Calls Tryd.prog 51 #[.slice (some ⟨w.heap.size, 0, none⟩) s.size (grownCap w s.size 0 5), .func (.func 50) #[] #[]] (Lib.bytesWorld w 5 s) fun e w' => e = .returned (.bool (s.data.toList.any oddB)) ∧ ∃ q, w' = (Lib.bytesWorld w 5 s).drewN q := by
  have h := AnyE.slices_ContainsFunc laysCB (fun c : UInt8 => .int .u8 c.toNat) oddB 50 #[] (enters_of Tryd.func50 (by kernel_rfl) rfl) w.heap.size 0 s.size (grownCap w s.size 0 5) s.data.toList (Lib.bytesWorld w 5 s)
    (fun W x hb => (IRuleB_c x W).mono (by rintro e w' ⟨rfl, rfl⟩; exact ⟨rfl, 0, rfl⟩)) (Nat.le_refl _) hs (fun j hj => by
      have := Lib.bytesWorld_cell w 5 s j hj
      rw [Nat.zero_add, this, List.getD_eq_getElem?_getD, List.getElem?_eq_getElem hj, List.getElem!_eq_getElem?_getD, List.getElem?_eq_getElem hj]; rfl)
  rw [show s.data.toList.take s.size = s.data.toList from List.take_of_length_le (Nat.le_refl _)] at h
  exact h

end Go.Proofs.YtbbngcacfdgahaaDoor
