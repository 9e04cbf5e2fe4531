/- Concat and Union: their contracts. -/
import Derived.Test.YtegjcmoneemhjaaDoorIdV
import Derived.Test.YtegjcmoneemhjaaDoorLawAbbreviates
import Derived.Shelf.Spec.SlicesGrow
namespace Go.Proofs.YtegjcmoneemhjaaDoor
open Go.RowKit
set_option linter.unusedVariables false
set_option linter.unusedSimpArgs false

def growRen : Go.Shelf.Ren := ⟨fun | 4 => 81 | n => n, fun | 22 => 32 | 25 => 9 | n => n, fun | n => n⟩
theorem laysGrow : Lays8.n4 Tryd.prog growRen := {
  mixed := by kernel_rfl
  f4 := ⟨Tryd.f81.name, by decide, Tryd.func81.trans (congrArg some (by kernel_rfl))⟩
  t0 := Tryd.underlying0
  a0 := Tryd.isAgg0
  z0 := Tryd.sizeOf0
  v0 := Tryd.zeroValue0
  t3 := Tryd.underlying3
  a3 := Tryd.isAgg3
  z3 := Tryd.sizeOf3
  v3 := Tryd.zeroValue3
  t4 := Tryd.underlying4
  a4 := Tryd.isAgg4
  z4 := Tryd.sizeOf4
  v4 := Tryd.zeroValue4
  t9 := Tryd.underlying9
  a9 := Tryd.isAgg9
  z9 := Tryd.sizeOf9
  v9 := Tryd.zeroValue9
  t20 := by kernel_rfl
  a20 := fun _ => by kernel_rfl
  z20 := fun _ => by kernel_rfl
  v20 := fun _ => by kernel_rfl
  t22 := Tryd.underlying32
  a22 := Tryd.isAgg32
  z22 := Tryd.sizeOf32
  v22 := Tryd.zeroValue32 }

theorem infoS' : ∃ i0, Tryd.prog.info? 9 = some i0 ∧ i0.zero = some (.string ⟨#[]⟩) ∧ i0.size = 1 ∧ i0.bytes = 16 := by
  have h := infoS
  cases e : Tryd.prog.info? 9 with
  | none => rw [e] at h; cases h
  | some i => rw [e] at h; injection h with h; injection h with h1 h2; injection h2 with h2 h3; exact ⟨i, rfl, h1, h2, h3⟩

theorem Grow_c (n : Nat) (w : World) (h : n * 16 ≤ 140737488355328) : Calls Tryd.prog 81 #[.slice none 0 0, .int .i64 n] w fun e w' => ∃ v', e = .returned v' ∧ w'.ownsRow w.heap.size 9 1 v' 0 [] ∧ Below w.heap.size w w' := by
  by_cases hn : n = 0
  · subst hn
    refine (Any8.slices_Grow_room laysGrow none 0 0 0 w (by omega) (by omega) (by omega) (by omega)).mono ?_
    rintro e w' ⟨rfl, rfl⟩
    exact ⟨_, rfl, World.ownsRow_nil _ _ _ _, Below.refl _ _⟩
  · obtain ⟨i0, hi, hz, hs, hb⟩ := infoS'
    refine (Any8.slices_Grow_grow laysGrow i0 (.string ⟨#[]⟩) hi hz (by omega) none 0 0 n [] w (by omega) (by omega) (by rw [hb]; omega) (by omega) (by simp) (fun _ => rfl) (fun a e => by cases e)).mono ?_
    rintro e w' ⟨rfl, rfl⟩
    have hge := grownCap_ge w (0 + n) 0 9
    have hcm : grownCap w (0 + n) 0 9 ≤ maxLen := grownCap_le_maxLen w (0 + n) 0 9 (by unfold maxLen; omega)
    refine ⟨_, rfl, ⟨rfl, .inr ⟨w.heap.size, _, _, rfl, Nat.le_refl _, heap_alloc_new w.drew _, Nat.zero_le _, hcm, ?_, by simp⟩⟩, ?_⟩
    · have e1 : (Value.string ⟨#[]⟩ : Value).cells.size = 1 := rfl
      simp only [Array.size_append, List.size_toArray, size_zeroCells, List.length_nil, e1, Nat.mul_one]
      show 0 + (0 + n - 0) + (grownCap w (0 + n) 0 9 - (0 + n)) = grownCap w (0 + n) 0 9
      omega
    · exact ((Below.refl w.heap.size w).drew).alloc (by simp) _

theorem below_own {w w' : World} {base n size : Nat} {e : TypeId} {v : Value} {xs : List Value} (h : w.ownsRow base e size v n xs) (hg : w.grownBy w' v.ownBlock) (hb : base ≤ w.heap.size) : Below base w w' :=
  ⟨hg.os, hg.tape, hg.output, hg.size, fun k hk => hg.block k (by omega) (fun e => by have := (h.lt k e.symm).1; omega)⟩

theorem strVals_app (a b : List ByteArray) : strVals (a ++ b) = strVals a ++ strVals b := by unfold strVals; rw [List.map_append]

/-- A row of one's own with a read row behind it. -/
theorem run_app (w : World) (base : Nat) (ty : TypeId) (v : Value) (n : Nat) (xs : List ByteArray) (hown : w.ownsRow base 9 1 v n (strVals xs)) (xv : Value) (ss : List ByteArray) (hR : RdS w xv ss)
    (h16 : (n + ss.length) * 16 ≤ 140737488355328) (hbase : base ≤ w.heap.size) :
    ∃ v' w', (Builtin.append_ #[32, 32] ty #[v, xv]).run Tryd.prog w = .ok v' w' ∧ w'.ownsRow base 9 1 v' (n + ss.length) (strVals (xs ++ ss)) ∧ Below base w w' := by
  obtain ⟨i0, hi, hz, hs, hb⟩ := infoS'
  have ht := Tryd.underlying32
  rcases hR.2.2 with ⟨rfl, A, cap, rfl⟩ | ⟨b, off, cap, rfl, -, -, hc⟩
  · obtain ⟨p, k, c, rfl, hle⟩ : ∃ p k c, v = .slice p k c ∧ k ≤ c := by
      rcases hown.2 with ⟨rfl, -⟩ | ⟨g, c, cur, rfl, -, -, h, -⟩
      · exact ⟨_, _, _, rfl, Nat.le_refl _⟩
      · exact ⟨_, _, _, rfl, h⟩
    refine ⟨.slice p k c, w, ?_, by simpa using hown, Below.refl _ _⟩
    cases p <;> cases A <;> simp [Builtin.append_, run_underlying ht, sizeOf, typeInfo, hi, Builtin.lenOf, Builtin.firstCells, loadCells, loadCellsFrom, storeCells, hle]
  · obtain ⟨v', w', h1, h2, h3, -⟩ := run_append_own (P := Tryd.prog) w base 32 ty 9 i0 (.string ⟨#[]⟩) 1 16 ht hi hz hs hb rfl (by decide) v n (strVals xs) hown ⟨b, off, none⟩ ss.length cap (strVals ss) (by unfold strVals; simp)
      (fun j u hj => by
        have hj' : j < ss.length := by
          have := (List.getElem?_eq_some_iff.1 hj).1
          simpa [strVals] using this
        unfold strVals at hj
        rw [List.getElem?_map, List.getElem?_eq_getElem hj'] at hj
        simp at hj
        subst hj
        rw [Addr.add_lit, hc j hj', List.getD_eq_getElem?_getD, List.getElem?_eq_getElem hj']; rfl) (fun u hu => by
        obtain ⟨s, -, rfl⟩ := List.mem_map.1 hu; rfl) (by unfold maxLen; omega) h16 hbase
    exact ⟨v', w', h1, by rw [strVals_app]; exact h2, below_own hown h3 hbase⟩

theorem wpList_app {w : World} {ops : Array Oper} {rest : List Oper} {o : Oper} {a : Act} {Q : Exit → Act → World → Prop} (hgd : o.guard = none) (s x : Operand)
    (ho : o.op = .call { callee := .builtin .append, args := #[s, x], argTypes := #[32, 32] })
    (base : Nat) (v : Value) (n : Nat) (xs : List ByteArray) (hs : a.eval s = v) (hown : w.ownsRow base 9 1 v n (strVals xs)) (xv : Value) (ss : List ByteArray) (hx : a.eval x = xv) (hR : RdS w xv ss)
    (h16 : (n + ss.length) * 16 ≤ 140737488355328) (hbase : base ≤ w.heap.size)
    (h : ∀ v' w', w'.ownsRow base 9 1 v' (n + ss.length) (strVals (xs ++ ss)) → Below base w w' → wpList Tryd.prog ops Q rest (a.put o.dst v') w') :
    wpList Tryd.prog ops Q (o :: rest) a w := by
  refine wpList_plain hgd fun K hK => ?_
  obtain ⟨v', w', hr, h2, h3⟩ := run_app w base o.type v n xs hown xv ss hR h16 hbase
  unfold Oper.wp execOp
  simp only [ho, resolve, invoke, builtin, Sem.run_bind, Sem.run_pure, Result.andThen_ok, List.map_toArray, List.map_cons, List.map_nil, hs, hx, hr]
  exact hK _ _ (h v' w' h2 h3)

/-- What Concat leaves. -/
def CatPost (xs : List ByteArray) (w : World) (e : Ending) (w' : World) : Prop := ∃ v', e = .returned v' ∧ w'.ownsRow w.heap.size 9 1 v' xs.length (strVals xs) ∧ Below w.heap.size w w'

set_option maxHeartbeats 1000000 in
theorem Concat_c (X : Nat) (va vb : Value) (ps qs : List ByteArray) (w : World) (ha : RdS w va ps) (hb : RdS w vb qs) (ca : w.cell? ⟨X, 0, none⟩ = some va) (cb : w.cell? ⟨X, 1, none⟩ = some vb) (h16 : (ps.length + qs.length) * 16 ≤ 140737488355328) :
    Calls Tryd.prog 67 #[.slice (some ⟨X, 0, none⟩) 2 2] w (CatPost (ps ++ qs) w) := by
  obtain ⟨A, c1, rfl, -⟩ := ha.shape
  obtain ⟨B, c2, rfl, -⟩ := hb.shape
  have HA := Lib.hid ha; have HB := Lib.hid hb; clear ha hb
  have cb0 := cb
  have HG := Lib.hid (Grow_c (ps.length + qs.length) w h16)
  go_enter Tryd.func67, Tryd.ntmps67
  go_wp2_with fail
  refine wp_loop_rounds 3 ?_
  rw [rounds_succ]
  go_wp2_with fail
  rw [rounds_succ]
  go_wp2_with fail
  rw [rounds_succ]
  go_wp2_with fail
  have hcast : ((ps.length + qs.length : Nat) : Int) = (ps.length : Int) + qs.length := by omega
  rw [hcast] at HG
  refine HG.out.mono ?_; rintro e w1 ⟨v1, rfl, hown, hb⟩
  have hB := Lib.hid hb
  have hs1 : w.heap.size ≤ w1.heap.size := hb.size
  have RA := Lib.hid (HA.out.below hb)
  have RB := Lib.hid (HB.out.below hb)
  have ca := (hb.cell (World.block_lt_of_cell? w _ ca)).trans ca
  have cb := (hb.cell (World.block_lt_of_cell? w _ cb)).trans cb
  clear hb
  go_wp2_with fail
  refine wp_loop_rounds 3 ?_
  rw [rounds_succ]
  go_wp2_with (at_builtin; refine wpList_app rfl _ _ rfl w.heap.size _ 0 [] rfl hown _ ps rfl RA.out ?c1 ?c2 ?_)
  case c1 => omega
  case c2 => exact hs1
  intro v2 w2 hown2 hb2
  have hB2 := Lib.hid (hB.out.trans hb2)
  have hs2 : w.heap.size ≤ w2.heap.size := hB2.out.size
  have RB := Lib.hid (HB.out.below hB2.out)
  have cb := (hB2.out.cell (World.block_lt_of_cell? w _ cb0)).trans cb0
  clear hb2 hown
  go_wp2_with fail
  rw [rounds_succ]
  go_wp2_with (at_builtin; refine wpList_app rfl _ _ rfl w.heap.size _ _ _ rfl hown2 _ qs rfl RB.out ?c1 ?c2 ?_)
  case c1 => omega
  case c2 => exact hs2
  intro v3 w3 hown3 hb3
  have hB3 := Lib.hid (hB2.out.trans hb3)
  clear hb3 hown2
  go_wp2_with fail
  rw [rounds_succ]
  go_wp2_with fail
  go_ret
  exact ⟨_, rfl, by simpa using hown3, hB3.out⟩

end Go.Proofs.YtegjcmoneemhjaaDoor
