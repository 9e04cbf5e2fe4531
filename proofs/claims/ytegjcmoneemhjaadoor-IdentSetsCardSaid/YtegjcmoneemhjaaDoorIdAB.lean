/- The reference's Set: what its inner statement does. -/
import Derived.Test.YtegjcmoneemhjaaDoorIdAA
import Derived.Deep.RegionHeld3
namespace Go.Proofs.YtegjcmoneemhjaaDoor
open Go.RowKit
set_option linter.unusedVariables false
set_option linter.unusedSimpArgs false

/-- A row of one's own with a read row behind it. -/
theorem run_appG (w : World) (base : Nat) (ty : TypeId) (v : Value) (n : Nat) (xs : List ByteArray) (hown : w.ownsRow base 9 1 v n (strVals xs)) (xv : Value) (ss : List ByteArray) (hR : RdS w xv ss)
    (h16 : (n + ss.length) * 16 ≤ 140737488355328) (hbase : base ≤ w.heap.size) :
    ∃ v' w', (Builtin.append_ #[32, 32] ty #[v, xv]).run Tryd.prog w = .ok v' w' ∧ w'.ownsRow base 9 1 v' (n + ss.length) (strVals (xs ++ ss)) ∧ w.grownBy w' v.ownBlock := by
  obtain ⟨i0, hi, hz, hs, hb⟩ := infoS'
  have ht := Tryd.underlying32
  rcases hR.2.2 with ⟨rfl, A, cap, rfl⟩ | ⟨b, off, cap, rfl, -, -, hc⟩
  · obtain ⟨p, k, c, rfl, hle⟩ : ∃ p k c, v = .slice p k c ∧ k ≤ c := by
      rcases hown.2 with ⟨rfl, -⟩ | ⟨g, c, cur, rfl, -, -, h, -⟩
      · exact ⟨_, _, _, rfl, Nat.le_refl _⟩
      · exact ⟨_, _, _, rfl, h⟩
    refine ⟨.slice p k c, w, ?_, by simpa using hown, ⟨rfl, rfl, rfl, Nat.le_refl _, fun _ _ _ => rfl⟩⟩
    cases p <;> cases A <;> simp [Builtin.append_, run_underlying ht, sizeOf, typeInfo, hi, Builtin.lenOf, Builtin.firstCells, loadCells, loadCellsFrom, storeCells, hle]
  · obtain ⟨v', w', h1, h2, h3, -⟩ := run_append_own (P := Tryd.prog) w base 32 ty 9 i0 (.string ⟨#[]⟩) 1 16 ht hi hz hs hb rfl (by decide) v n (strVals xs) hown ⟨b, off, none⟩ ss.length cap (strVals ss) (by unfold strVals; simp)
      (fun j u hj => by
        have hj' : j < ss.length := by
          have := (List.getElem?_eq_some_iff.1 hj).1
          simpa [strVals] using this
        unfold strVals at hj
        rw [List.getElem?_map, List.getElem?_eq_getElem hj'] at hj
        simp at hj
        subst hj
        rw [Addr.add_lit, hc j hj', List.getD_eq_getElem?_getD, List.getElem?_eq_getElem hj']; rfl) (fun u hu => by
        obtain ⟨s, -, rfl⟩ := List.mem_map.1 hu; rfl) (by unfold maxLen; omega) h16 hbase
    exact ⟨v', w', h1, by rw [strVals_app]; exact h2, h3⟩

/-- A row of one's own with a read row behind it, at a step of a region that draws. -/
theorem step_app {w : World} {ops : Array Oper} {o : Oper} {a : Act} {K : Act → World → Prop} {Q : Exit → Act → World → Prop} {E : Prop} (hgd : o.guard = none) (s x : Operand)
    (ho : o.op = .call { callee := .builtin .append, args := #[s, x], argTypes := #[32, 32] })
    (base : Nat) (v : Value) (n : Nat) (xs : List ByteArray) (hs : a.eval s = v) (hown : w.ownsRow base 9 1 v n (strVals xs)) (xv : Value) (ss : List ByteArray) (hx : a.eval x = xv) (hR : RdS w xv ss)
    (h16 : (n + ss.length) * 16 ≤ 140737488355328) (hbase : base ≤ w.heap.size)
    (h : ∀ v' w', w'.ownsRow base 9 1 v' (n + ss.length) (strVals (xs ++ ss)) → w.grownBy w' v.ownBlock → K (a.put o.dst v') w') :
    if Region.wanted o (yielded ops a.tmps) = true then Oper.wp Tryd.prog o a w K Q else E := by
  have hw : Region.wanted o (yielded ops a.tmps) = true := by simp [Region.wanted, hgd]
  rw [if_pos hw]
  obtain ⟨v', w', hr, h2, h3⟩ := run_appG w base o.type v n xs hown xv ss hR h16 hbase
  unfold Oper.wp execOp
  simp only [ho, resolve, invoke, builtin, Sem.run_bind, Sem.run_pure, Result.andThen_ok, List.map_toArray, List.map_cons, List.map_nil, hs, hx, hr]
  exact h v' w' h2 h3

/-! ### insertion -/
def Lt (s t : ByteArray) : Prop := Op.bytesLess s.data.toList t.data.toList = true
theorem setS_lt (ss : List ByteArray) : (setS ss).Pairwise Lt := by
  unfold setS
  rw [List.pairwise_map]
  exact (setL_lt _).imp (fun h => by unfold Lt; rw [ofL_data, ofL_data]; exact h)
theorem setS_of {N T : List ByteArray} (hs : N.Pairwise Lt) (h : ∀ s, s ∈ N ↔ s ∈ T) : setS T = N := by
  have e : setL (datas T) = datas N := bl_ext _ _ (setL_lt _) (List.pairwise_map.2 hs) (fun l => by rw [mem_setL, mem_datas, mem_datas, h])
  unfold setS
  rw [e]
  unfold datas
  rw [List.map_map]
  conv => rhs; rw [← List.map_id N]
  exact List.map_congr_left (fun s _ => ofL_toList s)

theorem lt_of_not {s x : ByteArray} (h : Op.bytesLess s.data.toList x.data.toList = false) (hne : s ≠ x) : Lt x s := by
  unfold Lt
  rw [bl_total _ _ h]
  simp only [Bool.not_eq_true', beq_eq_false_iff_ne]
  intro e
  apply hne
  have := congrArg ofL e
  rwa [ofL_toList, ofL_toList] at this

/-- x laid into a strictly increasing list at its place. -/
def insAt (L : List ByteArray) (k : Nat) (x : ByteArray) : List ByteArray := (L.take k ++ [x]) ++ L.drop k
theorem insAt_length {L : List ByteArray} {k : Nat} {x : ByteArray} (h : k ≤ L.length) : (insAt L k x).length = L.length + 1 := by
  unfold insAt; simp; omega
theorem mem_insAt (L : List ByteArray) (k : Nat) (x s : ByteArray) : s ∈ insAt L k x ↔ s ∈ L ∨ s = x := by
  unfold insAt
  conv => rhs; rw [← List.take_append_drop k L]
  simp only [List.mem_append, List.mem_singleton]
  constructor
  · rintro ((h | h) | h)
    · exact .inl (.inl h)
    · exact .inr h
    · exact .inl (.inr h)
  · rintro ((h | h) | h)
    · exact .inl (.inl h)
    · exact .inr h
    · exact .inl (.inr h)
theorem insAt_lt {L : List ByteArray} (hL : L.Pairwise Lt) {k : Nat} {x : ByteArray} (hk : k ≤ L.length) (hlow : ∀ j (h : j < L.length), j < k → Lt L[j] x)
    (hhigh : ∀ (h : k < L.length), Op.bytesLess L[k].data.toList x.data.toList = false ∧ L[k] ≠ x) : (insAt L k x).Pairwise Lt := by
  have hd : ∀ y ∈ L.drop k, Lt x y := by
    by_cases h : k < L.length
    · have h1 := lt_of_not (hhigh h).1 (hhigh h).2
      intro y hy
      have hp := hL.sublist (List.drop_sublist k L)
      rw [List.drop_eq_getElem_cons h] at hp hy
      rw [List.pairwise_cons] at hp
      rcases List.mem_cons.1 hy with rfl | hy
      · exact h1
      · exact bl_trans h1 (hp.1 y hy)
    · rw [List.drop_of_length_le (by omega)]; intro y hy; cases hy
  have ht : ∀ y ∈ L.take k, Lt y x := by
    intro y hy
    obtain ⟨j, hj, rfl⟩ := List.mem_take_iff_getElem.1 hy
    exact hlow j (by omega) (by omega)
  have h2 := hL
  rw [← List.take_append_drop k L, List.pairwise_append] at h2
  unfold insAt
  rw [List.pairwise_append, List.pairwise_append]
  refine ⟨⟨h2.1, by simp, fun a ha b hb => ?_⟩, h2.2.1, fun a ha b hb => ?_⟩
  · rw [List.mem_singleton.1 hb]; exact ht a ha
  · rcases List.mem_append.1 ha with ha | ha
    · exact h2.2.2 a ha b hb
    · rw [List.mem_singleton.1 ha]; exact hd b hb

theorem take_succ_mem {ss : List ByteArray} {i : Nat} (h : i < ss.length) (s : ByteArray) : s ∈ ss.take (i + 1) ↔ s ∈ ss.take i ∨ s = ss[i] := by
  rw [List.take_succ_eq_append_getElem h, List.mem_append, List.mem_singleton]
theorem set_insert {ss : List ByteArray} {i k : Nat} (hi : i < ss.length) (hk : k ≤ (setS (ss.take i)).length) (hlow : ∀ j (h : j < (setS (ss.take i)).length), j < k → Lt (setS (ss.take i))[j] ss[i])
    (hhigh : ∀ (h : k < (setS (ss.take i)).length), Op.bytesLess (setS (ss.take i))[k].data.toList ss[i].data.toList = false ∧ (setS (ss.take i))[k] ≠ ss[i]) : setS (ss.take (i + 1)) = insAt (setS (ss.take i)) k ss[i] :=
  setS_of (insAt_lt (setS_lt _) hk hlow hhigh) (fun s => by rw [mem_insAt, mem_setS, take_succ_mem hi])
theorem set_there {ss : List ByteArray} {i k : Nat} (hi : i < ss.length) (hk : k < (setS (ss.take i)).length) (he : (setS (ss.take i))[k] = ss[i]) : setS (ss.take (i + 1)) = setS (ss.take i) :=
  setS_of (setS_lt _) (fun s => by
    rw [mem_setS, take_succ_mem hi]
    constructor
    · exact .inl
    · rintro (h | rfl)
      · exact h
      · rw [← he]; exact (mem_setS _ _).1 (List.getElem_mem hk))

theorem rds_some {w : World} {b off cap : Nat} {L : List ByteArray} (h1 : L.length * 16 ≤ 140737488355328) (h2 : ∀ s ∈ L, s.size ≤ 140737488351232) (hcap : L.length ≤ cap) (hc : ∀ j (h : j < L.length), w.cell? ⟨b, off + j, none⟩ = some (.string L[j])) : RdS w (.slice (some ⟨b, off, none⟩) L.length cap) L := by
  refine ⟨h1, h2, ?_⟩
  by_cases e : L = []
  · subst e; exact .inl ⟨rfl, _, _, rfl⟩
  · exact .inr ⟨b, off, cap, rfl, hcap, e, fun j hj => by rw [hc j hj, getD_of hj]⟩

end Go.Proofs.YtegjcmoneemhjaaDoor
