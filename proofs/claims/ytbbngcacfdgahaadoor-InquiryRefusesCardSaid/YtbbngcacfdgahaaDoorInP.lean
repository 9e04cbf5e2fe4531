/- Chapter 46: slices.Backward over inquiries; the contract of Line. -/
import Derived.RangeFuncNested
import Derived.RangeFuncBound
import Derived.RangeFuncCalls
import Derived.RangeFuncLeaves
import Derived.RangeFuncBox
import Derived.Shelf.Abstract
import Derived.Shelf.RegionOpen
import Derived.WalkKit
import Derived.OwnWalkIn
import Derived.TacticsInMore
import Derived.LoopNIn
import Derived.LoopIn
import Derived.Test.YtbbngcacfdgahaaDoorInO
namespace Go.Proofs.YtbbngcacfdgahaaDoor
open Go.RowKit Go.Shelf
set_option linter.unusedVariables false
set_option linter.unusedSimpArgs false
attribute [local go_sem] Oper.semAt_some

def qAgg (q : IQ) : Value := .agg #[.int .i64 q.filing.kind, .int .i64 q.filing.rev, .bool q.filing.gone, .string q.filing.phase, .string q.filing.segment, .int .i64 q.filing.bib, .string q.filing.panel, .string q.filing.judge, .int .i64 q.filing.index, .string q.filing.fed, .string q.filing.name, .int .i64 q.filing.value, .string q.filing.text, .bool q.filing.flag, .int .i64 q.state, .string q.line]
def bkEnc (x : Int × IQ) : Array Value := #[.int .i64 x.1, qAgg x.2]

set_option maxRecDepth 100000 in
set_option maxHeartbeats 4000000 in
theorem back1_in (F : Fence) (n : Nat) (hf : F.fn 61) (hro : F.round = none) (hn : 1 ≤ n) (l Bs n₀ b cap : Nat) (qs : List IQ) (h99 : qs.length ≤ 99) (hb : b < n₀) (hBl : Bs < n₀) (J Jx : List (Int × IQ) → World → Prop)
    (hY : ∀ pre x W, J pre W → pre.length < qs.length → YieldAt F (n - 1) Tryd.prog l (bkEnc x) W fun e W' =>
      (e = .returned (.bool true) ∧ J (pre ++ [x]) W' ∧ Below n₀ W W') ∨ (e = .returned (.bool false) ∧ Jx (pre ++ [x]) W'))
    (W : World) (hBs : W.cell? ⟨Bs, 0, none⟩ = some (.slice (some ⟨b, 0, none⟩) qs.length cap)) (hc : ∀ k (hk : k < qs.length) j, j < 16 → W.cell? ⟨b, k * 16 + j, none⟩ = (qs[k]).vals[j]?) (h0 : J [] W) :
    CallsIn F n Tryd.prog 61 #[.func (.yield l) #[] #[], .pointer (some ⟨Bs, 0, none⟩)] W fun e W' => (∃ v, e = .returned v) ∧
      ((∃ ys, ys.map Prod.snd = qs.reverse ∧ J ys W') ∨ (∃ pre, (∃ k, k ≤ qs.length ∧ pre.map Prod.snd = qs.reverse.take k) ∧ Jx pre W')) := by
  refine callsIn_of_wp Tryd.func61 rfl hf ?_ hro
  simp only [Tryd.ntmps61, List.size_toArray, List.length_cons, List.length_nil, Nat.reduceAdd, Nat.reduceSub, Array.replicate_succ, Array.replicate_zero, List.push_toArray, List.append_toArray, List.nil_append, List.cons_append]
  have hrl : qs.reverse.length = qs.length := List.length_reverse
  have HRL := Lib.hid hrl; clear hrl
  have HC := Lib.hid hc; clear hc
  have HY := Lib.hid hY; clear hY
  have HB := Lib.hid hBs
  gi_wp2
  clear hBs
  gi_loopw [3] (fun i wr => ∃ (k : Nat) (pre : List (Int × IQ)), k ≤ qs.length ∧ i = .int .i64 ((qs.length : Int) - 1 - k) ∧ Hid (pre.map Prod.snd = qs.reverse.take k) ∧ J pre wr ∧ Below n₀ W wr)
    (fun i _ => (intOf i + 1).toNat)
  case atStart => exact ⟨0, [], Nat.zero_le _, by simp, rfl, h0, Below.refl _ _⟩
  case round =>
    obtain ⟨k, pre, hk, rfl, hpre, hJs, hnx⟩ := hrel
    have hpl : Hid (pre.length = k) := by
      have := congrArg List.length hpre.out
      rw [List.length_map, List.length_take, HRL.out] at this
      show pre.length = k
      omega
    have hbs := (hnx.cell (p := ⟨Bs, 0, none⟩) hBl).trans HB.out
    by_cases hlt : k < qs.length
    · obtain ⟨m, hm⟩ : ∃ m : Nat, m = qs.length - 1 - k := ⟨_, rfl⟩
      have hml : m < qs.length := by omega
      have em : ((qs.length : Int) - 1 - k) = (m : Int) := by omega
      have hq : qs.reverse.take (k + 1) = qs.reverse.take k ++ [qs[m]] := by
        rw [List.take_succ_eq_append_getElem (by rw [HRL.out]; exact hlt), List.getElem_reverse]
        congr 2
        congr 1
        omega
      have HQ := Lib.hid hq; clear hq
      have hcell : ∀ j, j < 16 → wr.cell? ⟨b, m * 16 + j, none⟩ = (qs[m]).vals[j]? := fun j hj => (hnx.cell (p := ⟨b, m * 16 + j, none⟩) hb).trans (HC.out m hml j hj)
      generalize qs[m] = q at *
      obtain ⟨fn, tmps, assign, body, hy, hR⟩ := HY.out pre ((m : Int), q) wr hJs (by rw [hpl.out]; exact hlt)
      dsimp only [bkEnc, qAgg] at hy
      rw [em]
      have hmeq := Lib.hid hm; clear hm
      have hmk : m + k + 1 = qs.length := by have := hmeq.out; omega
      have hmk := Lib.hid hmk
      have em := Lib.hid em
      have f0 : wr.cell? ⟨b, m * 16, none⟩ = some (.int .i64 q.filing.kind) := hcell 0 (by omega)
      have f1 : wr.cell? ⟨b, m * 16 + 1, none⟩ = some (.int .i64 q.filing.rev) := hcell 1 (by omega)
      have f2 : wr.cell? ⟨b, m * 16 + 2, none⟩ = some (.bool q.filing.gone) := hcell 2 (by omega)
      have f3 : wr.cell? ⟨b, m * 16 + 3, none⟩ = some (.string q.filing.phase) := hcell 3 (by omega)
      have f4 : wr.cell? ⟨b, m * 16 + 4, none⟩ = some (.string q.filing.segment) := hcell 4 (by omega)
      have f5 : wr.cell? ⟨b, m * 16 + 5, none⟩ = some (.int .i64 q.filing.bib) := hcell 5 (by omega)
      have f6 : wr.cell? ⟨b, m * 16 + 6, none⟩ = some (.string q.filing.panel) := hcell 6 (by omega)
      have f7 : wr.cell? ⟨b, m * 16 + 7, none⟩ = some (.string q.filing.judge) := hcell 7 (by omega)
      have f8 : wr.cell? ⟨b, m * 16 + 8, none⟩ = some (.int .i64 q.filing.index) := hcell 8 (by omega)
      have f9 : wr.cell? ⟨b, m * 16 + 9, none⟩ = some (.string q.filing.fed) := hcell 9 (by omega)
      have f10 : wr.cell? ⟨b, m * 16 + 10, none⟩ = some (.string q.filing.name) := hcell 10 (by omega)
      have f11 : wr.cell? ⟨b, m * 16 + 11, none⟩ = some (.int .i64 q.filing.value) := hcell 11 (by omega)
      have f12 : wr.cell? ⟨b, m * 16 + 12, none⟩ = some (.string q.filing.text) := hcell 12 (by omega)
      have f13 : wr.cell? ⟨b, m * 16 + 13, none⟩ = some (.bool q.filing.flag) := hcell 13 (by omega)
      have f14 : wr.cell? ⟨b, m * 16 + 14, none⟩ = some (.int .i64 q.state) := hcell 14 (by omega)
      have f15 : wr.cell? ⟨b, m * 16 + 15, none⟩ = some (.string q.line) := hcell 15 (by omega)
      clear hcell
      gi_wp2
      refine hR.mono ?_
      rintro e W3 (⟨rfl, hJ3, hk3⟩ | ⟨rfl, hJx3⟩)
      · gi_wp2
        go_roundw
        case rel => exact ⟨k + 1, pre ++ [((m : Int), q)], by omega, congrArg (Value.int .i64) (by have := hmk.out; (try push_cast); omega), by rw [List.map_append, hpre.out, HQ.out]; rfl, hJ3, hnx.trans hk3⟩
        case measure => (simp [intOf]; try omega)
      · gi_wp2
        refine bodyPost_ret (results_none rfl _ _ _) rfl ?_
        exact ⟨⟨_, rfl⟩, .inr ⟨_, ⟨k + 1, by omega, by rw [List.map_append, hpre.out, HQ.out]; rfl⟩, hJx3⟩⟩
    · obtain rfl : k = qs.length := by omega
      have ez : (qs.length : Int) - 1 - (qs.length : Int) = -1 := by omega
      have hall : Hid (pre.map Prod.snd = qs.reverse) := Lib.hid (by rw [hpre.out, List.take_of_length_le (by rw [HRL.out]; omega)])
      gi_wp2
      go_end0
      exact ⟨⟨_, rfl⟩, .inl ⟨_, hall.out, hJs⟩⟩

set_option maxRecDepth 100000 in
set_option maxHeartbeats 4000000 in
theorem back1_nil_in (F : Fence) (n : Nat) (hf : F.fn 61) (hro : F.round = none) (l Bs cap : Nat) (A : Option Addr) (J : List (Int × IQ) → World → Prop) (W : World) (hBs : W.cell? ⟨Bs, 0, none⟩ = some (.slice A 0 cap)) (h0 : J [] W) :
    CallsIn F n Tryd.prog 61 #[.func (.yield l) #[] #[], .pointer (some ⟨Bs, 0, none⟩)] W fun e W' => (∃ v, e = .returned v) ∧ J [] W' := by
  refine callsIn_of_wp Tryd.func61 rfl hf ?_ hro
  simp only [Tryd.ntmps61, List.size_toArray, List.length_cons, List.length_nil, Nat.reduceAdd, Nat.reduceSub, Array.replicate_succ, Array.replicate_zero, List.push_toArray, List.append_toArray, List.nil_append, List.cons_append]
  gi_wp2
  gi_loopw [3] (fun i wr => i = .int .i64 (-1) ∧ J [] wr) (fun _ _ => 0)
  case atStart => exact ⟨rfl, h0⟩
  case round =>
    obtain ⟨rfl, hJs⟩ := hrel
    gi_wp2
    go_end0
    exact ⟨⟨_, rfl⟩, hJs⟩

theorem back_in (F : Fence) (n : Nat) (hf : F.fn 39) (hro : F.round = none) (a : Option Addr) (len cap : Nat) (w : World) :
    CallsIn F n Tryd.prog 39 #[.slice a len cap] w fun e w' => e = .returned (.func (.func 61) #[] #[.pointer (some ⟨w.heap.size, 0, none⟩)]) ∧ w' = w.alloc (.cells #[.slice a len cap] 63) := by
  refine callsIn_of_wp Tryd.func39 rfl hf ?_ hro
  simp only [Tryd.ntmps39, List.size_toArray, List.length_cons, List.length_nil, Nat.reduceAdd, Nat.reduceSub, Array.replicate_succ, Array.replicate_zero, List.push_toArray, List.append_toArray, List.nil_append, List.cons_append]
  gi_wp2
  go_ret
  exact ⟨rfl, rfl⟩

/-- The slice value holds the inquiries, in a block below n₀; or there are none. -/
def HoldsQ (n₀ : Nat) (W : World) (sv : Value) (qs : List IQ) : Prop :=
  (∃ A cap, sv = .slice A 0 cap ∧ qs = []) ∨ ∃ b cap, sv = .slice (some ⟨b, 0, none⟩) qs.length cap ∧ b < n₀ ∧ ∀ k (hk : k < qs.length) j, j < 16 → W.cell? ⟨b, k * 16 + j, none⟩ = (qs[k]).vals[j]?
theorem HoldsQ.below {n₀ : Nat} {A B : World} (h : Below n₀ A B) {sv : Value} {zs : List IQ} : HoldsQ n₀ A sv zs → HoldsQ n₀ B sv zs
  | .inl e => .inl e
  | .inr ⟨b, cap, e, hb, hc⟩ => .inr ⟨b, cap, e, hb, fun k hk j hj => (h.cell (p := ⟨b, k * 16 + j, none⟩) hb).trans (hc k hk j hj)⟩

theorem HoldsQ.up {n₀ n₁ : Nat} {A B : World} {sv : Value} {zs : List IQ} (hI : HoldsQ n₀ A sv zs) (h : Below n₀ A B) (hn : n₀ ≤ n₁ := by omega) : HoldsQ n₁ B sv zs := by
  rcases hI.below h with h | ⟨b, cap, e, hb, hc⟩
  · exact .inl h
  · exact .inr ⟨b, cap, e, Nat.lt_of_lt_of_le hb hn, hc⟩

theorem back_stops (F : Fence) (n : Nat) (hf : F.fn 61) (hro : F.round = none) (hn : 1 ≤ n) (Bs n₀ : Nat) (sv : Value) (qs : List IQ) (h99 : qs.length ≤ 99) (w : World) (hBs : Bs < n₀) (hn₀ : n₀ ≤ w.heap.size)
    (hc : w.cell? ⟨Bs, 0, none⟩ = some sv) (hI : HoldsQ n₀ w sv qs) :
    SeqStopsK F n Tryd.prog 61 #[.pointer (some ⟨Bs, 0, none⟩)] bkEnc (Below n₀) (fun ys => ys.map Prod.snd = qs.reverse) (fun pre => ∃ k, k ≤ qs.length ∧ pre.map Prod.snd = qs.reverse.take k) qs.length w := fun l J Jx W hW _ _ hY h0 => by
  have hc' := (hW.cell (p := ⟨Bs, 0, none⟩) (by show Bs < _; omega)).trans hc
  rcases hI.below (hW.mono hn₀) with ⟨A, cap, rfl, rfl⟩ | ⟨b, cap, rfl, hb, hcs⟩
  · exact (back1_nil_in F n hf hro l Bs cap A J W hc' h0).mono fun e W' ⟨he, hj⟩ => ⟨he, .inl ⟨_, rfl, hj⟩⟩
  · exact back1_in F n hf hro hn l Bs n₀ b cap qs h99 hb hBs J Jx hY W hc' hcs h0

/-- The line of the last inquiry that has one. -/
def lineR (l : List IQ) : Option ByteArray := (l.reverse.find? (fun q => !q.line.data.toList.isEmpty)).map IQ.line
def LinePost (l : List IQ) (w : World) (e : Ending) (w' : World) : Prop := e = .returned (.tuple #[.string ((lineR l).getD ⟨#[]⟩), .bool (lineR l).isSome]) ∧ Below w.heap.size w w'

def AllEmpty (l : List IQ) : Prop := ∀ q ∈ l, q.line.data.toList = []
theorem lineR_none {l : List IQ} (h : AllEmpty l.reverse) : lineR l = none := by
  unfold lineR
  rw [List.find?_eq_none.2 (fun q hq => by simp [h q hq])]; rfl
theorem lineR_some {l : List IQ} {k : Nat} {pre : List IQ} {q : IQ} (h : pre ++ [q] = l.reverse.take k) (he : AllEmpty pre) (hq : ¬ q.line.data.toList = []) : lineR l = some q.line := by
  unfold lineR
  have e : l.reverse = pre ++ (q :: l.reverse.drop k) := by
    have e1 := (List.take_append_drop k l.reverse).symm
    rw [← h] at e1
    rw [List.append_assoc] at e1
    exact e1
  rw [e, List.find?_append, List.find?_eq_none.2 (fun q hq => by simp [he q hq]), List.find?_cons_of_pos (by simpa using hq)]
  rfl

/-- A block of the call's own, whole, kept by what turns no cells. -/
theorem blk_own {β : Type} (B : Nat) (f : β → Obj) (hf : ∀ s, (f s).isCells = true) : Own (fun s W => W.heap[B]? = some (f s)) := fun s X Y row hs hg hrow =>
  (hg.block B (Array.getElem?_eq_some_iff.1 hs).1 (fun e' => by obtain ⟨o, ho, hc⟩ := hrow B e'.symm; rw [hs] at ho; cases ho; rw [hf] at hc; cases hc)).trans hs

theorem World.size_lt_of {W : World} {B : Nat} {o : Obj} (h : W.heap[B]? = some o) : B < W.heap.size := (Array.getElem?_eq_some_iff.1 h).1

theorem line_results (W : World) (B D' : Nat) (s : ByteArray) (b : Bool) (o : Obj) (h0 : W.heap[B]? = some (.cells #[.string s] 9 (0, 0))) (h1 : W.heap[B + 1]? = some (.cells #[.bool b] 4 (0, 0))) (hD : B + 1 < D') (tmps : Array Value)
    (t2 : tmps.getD 2 undef = .pointer (some ⟨B, 0, none⟩)) (t3 : tmps.getD 3 undef = .pointer (some ⟨B + 1, 0, none⟩)) :
    (results Tryd.f18 tmps).run Tryd.prog (W.putObj D' o) = .ok (.tuple #[.string s, .bool b]) (W.putObj D' o) := by
  have e0 : (W.putObj D' o).cell? ⟨B, 0, none⟩ = some (.string s) := by
    rw [cell_of_row _ _ _ _ _ _ ((World.putObj_heap_other (by omega)).trans h0)]; rfl
  have e1 : (W.putObj D' o).cell? ⟨B + 1, 0, none⟩ = some (.bool b) := by
    rw [cell_of_row _ _ _ _ _ _ ((World.putObj_heap_other (by omega)).trans h1)]; rfl
  generalize W.putObj D' o = V at *
  have t2' : tmps[2]?.getD undef = .pointer (some ⟨B, 0, none⟩) := by simpa using t2
  have t3' : tmps[3]?.getD undef = .pointer (some ⟨B + 1, 0, none⟩) := by simpa using t3
  simp [results, Tryd.results18, go_sem, t2', t3', e0, e1]

set_option maxRecDepth 100000 in
set_option maxHeartbeats 4000000 in
theorem Line_c (base D : Nat) (d : DeskV) (lv fv : Value) (w : World) (h : DeskI w base D d lv fv) :
    Calls Tryd.prog 18 #[.pointer (some ⟨D, 0, none⟩)] w (LinePost d.list w) := by
  refine (callsIn_wide (n := 6)).1 ?_
  have hI : HoldsQ w.heap.size w lv d.list := by
    obtain ⟨A, cap, rfl, hrow⟩ := h.row
    by_cases h0 : d.list.length = 0
    · exact .inl ⟨A, cap, by rw [h0], List.eq_nil_of_length_eq_zero h0⟩
    · obtain ⟨g, rfl, hc⟩ := hrow (by omega)
      exact .inr ⟨g, cap, rfl, World.block_lt_of_cell? w _ ((hc 0 (by omega) 0 (by omega)).trans rfl), hc⟩
  obtain ⟨A, cap, rfl, -⟩ := h.row
  have c19 : w.cell? ⟨D, 19, none⟩ = some (.slice A d.list.length cap) := h.cell 19
  have hf := h.few
  have hD := h.lt.1
  have hI := Lib.hid hI
  clear h
  have hro : Fence.wide.round = none := rfl
  refine callsIn_of_wp_marks Tryd.func18 rfl trivial ?_ hro
  simp only [Tryd.ntmps18, List.size_toArray, List.length_cons, List.length_nil, Nat.reduceAdd, Nat.reduceSub, Array.replicate_succ, Array.replicate_zero, List.push_toArray, List.append_toArray, List.nil_append, List.cons_append]
  gi_wp2_with fail
  refine ⟨trivial, ?_⟩
  refine (back_in Fence.wide _ trivial hro _ _ _ _).mono ?_; rintro e w' ⟨rfl, rfl⟩
  gi_wp2_with fail
  have hB0 : Below w.heap.size w (((w.alloc (.cells #[.string ⟨#[]⟩] 9)).alloc (.cells #[.bool false] 4)).alloc (.cells #[.slice A d.list.length cap] 63)) := (((Below.refl _ w).alloc (Nat.le_refl _) _).alloc (by simp) _).alloc (by simp; omega) _
  have bB := Boxed.new ((w.alloc (.cells #[.string ⟨#[]⟩] 9)).alloc (.cells #[.bool false] 4)) 63 (.slice A d.list.length cap)
  have b0 : (((w.alloc (.cells #[.string ⟨#[]⟩] 9)).alloc (.cells #[.bool false] 4)).alloc (.cells #[.slice A d.list.length cap] 63)).heap[w.heap.size]? = some (.cells #[.string ⟨#[]⟩] 9 (0, 0)) := ((Boxed.new w 9 (.string ⟨#[]⟩)).alloc _).alloc _
  have b1 : (((w.alloc (.cells #[.string ⟨#[]⟩] 9)).alloc (.cells #[.bool false] 4)).alloc (.cells #[.slice A d.list.length cap] 63)).heap[w.heap.size + 1]? = some (.cells #[.bool false] 4 (0, 0)) := by
    have := (Boxed.new (w.alloc (.cells #[.string ⟨#[]⟩] 9)) 4 (.bool false)).alloc (.cells #[.slice A d.list.length cap] 63)
    simpa [Boxed] using this
  simp only [World.size_alloc] at bB
  have hsz : (((w.alloc (.cells #[.string ⟨#[]⟩] 9)).alloc (.cells #[.bool false] 4)).alloc (.cells #[.slice A d.list.length cap] 63)).heap.size = w.heap.size + 3 := by simp
  obtain ⟨W0, hW0⟩ : ∃ W0, (((w.alloc (.cells #[.string ⟨#[]⟩] 9)).alloc (.cells #[.bool false] 4)).alloc (.cells #[.slice A d.list.length cap] 63)) = W0 := ⟨_, rfl⟩
  rw [hW0] at bB b0 b1 hB0 hsz ⊢
  clear hW0
  refine wpIn_rangeFunc_ownH hro (by omega) (gf := 61) (lb := #[.pointer (some ⟨w.heap.size + 1 + 1, 0, none⟩)]) rfl trivial (enters_of Tryd.func61 (by kernel_rfl) rfl)
    (back_stops Fence.wide 5 trivial hro (by omega) (w.heap.size + 1 + 1) (w.heap.size + 3) _ d.list hf W0 (by omega) (by omega) bB.cell (hI.out.up hB0)) belowK_t (belowK_b (by omega)) (Below.refl _ _) (fun _ => rfl)
    (fun pre W => (((W.heap[w.heap.size]? = some (.cells #[.string ⟨#[]⟩] 9 (0, 0)) ∧ W.heap[w.heap.size + 1]? = some (.cells #[.bool false] 4 (0, 0))) ∧ Below w.heap.size w W) ∧ AllEmpty (pre.map Prod.snd)) ∧ W.heap[w.heap.size + 1 + 1]? = some (.cells #[.slice A d.list.length cap] 63 (0, 0)))
    (fun c pre W => ((∃ pre' q, (c = Code.ret ∧ pre.map Prod.snd = pre' ++ [q] ∧ AllEmpty pre' ∧ ¬ q.line.data.toList = []) ∧ W.heap[w.heap.size]? = some (.cells #[.string q.line] 9 (0, 0)) ∧ W.heap[w.heap.size + 1]? = some (.cells #[.bool true] 4 (0, 0))) ∧ Below w.heap.size w W))
    (OwnFrom.and (OwnFrom.and (OwnFrom.and (OwnFrom.and (Own.from (blk_own _ (fun _ => _) (fun _ => rfl)) _) (Own.from (blk_own _ (fun _ => _) (fun _ => rfl)) _)) (ownFrom_below (Nat.le_refl _) (by omega))) (fun s X Y row hs hg hr => hs)) (Own.from (blk_own _ (fun _ => _) (fun _ => rfl)) _))
    (fun c => OwnFrom.and (fun s X Y row hs hg hr => by
      obtain ⟨pre', q, e, h2, h3⟩ := hs
      exact ⟨pre', q, e, blk_own _ (fun _ : Unit => _) (fun _ => rfl) () X Y row h2 hg (fun r e => (hr r e).2), blk_own _ (fun _ : Unit => _) (fun _ => rfl) () X Y row h3 hg (fun r e => (hr r e).2)⟩) (ownFrom_below (Nat.le_refl _) (by omega)))
    ⟨⟨⟨⟨b0, b1⟩, hB0⟩, fun q hq => by cases hq⟩, bB⟩
    (fun x a' W => ∃ Bx, w.heap.size + 1 < Bx ∧ W.heap[Bx]? = some (.cells x.2.vals.toArray 68 (0, 0)) ∧ a' = { tmps := #[.pointer (some ⟨D, 0, none⟩), undef, .pointer (some ⟨w.heap.size, 0, none⟩), .pointer (some ⟨w.heap.size + 1, 0, none⟩), undef, .pointer (some ⟨Bx, 0, none⟩), .pointer (some ⟨D, 0, none⟩), .pointer (some ⟨D, 0, none⟩), .pointer (some ⟨D, 19, none⟩), .slice A d.list.length cap, .func (.func 61) #[] #[.pointer (some ⟨w.heap.size + 1 + 1, 0, none⟩)], .int .i64 x.1, qAgg x.2, undef, undef, undef, undef, undef], defers := [] })
    (fun x a' _ X Y row hs hg hr => by obtain ⟨Bx, h1, h2, h3⟩ := hs; exact ⟨Bx, h1, blk_own Bx (fun _ : Unit => _) (fun _ => rfl) () X Y row h2 hg (fun r e => (hr r e).2), h3⟩)
    ?assign ?body ?done ?stop
  case assign =>
    rintro l pre ⟨i, q⟩ W K ⟨⟨⟨⟨h0, h1⟩, hB1⟩, hE⟩, h2⟩ hK
    have hl2 := World.size_lt_of h2
    have hl1 := World.size_lt_of h1
    have hl0 := World.size_lt_of h0
    dsimp only [bkEnc, qAgg]
    gi_wp2
    exact hK _ _ ((KeepsOthers.alloc _ _).from _) ((Below.refl _ W).alloc (by omega) _) ⟨⟨⟨⟨(Below.heap_alloc _ _ _ hl0).trans h0, (Below.heap_alloc _ _ _ hl1).trans h1⟩, hB1.alloc hB1.size _⟩, hE⟩, (Below.heap_alloc _ _ _ hl2).trans h2⟩ ⟨W.heap.size, hl1, heap_alloc_new W _, rfl⟩
  case body =>
    rintro l pre ⟨i, q⟩ a' W hl ⟨r, hr⟩ ⟨⟨⟨⟨h0, h1⟩, hB1⟩, hE⟩, h2⟩ ⟨Bx, hBx, bX, rfl⟩ hlt
    have c15 : W.cell? ⟨Bx, 15, none⟩ = some (.string q.line) := by rw [cell_of_row _ _ _ _ _ _ bX]; rfl
    have cA : W.cell? ⟨w.heap.size, 0, none⟩ = some (.string ⟨#[]⟩) := by rw [cell_of_row _ _ _ _ _ _ h0]; rfl
    have cB : W.cell? ⟨w.heap.size + 1, 0, none⟩ = some (.bool false) := by rw [cell_of_row _ _ _ _ _ _ h1]; rfl
    have fA : W.frozen? ⟨w.heap.size, 0, none⟩ = false := frozen_block h0
    have fB : W.frozen? ⟨w.heap.size + 1, 0, none⟩ = false := frozen_block h1
    by_cases hq : q.line.data.toList = []
    · have hq2 : q.line.toList = [] := by rw [str_toList]; exact hq
      have HI := Lib.hid (And.intro (And.intro (And.intro (And.intro h0 h1) hB1) hE) h2)
      have hq := Lib.hid hq
      clear h0 h1 hB1 hE bX h2
      gi_wp2
      exact ⟨KeepsFrom.refl _ _, Below.refl _ _, ⟨HI.out.1.1, fun x hx => by
        rw [List.map_append] at hx
        rcases List.mem_append.1 hx with hx | hx
        · exact HI.out.1.2 x hx
        · simp at hx; rw [hx]; exact hq.out⟩, HI.out.2⟩
    · have hq2 : ¬ q.line.toList = [] := by rw [str_toList]; exact hq
      have hq3 : q.line.toList.isEmpty = false := by rw [List.isEmpty_eq_false_iff]; exact hq2
      have hS := Lib.hid (And.intro (heap_setCell_same W w.heap.size 0 _ _ (.string q.line) h0) (heap_setCell_other W ⟨w.heap.size, 0, none⟩ (w.heap.size + 1) (.string q.line) (by show w.heap.size + 1 ≠ w.heap.size; omega)))
      have h1 := Lib.hid h1
      have hB1 := Lib.hid hB1
      have hE := Lib.hid hE
      have hq := Lib.hid hq
      clear h0 bX
      gi_wp2
      refine ⟨((KeepsOthers.setCell _ _ _).trans (KeepsOthers.setCell _ _ _)).from _, ⟨pre.map Prod.snd, q, ⟨rfl, by rw [List.map_append]; rfl, hE.out, hq.out⟩, ?_, ?_⟩, (hB1.out.setCell (p := ⟨w.heap.size, 0, none⟩) (Nat.le_refl _) _).setCell (p := ⟨w.heap.size + 1, 0, none⟩) (by show w.heap.size ≤ w.heap.size + 1; omega) _⟩
      · exact (heap_setCell_other _ _ _ _ (by show w.heap.size ≠ w.heap.size + 1; omega)).trans hS.out.1
      · exact heap_setCell_same _ _ _ _ _ _ (hS.out.2.trans h1.out)
  case done =>
    rintro D' ys W hD' hS ⟨⟨⟨⟨h0, h1⟩, hB1⟩, hE⟩, h2⟩ hK
    have cA : W.cell? ⟨w.heap.size, 0, none⟩ = some (.string ⟨#[]⟩) := by rw [cell_of_row _ _ _ _ _ _ h0]; rfl
    have cB : W.cell? ⟨w.heap.size + 1, 0, none⟩ = some (.bool false) := by rw [cell_of_row _ _ _ _ _ _ h1]; rfl
    have fA : W.frozen? ⟨w.heap.size, 0, none⟩ = false := frozen_block h0
    have fB : W.frozen? ⟨w.heap.size + 1, 0, none⟩ = false := frozen_block h1
    have hN := Lib.hid (lineR_none (l := d.list) (by rw [← hS]; exact hE))
    have hK2 : ((W.setCell ⟨w.heap.size, 0, none⟩ (.string ⟨#[]⟩)).setCell ⟨w.heap.size + 1, 0, none⟩ (.bool false)).heap[D']? = some (.deferred (some [])) :=
      (heap_setCell_other _ _ _ _ (by show D' ≠ w.heap.size + 1; omega)).trans ((heap_setCell_other _ _ _ _ (by show D' ≠ w.heap.size; omega)).trans hK)
    have hB2 := Lib.hid ((hB1.setCell (p := ⟨w.heap.size, 0, none⟩) (Nat.le_refl _) (.string ⟨#[]⟩)).setCell (p := ⟨w.heap.size + 1, 0, none⟩) (by show w.heap.size ≤ w.heap.size + 1; omega) (.bool false))
    have q0 : ((W.setCell ⟨w.heap.size, 0, none⟩ (.string ⟨#[]⟩)).setCell ⟨w.heap.size + 1, 0, none⟩ (.bool false)).heap[w.heap.size]? = some (.cells #[.string ⟨#[]⟩] 9 (0, 0)) :=
      (heap_setCell_other _ _ _ _ (by show w.heap.size ≠ w.heap.size + 1; omega)).trans (heap_setCell_same _ _ _ _ _ _ h0)
    have q1 : ((W.setCell ⟨w.heap.size, 0, none⟩ (.string ⟨#[]⟩)).setCell ⟨w.heap.size + 1, 0, none⟩ (.bool false)).heap[w.heap.size + 1]? = some (.cells #[.bool false] 4 (0, 0)) :=
      heap_setCell_same _ _ _ _ _ _ ((heap_setCell_other _ _ _ _ (by show w.heap.size + 1 ≠ w.heap.size; omega)).trans h1)
    have HR := Lib.hid (line_results _ w.heap.size D' _ _ (.deferred none) q0 q1 (by omega))
    have hK2 := Lib.hid hK2
    clear hS hE h0 h1 hB1 h2 q0 q1
    gi_wp2
    refine ⟨by simp, .inl ⟨_, _, rfl, run_takeDeferred hK2.out, ?_⟩⟩
    refine ⟨.tuple #[.string ⟨#[]⟩, .bool false], ?_, ⟨?_, ?_⟩⟩
    · exact HR.out _ rfl rfl
    · rw [hN.out]; rfl
    · exact hB2.out.trans (belowK_b (w := w) (Nat.le_refl _) _ D' _ _ (by omega) hK2.out rfl rfl)
  case stop =>
    rintro D' c pre W hD' ⟨k, hk, hS⟩ ⟨⟨pre', q, ⟨rfl, e1, e2, e3⟩, h0, h1⟩, hB1⟩ hK
    have hN := Lib.hid (lineR_some (l := d.list) (k := k) (by rw [← e1]; exact hS) e2 e3)
    have HR := Lib.hid (line_results _ w.heap.size D' _ _ (.deferred none) h0 h1 (by omega))
    have hK2 := Lib.hid hK
    have hB2 := Lib.hid hB1
    clear hS e1 e2 e3 h0 h1 hB1 hK
    gi_wp2
    refine ⟨by simp, .inl ⟨_, _, rfl, run_takeDeferred hK2.out, ?_⟩⟩
    refine ⟨.tuple #[.string q.line, .bool true], ?_, ⟨?_, ?_⟩⟩
    · exact HR.out _ rfl rfl
    · rw [hN.out]; rfl
    · exact hB2.out.trans (belowK_b (w := w) (Nat.le_refl _) _ D' _ _ (by omega) hK2.out rfl rfl)

end Go.Proofs.YtbbngcacfdgahaaDoor
