/- Words for walks: a world that extends another one; facts that hold in whatever extension. -/
import Derived.Test.YtbbngcacfdgahaaDoorProg
import Derived.WalkKit
import Derived.WalkSpells
import Derived.WalkLawsBesides
import Derived.Lib.Hide
import Derived.Deep.QuietTactic
import Derived.BigQuiet
import Derived.Laws.Rows
import Derived.Below
import Derived.Maps.AppendAt
import Derived.RegionTactic
import Derived.Deep.RegionLaw
import Derived.Deep.DrawnRows
namespace Go.Proofs.YtbbngcacfdgahaaDoor
open Go.RowKit
set_option linter.unusedVariables false
set_option linter.unusedSimpArgs false

theorem retB {a b : Bool} (h : a = b) : Ending.returned (.bool a) = Ending.returned (.bool b) := by rw [h]
theorem retI {k : IntKind} {a b : Int} (h : a = b) : Ending.returned (.int k a) = Ending.returned (.int k b) := by rw [h]
/-- W has all that w has, and perhaps more. -/
def Ext (w W : World) : Prop := Below w.heap.size w W
theorem Ext.below {w W : World} (h : Ext w W) : Below w.heap.size w W := h
@[go_sem] theorem Ext.refl (w : World) : Ext w w := Below.refl _ _
@[go_sem] theorem Ext.alloc {w W : World} (o : Obj) (h : Ext w W) : Ext w (W.alloc o) := Below.alloc h h.size o
@[go_sem] theorem Ext.drew {w W : World} (h : Ext w W) : Ext w W.drew := Below.drew h
@[go_sem] theorem Ext.set {w W : World} (p : Addr) (v : Value) (h : Ext w W) (hp : w.heap.size ≤ p.block) : Ext w (W.setCell p v) := Below.setCell h hp v
theorem Ext.trans {a b c : World} (h : Ext a b) (k : Ext b c) : Ext a c := Below.trans h (Below.mono k h.size)
@[go_sem] theorem Ext.drewN {w W : World} (n : Nat) (h : Ext w W) : Ext w (W.drewN n) := ⟨h.os, h.tape, h.output, h.size, h.block⟩
theorem Ext.cell {w W : World} (h : Ext w W) {a : Addr} {v : Value} (hc : w.cell? a = some v) : W.cell? a = some v := (Below.cell h (World.block_lt_of_cell? w a hc)).trans hc
theorem Ext.blk {w W : World} (h : Ext w W) {b : Nat} {o : Obj} (hc : w.heap[b]? = some o) : W.heap[b]? = some o := (h.block b (Array.getElem?_eq_some_iff.1 hc).1).trans hc
theorem Ext.frozen {w W : World} (h : Ext w W) {a : Addr} (hb : a.block < w.heap.size) : W.frozen? a = w.frozen? a := Below.frozen h hb

theorem belowN {B : Nat} {w W : World} (n : Nat) (h : Below B w W) : Below B w (W.drewN n) := ⟨h.os, h.tape, h.output, h.size, h.block⟩

end Go.Proofs.YtbbngcacfdgahaaDoor
