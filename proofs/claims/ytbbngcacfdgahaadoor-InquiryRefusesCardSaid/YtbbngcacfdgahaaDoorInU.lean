/- Chapter 46: two desks in one heap. -/
import Derived.Test.YtbbngcacfdgahaaDoorLawIOnce
namespace Go.Proofs.YtbbngcacfdgahaaDoor
open Go.RowKit
set_option linter.unusedVariables false
set_option linter.unusedSimpArgs false

theorem doV_err {d : DeskV} {x : OpV} (h : (doV d x).2.2 ≠ 0) : (doV d x).1 = d := by
  revert h
  unfold doV publishV fileV withdrawV ruleV
  (repeat' split) <;> simp

theorem DeskI.keep {w W : World} {base D : Nat} {d : DeskV} {lv fv : Value} (h : DeskI w base D d lv fv) (hs : ∀ g, (g = D ∨ lv.ownBlock = some g ∨ fv.ownBlock = some g) → W.heap[g]? = w.heap[g]?) : DeskI W base D d lv fv :=
  ⟨h.low, (hs D (.inl rfl)).trans h.blk, owns_same h.list fun g e => hs g (.inr (.inl e)), owns_same h.facts fun g e => hs g (.inr (.inr e)), h.apart, h.few⟩

/-- Two desks, whose blocks are apart. -/
structure Two (w : World) (base A B : Nat) (da db : DeskV) (la fa lb fb : Value) : Prop where
  a : DeskI w base A da la fa
  b : DeskI w base B db lb fb
  x : ∀ g, (g = A ∨ la.ownBlock = some g ∨ fa.ownBlock = some g) → (g = B ∨ lb.ownBlock = some g ∨ fb.ownBlock = some g) → False
theorem Two.symm {w : World} {base A B : Nat} {da db : DeskV} {la fa lb fb : Value} (h : Two w base A B da db la fa lb fb) : Two w base B A db da lb fb la fa :=
  ⟨h.b, h.a, fun g p q => h.x g q p⟩
theorem Two.left {w W : World} {base A B : Nat} {da db da' : DeskV} {la fa lb fb la' fa' : Value} (h : Two w base A B da db la fa lb fb) (hk : Kp base A la fa w W) (hd : DeskI W base A da' la' fa') (hr : Rows2 w.heap.size la fa la' fa') :
    Two W base A B da' db la' fa' lb fb := by
  have hlt : ∀ g, (g = B ∨ lb.ownBlock = some g ∨ fb.ownBlock = some g) → g < w.heap.size := by
    rintro g (rfl | e | e)
    · exact h.b.lt.1
    · exact (h.b.list.lt g e).2
    · exact (h.b.facts.lt g e).2
  refine ⟨hd, h.b.keep fun g hg => hk.same g (hlt g hg) (fun e => h.x g (.inl e) hg) (fun e => h.x g (.inr (.inl e)) hg) (fun e => h.x g (.inr (.inr e)) hg), ?_⟩
  rintro g (p | p | p) hg
  · exact h.x g (.inl p) hg
  · exact h.x g (.inr (.inl (hr.1 g (hlt g hg) p))) hg
  · exact h.x g (.inr (.inr (hr.2 g (hlt g hg) p))) hg
theorem Two.ext {w W : World} {base A B : Nat} {da db : DeskV} {la fa lb fb : Value} (h : Two w base A B da db la fa lb fb) (hE : Ext w W) : Two W base A B da db la fa lb fb := ⟨h.a.ext hE, h.b.ext hE, h.x⟩

end Go.Proofs.YtbbngcacfdgahaaDoor
