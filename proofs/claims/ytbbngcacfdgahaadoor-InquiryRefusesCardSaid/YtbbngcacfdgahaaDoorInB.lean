/- Chapter 46: the values of a desk; the contracts of New and of the reference's New. -/
import Derived.Test.YtbbngcacfdgahaaDoorInA
namespace Go.Proofs.YtbbngcacfdgahaaDoor
open Go.RowKit
set_option linter.unusedVariables false
set_option linter.unusedSimpArgs false

/-- A fact. -/
structure FactV where
  kind : Int := 0
  rev : Int := 0
  gone : Bool := false
  phase : ByteArray := ⟨#[]⟩
  segment : ByteArray := ⟨#[]⟩
  bib : Int := 0
  panel : ByteArray := ⟨#[]⟩
  judge : ByteArray := ⟨#[]⟩
  index : Int := 0
  fed : ByteArray := ⟨#[]⟩
  name : ByteArray := ⟨#[]⟩
  value : Int := 0
  text : ByteArray := ⟨#[]⟩
  flag : Bool := false
def FactV.vals (f : FactV) : List Value := [.int .i64 f.kind, .int .i64 f.rev, .bool f.gone, .string f.phase, .string f.segment, .int .i64 f.bib, .string f.panel, .string f.judge, .int .i64 f.index, .string f.fed, .string f.name, .int .i64 f.value, .string f.text, .bool f.flag]

/-- The error of New. -/
def newE (p s : ByteArray) (bib limit fee : Int) : Int :=
  if nameS p.data.toList && nameS s.data.toList then
    (if (decide (1 ≤ bib) && decide (bib ≤ 9999)) && inTime limit && (decide (0 ≤ fee) && decide (fee ≤ 1000000)) then 0 else 1)
  else 3

set_option maxHeartbeats 2000000 in
theorem rINew_c (p s : ByteArray) (bib limit fee : Int) (w : World) (hp : p.size ≤ 9223372036854775807) (hs : s.size ≤ 9223372036854775807) :
    Calls Tryd.prog 11 #[.string p, .string s, .int .i64 bib, .int .i64 limit, .int .i64 fee] w fun e w' => e = .returned (.int .i64 (newE p s bib limit fee)) ∧ w = w' := by
  have N1 := Lib.hid (rName_c p w hp)
  have N2 := Lib.hid (rName_c s w hs)
  have N3 := Lib.hid (rBib_c bib w)
  unfold newE inTime
  generalize nameS p.data.toList = a at *
  generalize nameS s.data.toList = b at *
  generalize (decide (1 ≤ bib) && decide (bib ≤ 9999)) = c at *
  cases a
  · go_enter Tryd.func11, Tryd.ntmps11
    go_wp2_with fail
    refine N1.out.mono ?_; rintro e w' ⟨rfl, rfl⟩
    go_wp2_with fail
    go_ret
    exact ⟨rfl, rfl⟩
  cases b
  · go_enter Tryd.func11, Tryd.ntmps11
    go_wp2_with fail
    refine N1.out.mono ?_; rintro e w' ⟨rfl, rfl⟩
    go_wp2_with fail
    refine N2.out.mono ?_; rintro e w' ⟨rfl, rfl⟩
    go_wp2_with fail
    go_ret
    exact ⟨rfl, rfl⟩
  cases c
  · go_enter Tryd.func11, Tryd.ntmps11
    go_wp2_with fail
    refine N1.out.mono ?_; rintro e w' ⟨rfl, rfl⟩
    go_wp2_with fail
    refine N2.out.mono ?_; rintro e w' ⟨rfl, rfl⟩
    go_wp2_with fail
    refine N3.out.mono ?_; rintro e w' ⟨rfl, rfl⟩
    go_wp2_with fail
    go_ret
    exact ⟨rfl, rfl⟩
  by_cases h1 : 0 ≤ limit <;> by_cases h2 : limit ≤ 1000000000 <;> by_cases h3 : 0 ≤ fee <;> by_cases h4 : fee ≤ 1000000
  all_goals first
    | (exfalso; omega)
    | (go_enter Tryd.func11, Tryd.ntmps11
       go_wp2_with fail
       refine N1.out.mono ?_; rintro e w' ⟨rfl, rfl⟩
       go_wp2_with fail
       refine N2.out.mono ?_; rintro e w' ⟨rfl, rfl⟩
       go_wp2_with fail
       refine N3.out.mono ?_; rintro e w' ⟨rfl, rfl⟩
       go_wp2_with fail
       go_ret
       exact ⟨ret_int46 (by simp [h1, h2, h3, h4]), rfl⟩)

/-- What New makes. -/
def deskCells (p s : ByteArray) (bib limit fee : Int) : Array Value :=
  (({ phase := p, segment := s, bib := bib : FactV }).vals ++ ([.int .i64 limit, .int .i64 fee, .bool false, .int .i64 0, .int .i64 0, .slice none 0 0, .slice none 0 0] : List Value)).toArray
def NewPost (p s : ByteArray) (bib limit fee : Int) (w : World) (e : Ending) (w' : World) : Prop :=
  (newE p s bib limit fee ≠ 0 ∧ e = .returned (.tuple #[.pointer none, .int .i64 (newE p s bib limit fee)]) ∧ w = w') ∨
  (newE p s bib limit fee = 0 ∧ e = .returned (.tuple #[.pointer (some ⟨w.heap.size, 0, none⟩), .int .i64 0]) ∧ w' = w.alloc (.cells (deskCells p s bib limit fee) 65))

theorem newE_eq (p s : ByteArray) (bib limit fee : Int) : newE p s bib limit fee = if nameS p.data.toList && nameS s.data.toList then
    (if (decide (1 ≤ bib) && decide (bib ≤ 9999)) && inTime limit && (decide (0 ≤ fee) && decide (fee ≤ 1000000)) then 0 else 1)
  else 3 := rfl
theorem NewPost.bad {p s : ByteArray} {bib limit fee k : Int} {w : World} (h : newE p s bib limit fee = k) (hk : k ≠ 0) : NewPost p s bib limit fee w (.returned (.tuple #[.pointer none, .int .i64 k])) w :=
  .inl ⟨by rw [h]; exact hk, by rw [h], rfl⟩
theorem NewPost.ok {p s : ByteArray} {bib limit fee : Int} {w : World} (h : newE p s bib limit fee = 0) : NewPost p s bib limit fee w (.returned (.tuple #[.pointer (some ⟨w.heap.size, 0, none⟩), .int .i64 0])) (w.alloc (.cells (deskCells p s bib limit fee) 65)) :=
  .inr ⟨h, rfl, rfl⟩

set_option maxHeartbeats 2000000 in
theorem INew_c (p s : ByteArray) (bib limit fee : Int) (w : World) (hp : p.size ≤ 9223372036854775807) (hs : s.size ≤ 9223372036854775807) :
    Calls Tryd.prog 10 #[.string p, .string s, .int .i64 bib, .int .i64 limit, .int .i64 fee] w (NewPost p s bib limit fee w) := by
  have N1 := Lib.hid (Name_c p w hp)
  have N2 := Lib.hid (Name_c s w hs)
  have N3 := Lib.hid (Bib_c bib w)
  have N4 := Lib.hid (seconds_c limit w)
  have HE := Lib.hid (newE_eq p s bib limit fee)
  cases ha : nameS p.data.toList
  · rw [ha] at N1 HE
    have H0 := Lib.hid (HE.out.trans (by rfl : _ = (3 : Int))); clear ha HE
    go_enter Tryd.func10, Tryd.ntmps10
    go_wp2_with fail
    refine N1.out.mono ?_; rintro e w' ⟨rfl, rfl⟩
    go_wp2_with fail
    go_ret2
    exact NewPost.bad H0.out (by omega)
  cases hb : nameS s.data.toList
  · rw [ha] at N1 HE; rw [hb] at N2 HE
    have H0 := Lib.hid (HE.out.trans (by rfl : _ = (3 : Int))); clear ha hb HE
    go_enter Tryd.func10, Tryd.ntmps10
    go_wp2_with fail
    refine N1.out.mono ?_; rintro e w' ⟨rfl, rfl⟩
    go_wp2_with fail
    refine N2.out.mono ?_; rintro e w' ⟨rfl, rfl⟩
    go_wp2_with fail
    go_ret2
    exact NewPost.bad H0.out (by omega)
  cases hc : (decide (1 ≤ bib) && decide (bib ≤ 9999))
  · rw [ha] at N1 HE; rw [hb] at N2 HE; rw [hc] at N3 HE
    have H0 := Lib.hid (HE.out.trans (by rfl : _ = (1 : Int))); clear ha hb hc HE
    go_enter Tryd.func10, Tryd.ntmps10
    go_wp2_with fail
    refine N1.out.mono ?_; rintro e w' ⟨rfl, rfl⟩
    go_wp2_with fail
    refine N2.out.mono ?_; rintro e w' ⟨rfl, rfl⟩
    go_wp2_with fail
    refine N3.out.mono ?_; rintro e w' ⟨rfl, rfl⟩
    go_wp2_with fail
    go_ret2
    exact NewPost.bad H0.out (by omega)
  cases hd : inTime limit
  · rw [ha] at N1 HE; rw [hb] at N2 HE; rw [hc] at N3 HE; rw [hd] at N4 HE
    have H0 := Lib.hid (HE.out.trans (by rfl : _ = (1 : Int))); clear ha hb hc hd HE
    go_enter Tryd.func10, Tryd.ntmps10
    go_wp2_with fail
    refine N1.out.mono ?_; rintro e w' ⟨rfl, rfl⟩
    go_wp2_with fail
    refine N2.out.mono ?_; rintro e w' ⟨rfl, rfl⟩
    go_wp2_with fail
    refine N3.out.mono ?_; rintro e w' ⟨rfl, rfl⟩
    go_wp2_with fail
    refine N4.out.mono ?_; rintro e w' ⟨rfl, rfl⟩
    go_wp2_with fail
    go_ret2
    exact NewPost.bad H0.out (by omega)
  rw [ha] at N1 HE; rw [hb] at N2 HE; rw [hc] at N3 HE; rw [hd] at N4 HE
  clear ha hb hc hd
  by_cases h3 : 0 ≤ fee
  · by_cases h4 : fee ≤ 1000000
    · have H0 := Lib.hid (HE.out.trans (by simp [h3, h4] : _ = (0 : Int))); clear HE
      go_enter Tryd.func10, Tryd.ntmps10
      go_wp2_with fail
      refine N1.out.mono ?_; rintro e w' ⟨rfl, rfl⟩
      go_wp2_with fail
      refine N2.out.mono ?_; rintro e w' ⟨rfl, rfl⟩
      go_wp2_with fail
      refine N3.out.mono ?_; rintro e w' ⟨rfl, rfl⟩
      go_wp2_with fail
      refine N4.out.mono ?_; rintro e w' ⟨rfl, rfl⟩
      go_wp2_with fail
      go_ret2
      exact NewPost.ok H0.out
    · have H0 := Lib.hid (HE.out.trans (by simp [h3, h4] : _ = (1 : Int))); clear HE
      go_enter Tryd.func10, Tryd.ntmps10
      go_wp2_with fail
      refine N1.out.mono ?_; rintro e w' ⟨rfl, rfl⟩
      go_wp2_with fail
      refine N2.out.mono ?_; rintro e w' ⟨rfl, rfl⟩
      go_wp2_with fail
      refine N3.out.mono ?_; rintro e w' ⟨rfl, rfl⟩
      go_wp2_with fail
      refine N4.out.mono ?_; rintro e w' ⟨rfl, rfl⟩
      go_wp2_with fail
      go_ret2
      exact NewPost.bad H0.out (by omega)
  · have H0 := Lib.hid (HE.out.trans (by simp [h3] : _ = (1 : Int))); clear HE
    go_enter Tryd.func10, Tryd.ntmps10
    go_wp2_with fail
    refine N1.out.mono ?_; rintro e w' ⟨rfl, rfl⟩
    go_wp2_with fail
    refine N2.out.mono ?_; rintro e w' ⟨rfl, rfl⟩
    go_wp2_with fail
    refine N3.out.mono ?_; rintro e w' ⟨rfl, rfl⟩
    go_wp2_with fail
    refine N4.out.mono ?_; rintro e w' ⟨rfl, rfl⟩
    go_wp2_with fail
    go_ret2
    exact NewPost.bad H0.out (by omega)

end Go.Proofs.YtbbngcacfdgahaaDoor
