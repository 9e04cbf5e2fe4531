/- Chapter 46: the contracts of awake, desk and do. -/
import Derived.Test.YtbbngcacfdgahaaDoorInP
namespace Go.Proofs.YtbbngcacfdgahaaDoor
open Go.RowKit
set_option linter.unusedVariables false
set_option linter.unusedSimpArgs false

def newD (p s : ByteArray) (bib limit fee : Int) : DeskV := { about := { phase := p, segment := s, bib := bib }, limit := limit, fee := fee }
theorem newDeskI (w : World) (p s : ByteArray) (bib limit fee : Int) : DeskI (w.alloc (.cells (deskCells p s bib limit fee) 65)) w.heap.size w.heap.size (newD p s bib limit fee) (.slice none 0 0) (.slice none 0 0) :=
  ⟨Nat.le_refl _, heap_alloc_new w _, World.ownsRow_nil _ _ _ _, World.ownsRow_nil _ _ _ _, ⟨by simp [Value.ownBlock], by simp [Value.ownBlock], by simp [Value.ownBlock]⟩, Nat.zero_le _⟩

def strFinal : ByteArray := ⟨#[102, 105, 110, 97, 108]⟩
def strFree : ByteArray := ⟨#[102, 114, 101, 101]⟩
def strJump : ByteArray := ⟨#[106, 117, 109, 112]⟩
def str2A : ByteArray := ⟨#[50, 65]⟩
def dA0 : DeskV := newD strFinal strFree 7 300 250000
def dA1 : DeskV := { dA0 with out := true, since := 1000, time := 1000 }
def fA : FactV := { kind := 10, rev := 1, phase := strFinal, segment := strFree, bib := 7, index := 1, value := 1300, text := strJump }
def dA2 : DeskV := { dA1 with time := 1300, list := [{ filing := fA }], facts := [fA] }
def gA : FactV := { kind := 11, rev := 1, phase := strFinal, segment := strFree, bib := 7, index := 1, value := 1, text := str2A }
def dA3 : DeskV := { dA2 with time := 1310, list := [{ filing := fA, state := 2, line := str2A }], facts := [fA, gA] }
theorem aw0 : newE strFinal strFree 7 300 250000 = 0 := by rfl
theorem aw1 : fileV dA0 strJump 900 = (dA0, 0, 7) := by rfl
theorem aw2 : publishV dA0 1000 = (dA1, 0) := by rfl
theorem aw3 : fileV dA1 strJump 1300 = (dA2, 1, 0) := by rfl
theorem aw4 : fileV dA2 strJump 1300 = (dA2, 0, 9) := by rfl
theorem aw5 : ruleV dA2 1 true str2A 1310 = (dA3, 0) := by rfl
theorem aw6 : stateR dA3 1 = .tuple #[.int .i64 2, .int .i64 0] := by rfl
theorem aw7 : lineR dA3.list = some str2A := by rfl
theorem aw8 : pendingB dA3 = false := by rfl
theorem aw9 : feesV dA3 dA3.list.length = 0 := by rfl

set_option maxHeartbeats 4000000 in
set_option maxRecDepth 100000 in
theorem awake_c (w : World) (ht : Tabs w) : Calls Tryd.prog 9 #[] w fun e w' => e = .returned (.bool true) ∧ Below w.heap.size w w' := by
  have HT := Lib.hid ht
  clear ht
  have e2A : str2A.toList = [50, 65] := by rw [str_toList]; rfl
  have e2F : dA3.facts.length = 2 := rfl
  go_enter Tryd.func9, Tryd.ntmps9
  go_wp2_with fail
  refine (INew_c strFinal strFree 7 300 250000 w (by decide) (by decide)).mono ?_
  rintro e w' (⟨h, -, -⟩ | ⟨-, rfl, rfl⟩)
  · exact absurd aw0 h
  have HD0 := newDeskI w strFinal strFree 7 300 250000
  have HB0 : Below w.heap.size w (w.alloc (.cells (deskCells strFinal strFree 7 300 250000) 65)) := (Below.refl _ _).alloc (Nat.le_refl _) _
  generalize w.alloc (.cells (deskCells strFinal strFree 7 300 250000) 65) = w1 at *
  have HD0 := Lib.hid HD0
  have HB0 := Lib.hid HB0
  have HT1 := Lib.hid (HT.out.below HB0.out)
  have C := File_c w.heap.size w.heap.size dA0 _ _ strJump 900 w1 HD0.out (by decide) (by decide) HT1.out (by decide) (by decide) (by decide) (by decide)
  rw [aw1] at C
  have C := Lib.hid C
  go_wp2_with fail
  refine C.out.mono ?_
  rintro e w2 ⟨rfl, hb, lv2, fv2, hd, -⟩
  have HB2 := Lib.hid (HB0.out.trans hb.bel); have HD2 := Lib.hid hd; clear hb hd C
  have C := Publish_c w.heap.size w.heap.size dA0 _ _ 1000 w2 HD2.out
  rw [aw2] at C
  have C := Lib.hid C
  go_wp2_with fail
  refine C.out.mono ?_
  rintro e w3 ⟨rfl, hb, lv3, fv3, hd, -⟩
  have HB3 := Lib.hid (HB2.out.trans hb.bel); have HD3 := Lib.hid hd; clear hb hd C
  have HT3 := Lib.hid (HT.out.below HB3.out)
  have C := File_c w.heap.size w.heap.size dA1 _ _ strJump 1300 w3 HD3.out (by decide) (by decide) HT3.out (by decide) (by decide) (by decide) (by decide)
  rw [aw3] at C
  have C := Lib.hid C
  go_wp2_with fail
  refine C.out.mono ?_
  rintro e w4 ⟨rfl, hb, lv4, fv4, hd, -⟩
  have HB4 := Lib.hid (HB3.out.trans hb.bel); have HD4 := Lib.hid hd; clear hb hd C
  have HT4 := Lib.hid (HT.out.below HB4.out)
  have C := File_c w.heap.size w.heap.size dA2 _ _ strJump 1300 w4 HD4.out (by decide) (by decide) HT4.out (by decide) (by decide) (by decide) (by decide)
  rw [aw4] at C
  have C := Lib.hid C
  go_wp2_with fail
  refine C.out.mono ?_
  rintro e w5 ⟨rfl, hb, lv5, fv5, hd, -⟩
  have HB5 := Lib.hid (HB4.out.trans hb.bel); have HD5 := Lib.hid hd; clear hb hd C
  have C := Rule_c w.heap.size w.heap.size dA2 _ _ 1 1310 true str2A w5 HD5.out (by decide) (by decide)
  rw [aw5] at C
  have C := Lib.hid C
  go_wp2_with fail
  refine C.out.mono ?_
  rintro e w6 ⟨rfl, hb, lv6, fv6, hd, -⟩
  have HB6 := Lib.hid (HB5.out.trans hb.bel); have HD6 := Lib.hid hd; clear hb hd C
  go_wp2_with fail
  refine (State_c w.heap.size w.heap.size dA3 _ _ 1 w6 HD6.out).mono ?_
  rintro e w' ⟨rfl, rfl⟩
  rw [aw6]
  go_wp2_with fail
  refine (Line_c w.heap.size w.heap.size dA3 _ _ w6 HD6.out).mono ?_
  rintro e w7 ⟨rfl, hb⟩
  rw [aw7]
  have HB7 := Lib.hid (HB6.out.trans (hb.mono (HB6.out.size))); have HD7 := Lib.hid (HD6.out.ext hb); clear hb
  have CP := Lib.hid (Pending_c w.heap.size w.heap.size dA3 _ _ w7 HD7.out)
  go_wp2_with fail
  refine CP.out.mono ?_
  rintro e w' ⟨rfl, rfl⟩
  rw [aw8]
  go_wp2_with fail
  refine (Fees_c w.heap.size w.heap.size dA3 _ _ w7 HD7.out (by decide) (by decide)).mono ?_
  rintro e w8 ⟨rfl, hb⟩
  rw [aw9]
  have HB8 := Lib.hid (HB7.out.trans (hb.mono (HB7.out.size))); have HD8 := Lib.hid (HD7.out.ext hb); clear hb
  go_wp2_with fail
  refine (Facts_c w.heap.size w.heap.size dA3 _ _ w8 HD8.out (by decide)).mono ?_
  rintro e w9 ⟨v, rfl, ho, hb⟩
  have HB9 := Lib.hid (HB8.out.trans (hb.mono (HB8.out.size))); clear hb
  obtain ⟨g, c, rfl⟩ := Joins.ownsRow_form ho (by decide)
  clear ho
  go_wp2_with fail
  go_ret
  exact ⟨rfl, HB9.out⟩

/-- An operation of the statements. -/
structure OpV where
  kind : Int
  time : Int
  number : Int
  acc : Bool
  text : ByteArray
def OpV.vals (x : OpV) : List Value := [.int .i64 x.kind, .int .i64 x.time, .int .i64 x.number, .bool x.acc, .string x.text]
def doV (d : DeskV) (x : OpV) : DeskV × Int × Int :=
  if x.kind = 0 then ((publishV d x.time).1, 0, (publishV d x.time).2)
  else if x.kind = 1 then fileV d x.text x.time
  else if x.kind = 2 then ((withdrawV d x.number x.time).1, 0, (withdrawV d x.number x.time).2)
  else ((ruleV d x.number x.acc x.text x.time).1, 0, (ruleV d x.number x.acc x.text x.time).2)

/-- What the contracts of a desk ask. -/
structure DeskOk (d : DeskV) : Prop where
  since0 : 0 ≤ d.since
  since1 : d.since ≤ 1000000000
  limit0 : 0 ≤ d.limit
  limit1 : d.limit ≤ 1000000000
  fee0 : 0 ≤ d.fee
  fee1 : d.fee ≤ 1000000

set_option maxHeartbeats 4000000 in
set_option maxRecDepth 100000 in
theorem do_c (base D : Nat) (d : DeskV) (lv fv : Value) (k t n : Int) (acc : Bool) (s : ByteArray) (w : World) (h : DeskI w base D d lv fv) (hd : DeskOk d) (hfn : d.facts.length ≤ 300) (hs : s.size ≤ 9223372036854775807) (ht : Tabs w) :
    Calls Tryd.prog 16 #[.pointer (some ⟨D, 0, none⟩), .agg #[.int .i64 k, .int .i64 t, .int .i64 n, .bool acc, .string s]] w (FilePost w base D lv fv (doV d ⟨k, t, n, acc, s⟩)) := by
  have hE : Ext w (w.alloc (.cells #[.int .i64 k, .int .i64 t, .int .i64 n, .bool acc, .string s] 41)) := (Ext.refl w).alloc _
  have hsz := hE.size
  have hB := Kp.ext (base := base) (D := D) (lv := lv) (fv := fv) hE.below h.lt.2
  have HX := Lib.hid (h.ext hE)
  have HT := ht.below hE
  obtain ⟨o1, o2, o3, o4, o5, o6⟩ := hd
  have C1 := Lib.hid (Publish_c base D d lv fv t _ HX.out)
  have C2 := Lib.hid (File_c base D d lv fv s t _ HX.out hfn hs HT o1 o2 o3 o4)
  have C3 := Lib.hid (Withdraw_c base D d lv fv n t _ HX.out hfn)
  have C4 := Lib.hid (Rule_c base D d lv fv n t acc s _ HX.out hfn hs)
  have hB := Lib.hid hB
  have hV : doV d ⟨k, t, n, acc, s⟩ = if k = 0 then ((publishV d t).1, 0, (publishV d t).2) else if k = 1 then fileV d s t else if k = 2 then ((withdrawV d n t).1, 0, (withdrawV d n t).2) else ((ruleV d n acc s t).1, 0, (ruleV d n acc s t).2) := rfl
  have HV := Lib.hid hV
  clear hV h hE ht HT hfn
  by_cases h0 : k = 0
  · have HW := Lib.hid (HV.out.trans (if_pos h0))
    subst h0
    clear HV
    go_enter Tryd.func16, Tryd.ntmps16
    go_wp2_with fail
    refine C1.out.mono ?_
    rintro e w' ⟨rfl, hb, hd⟩
    have Hb := Lib.hid hb
    have Hd := Lib.hid hd
    clear hb hd
    go_wp2_with fail
    go_ret2
    rw [HW.out]
    obtain ⟨lv', fv', a1, a2, a3⟩ := Hd.out
    exact ⟨rfl, hB.out.trans Hb.out, lv', fv', a1, fun k hk => a2 k (Nat.lt_of_lt_of_le hk hsz), fun k hk => a3 k (Nat.lt_of_lt_of_le hk hsz)⟩
  by_cases h1 : k = 1
  · have HW := Lib.hid (HV.out.trans ((if_neg h0).trans (if_pos h1)))
    subst h1
    clear HV h0
    go_enter Tryd.func16, Tryd.ntmps16
    go_wp2_with fail
    refine C2.out.mono ?_
    rintro e w' ⟨rfl, hb, hd⟩
    have Hb := Lib.hid hb
    have Hd := Lib.hid hd
    clear hb hd
    go_wp2_with fail
    go_ret2
    rw [HW.out]
    obtain ⟨lv', fv', a1, a2, a3⟩ := Hd.out
    exact ⟨rfl, hB.out.trans Hb.out, lv', fv', a1, fun k hk => a2 k (Nat.lt_of_lt_of_le hk hsz), fun k hk => a3 k (Nat.lt_of_lt_of_le hk hsz)⟩
  by_cases h2 : k = 2
  · have HW := Lib.hid (HV.out.trans ((if_neg h0).trans ((if_neg h1).trans (if_pos h2))))
    subst h2
    clear HV h0 h1
    go_enter Tryd.func16, Tryd.ntmps16
    go_wp2_with fail
    refine C3.out.mono ?_
    rintro e w' ⟨rfl, hb, hd⟩
    have Hb := Lib.hid hb
    have Hd := Lib.hid hd
    clear hb hd
    go_wp2_with fail
    go_ret2
    rw [HW.out]
    obtain ⟨lv', fv', a1, a2, a3⟩ := Hd.out
    exact ⟨rfl, hB.out.trans Hb.out, lv', fv', a1, fun k hk => a2 k (Nat.lt_of_lt_of_le hk hsz), fun k hk => a3 k (Nat.lt_of_lt_of_le hk hsz)⟩
  · have HW := Lib.hid (HV.out.trans ((if_neg h0).trans ((if_neg h1).trans (if_neg h2))))
    have b0 : (k == 0) = false := by rw [beq_eq_false_iff_ne]; exact h0
    have b1 : (k == 1) = false := by rw [beq_eq_false_iff_ne]; exact h1
    have b2 : (k == 2) = false := by rw [beq_eq_false_iff_ne]; exact h2
    clear HV
    go_enter Tryd.func16, Tryd.ntmps16
    go_wp2_with fail
    refine C4.out.mono ?_
    rintro e w' ⟨rfl, hb, hd⟩
    have Hb := Lib.hid hb
    have Hd := Lib.hid hd
    clear hb hd
    go_wp2_with fail
    go_ret2
    rw [HW.out]
    obtain ⟨lv', fv', a1, a2, a3⟩ := Hd.out
    exact ⟨rfl, hB.out.trans Hb.out, lv', fv', a1, fun k hk => a2 k (Nat.lt_of_lt_of_le hk hsz), fun k hk => a3 k (Nat.lt_of_lt_of_le hk hsz)⟩

/-- What desk answers. -/
def DeskPost (limit fee : Int) (w : World) (e : Ending) (w' : World) : Prop :=
  (newE strFinal strFree 7 limit fee ≠ 0 ∧ e = .returned (.pointer none) ∧ w = w') ∨
  (newE strFinal strFree 7 limit fee = 0 ∧ e = .returned (.pointer (some ⟨w.heap.size, 0, none⟩)) ∧ w' = w.alloc (.cells (deskCells strFinal strFree 7 limit fee) 65))

set_option maxHeartbeats 4000000 in
theorem desk_c (limit fee : Int) (w : World) : Calls Tryd.prog 24 #[.int .i64 limit, .int .i64 fee] w (DeskPost limit fee w) := by
  have HN := Lib.hid (INew_c strFinal strFree 7 limit fee w (by decide) (by decide))
  go_enter Tryd.func24, Tryd.ntmps24
  go_wp2_with fail
  refine HN.out.mono ?_
  clear HN
  rintro e w' (⟨h, rfl, rfl⟩ | ⟨h, rfl, rfl⟩)
  · have b0 : (newE strFinal strFree 7 limit fee == 0) = false := by rw [beq_eq_false_iff_ne]; exact h
    have b1 : (newE strFinal strFree 7 limit fee != 0) = true := by rw [bne_iff_ne]; exact h
    have h := Lib.hid h
    go_wp2_with fail
    go_ret
    exact .inl ⟨h.out, rfl, rfl⟩
  · have h := Lib.hid h
    go_wp2_with fail
    go_ret
    exact .inr ⟨h.out, rfl, rfl⟩

end Go.Proofs.YtbbngcacfdgahaaDoor
