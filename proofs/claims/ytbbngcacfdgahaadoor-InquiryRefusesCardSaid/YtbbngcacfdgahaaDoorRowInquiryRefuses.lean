/- The law InquiryRefuses holds for every input: its row and its tied card, out of the walk in LawIRefuses. -/
import Derived.Test.YtbbngcacfdgahaaDoorRows
import Derived.Test.YtbbngcacfdgahaaDoorTie
import Derived.Test.YtbbngcacfdgahaaDoorCards
import Derived.Test.YtbbngcacfdgahaaDoorLawIRefuses
import Derived.Test.YtbbngcacfdgahaaDoorFd
import Derived.Test.YtbbngcacfdgahaaDoorInS
import Derived.WalkKit
import Derived.ProofKit
import Derived.OpenShut
import Derived.ShutString
import Derived.ChangeOld
import Derived.Below
import Derived.SizedLaws
import Derived.LaidMore
import Derived.Lay
import Derived.SevenTiedAt
import Derived.Stop.Joined
import Derived.Lib.LaidU8
import Derived.SliceStrings
namespace Go.Proofs.YtbbngcacfdgahaaDoor.inquiryRefuses
open Go.ChangeShapes Go.WideShapes Go.ChangeAt Go.RowKit
open Go.ChangeMaps (open_string shut_string)
set_option linter.unusedVariables false
theorem own : ownKnob Tryd.prog.godebug = none := by kernel_rfl
theorem laidOut : laidOutB Tryd.prog = true := by kernel_rfl
theorem asciiData : (Rows.laid_strings_asciiSpace : DataW Unit) = Lib.tabData .u8 Lib.asciiSpaceTab := by kernel_rfl
theorem tabs_of {W : World} (h : laidMetH Tryd.prog Rows.inquiryRefusesRow.laid W) : Tabs W := by
  rw [MakeChecks.laidMetH_plain _ _ _ (by kernel_rfl)] at h
  obtain ⟨g, t, cs, fuel, p, hg, ht, hv, hd⟩ := Lib.laidMet.reads h (n := "strings.asciiSpace") (d := Lib.tabData .u8 Lib.asciiSpaceTab) (by rw [← asciiData]; simp [Rows.inquiryRefusesRow])
  obtain rfl := Option.some.inj ((show Tryd.prog.globalNamed "strings.asciiSpace" = some 1 by kernel_rfl).symm.trans hg)
  obtain rfl := Option.some.inj ((show (Tryd.prog.globals[1]?).map (·.type) = some 99 by kernel_rfl).symm.trans ht)
  have e := Lib.cells_of_tab Tryd.underlying99 Tryd.underlying5 (by kernel_rfl) (by kernel_rfl) hd
  unfold Tabs Lib.TabIs
  rw [hv, ← e]
theorem flat2 : flatOf Tryd.prog 4 41 = some opK := by kernel_rfl
theorem fcells2 : Tryd.prog.cellsOf 41 = opK.length := by kernel_rfl
theorem fbytes2 : Tryd.prog.bytesOf 41 = 48 := by kernel_rfl
theorem flat3 : flatOf Tryd.prog 4 41 = some opK := by kernel_rfl
theorem fcells3 : Tryd.prog.cellsOf 41 = opK.length := by kernel_rfl
theorem flat4 : flatOf Tryd.prog 4 41 = some opK := by kernel_rfl
theorem fcells4 : Tryd.prog.cellsOf 41 = opK.length := by kernel_rfl
theorem fbytes4 : Tryd.prog.bytesOf 41 = 48 := by kernel_rfl
set_option maxRecDepth 100000 in
theorem lifted (os : Os) (started : os.Started) (H : Type) (enc : TypeId × Value → H) :
    ReturnsInHanded {} Tryd.checked os 7 .any (fun w args => (Rows.inquiryRefusesSpec.pre enc Tryd.prog Tryd.f7 Rows.inquiryRefusesRow.domain false w args ∧ laidMetH Tryd.prog Rows.inquiryRefusesRow.laid w) ∧ sizedMet enc Tryd.prog Tryd.f7 (OpenSpec.ofChange Rows.inquiryRefusesSpec) false w args)
      (Rows.inquiryRefusesSpec.post enc Tryd.prog Tryd.f7 false true false false) := by
  refine returnsInHanded_of_change_and (C := Tryd.checked) (X := fun w _ => laidMetH Tryd.prog Rows.inquiryRefusesRow.laid w) (fun _ _ _ hh h => h.of_heap hh) own started (by kernel_rfl) Tryd.func7
    (ChangeSpec.witness_shaped (enc := enc) (C := Tryd.checked) (os := os) (X := fun w _ => laidMetH Tryd.prog Rows.inquiryRefusesRow.laid w) false (World.laidAll Tryd.prog os Rows.inquiryRefusesRow.laid) #[.int .i64 0, .int .i64 0, .slice none 0 0, .agg #[.int .i64 0, .int .i64 0, .int .i64 0, .bool false, .string ByteArray.empty], .slice none 0 0] 8 (World.laidAll_os _ _ _)
      (World.shaped_of_ZipB (by kernel_rfl) (by kernel_rfl)) (by kernel_rfl) (by kernel_rfl) (by kernel_rfl)
      (by rw [MakeChecks.laidMetH_plain _ _ _ (by kernel_rfl)]; exact laidMet_laidAll _ (by kernel_rfl) (by kernel_rfl))) ?_
  intro W base args ds gs before hval0 hW hcnd hsz0 hL _
  have ht : Tabs W := tabs_of hL
  have hsz : (DataW.weightsEach Tryd.prog (Tryd.f7.params.toList ++ Rows.inquiryRefusesSpec.plain.varTypes Tryd.prog) (ds ++ gs)).all (· ≤ reachBytes) = true := hsz0
  have hval : ∀ (j : Nat) t v, Tryd.f7.params[j]? = some t → args[j]? = some v → Value.okWide Tryd.prog W .any base t v := hval0
  have hW' := hW
  obtain ⟨p, q, hA0, hV, rfl, hfz, hnd⟩ := hW
  have hA : DataW.TrodAll enc Tryd.prog W 0 (fun _ => true) true Tryd.f7.params.toList args.toList ds p := hA0
  rw [Tryd.params7] at hA hval hsz
  obtain ⟨v0, vs0, d0, ds0, p0, q0, hargs, rfl, rfl, h0, r0⟩ := trodAll_cons hA
  obtain ⟨v1, vs1, d1, ds1, p1, q1, rfl, rfl, rfl, h1, r1⟩ := trodAll_cons r0
  obtain ⟨v2, vs2, d2, ds2, p2, q2, rfl, rfl, rfl, h2, r2⟩ := trodAll_cons r1
  obtain ⟨v3, vs3, d3, ds3, p3, q3, rfl, rfl, rfl, h3, r3⟩ := trodAll_cons r2
  obtain ⟨v4, vs4, d4, ds4, p4, q4, rfl, rfl, rfl, h4, r4⟩ := trodAll_cons r3
  obtain ⟨rfl, rfl, rfl⟩ := trodAll_nil r4
  obtain rfl : args = #[v0, v1, v2, v3, v4] := by cases args; simp_all
  obtain ⟨rfl, rfl⟩ := trodVars_none hV
  obtain ⟨a0, rfl, rfl, rfl, w0⟩ := open_int Tryd.underlying3 (hval 0 3 v0 rfl rfl) h0
  obtain ⟨lo0, hi0⟩ : -9223372036854775808 ≤ a0 ∧ a0 ≤ 9223372036854775807 := bounds_i64 w0
  obtain ⟨a1, rfl, rfl, rfl, w1⟩ := open_int Tryd.underlying2 (hval 1 2 v1 rfl rfl) h1
  obtain ⟨lo1, hi1⟩ : -9223372036854775808 ≤ a1 ∧ a1 ≤ 9223372036854775807 := bounds_i64 w1
  have k2 := h2
  have lt2 : ∀ x ∈ p2, x.block < W.heap.size := by obtain ⟨m, hm⟩ := k2; exact DataW.trod_lt m _ _ _ hm
  obtain ⟨xss2, hk2, hl2, rk2⟩ := rows_of_arg (n := 4) (bytes := 48) Tryd.underlying32 flat2 fcells2 (by decide) fbytes2 hsz (j := 2) rfl rfl (hval 2 32 v2 rfl rfl) k2
  obtain ⟨ss2, rfl, hw2⟩ := ops_of hk2
  have R2 : RdOps W v2 ss2 := ⟨by rw [List.length_map] at hl2; omega, hw2, rk2⟩
  have k3 := h3
  have lt3 : ∀ x ∈ p3, x.block < W.heap.size := by obtain ⟨m, hm⟩ := k3; exact DataW.trod_lt m _ _ _ hm
  obtain ⟨xs3, rfl, hk3⟩ := agg_of_arg (n := 4) Tryd.underlying41 flat3 fcells3 (hval 3 41 v3 rfl rfl) k3
  obtain ⟨x3, rfl, hw3⟩ := op_of hk3
  have k4 := h4
  have lt4 : ∀ x ∈ p4, x.block < W.heap.size := by obtain ⟨m, hm⟩ := k4; exact DataW.trod_lt m _ _ _ hm
  obtain ⟨xss4, hk4, hl4, rk4⟩ := rows_of_arg (n := 4) (bytes := 48) Tryd.underlying32 flat4 fcells4 (by decide) fbytes4 hsz (j := 4) rfl rfl (hval 4 32 v4 rfl rfl) k4
  obtain ⟨ss4, rfl, hw4⟩ := ops_of hk4
  have R4 : RdOps W v4 ss4 := ⟨by rw [List.length_map] at hl4; omega, hw4, rk4⟩
  clear hA0 hval0 hsz0 hsz
  refine (InquiryRefuses_c a0 a1 v2 ss2 x3 v4 ss4 W ht R2 hw3 R4).mono fun e W' ⟨he, bel⟩ => ?_
  subst he
  exact ⟨_, rfl, _, _, _, [], _, [], hW', trodAll_mk1 (shut_bool Tryd.underlying4 _), (trodAll_cons_mk (shut_int Tryd.underlying3 w0) (trodAll_cons_mk (shut_int Tryd.underlying2 w1) (trodAll_cons_mk (Below.trod laidOut (by kernel_rfl) (of_decide_eq_true (by kernel_rfl)) k2 bel lt2) (trodAll_cons_mk (Below.trod laidOut (by kernel_rfl) (of_decide_eq_true (by kernel_rfl)) k3 bel lt3) (trodAll_cons_mk (Below.trod laidOut (by kernel_rfl) (of_decide_eq_true (by kernel_rfl)) k4 bel lt4) trodAll_mk0))))), rfl, bel.frame _, fun h => by cases h⟩
theorem over : Rows.inquiryRefusesRow.holds Tryd.pinned (OpenSpec.ofChange Rows.inquiryRefusesSpec) :=
  OpenClaim.holds_of_wide 7 Tryd.f7 rfl rfl rfl rfl rfl rfl rfl ⟨rfl, rfl, rfl, rfl, rfl⟩ rfl rfl rfl rfl rfl (by kernel_rfl) Tryd.func7 (by kernel_rfl)
    (of_decide_eq_true (by kernel_rfl)) (by unfold Func.isWrapper; first | (rw [if_pos (by decide +kernel)]; kernel_rfl) | (rw [if_neg (by decide +kernel)]; exact ⟨rfl, rfl⟩))
    (fun os started H enc _ => lifted os started H enc)
theorem proved : Rows.InquiryRefusesCardSaid :=
  Claim7.holds_tied_plain_at .later [] [.data, .listed, .data, .pinned] true (true, "ff55c7ab8f33dc4b587f60f22ea3ea4939b661213f04c7bfcd91e42144e93258") false over (fun _ h => by cases h) (by kernel_rfl) (fun _ h => by cases h) inquiryRefuses_row_tie rfl ⟨rfl, rfl⟩ (by kernel_rfl) rfl
    (fun f fn hf hfn => by
      obtain rfl : f = 7 := Option.some.inj ((show Tryd.prog.funcNamed "salchow/salchowlaw46.InquiryRefuses" = some 7 by kernel_rfl).symm.trans hf) |>.symm
      obtain rfl : fn = Tryd.f7 := (Option.some.inj (Tryd.func7.symm.trans hfn)).symm
      exact ⟨by kernel_rfl, fun j t ht => by
        rw [Tryd.params7] at ht
        have hm : t ∈ [3, 2, 32, 41, 32] := by simpa using Array.mem_of_getElem? ht
        have hall : ([3, 2, 32, 41, 32].all fun u => !Tryd.prog.wantsStandIn u) = true := by kernel_rfl
        exact (show Tryd.prog.wantsStandIn t = false by simpa using List.all_eq_true.1 hall t hm)⟩)
    (by kernel_rfl)
#print axioms proved
end Go.Proofs.YtbbngcacfdgahaaDoor.inquiryRefuses
namespace Go.Proofs.YtbbngcacfdgahaaDoor
theorem inquiryRefuses_holds : Rows.InquiryRefusesCardSaid := inquiryRefuses.proved
end Go.Proofs.YtbbngcacfdgahaaDoor
