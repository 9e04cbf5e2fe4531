/- The contract of the law's own digits. -/
import Derived.Test.YtegjcmoneemhjaaDoorIdS
import Derived.Test.YtegjcmoneemhjaaDoorIdR
import Derived.Deep.RegionWith
namespace Go.Proofs.YtegjcmoneemhjaaDoor
open Go.RowKit
set_option linter.unusedVariables false
set_option linter.unusedSimpArgs false

theorem conv_one (w : World) (a : Addr) (cap : Nat) (x : Int) (hx : 0 ≤ x) (hx' : x < 256) (h : w.cell? a = some (.int .u8 x)) :
    (convert 51 9 (.slice (some a) 1 cap)).run Tryd.prog w = .ok (.string (ofL [UInt8.ofNat x.toNat])) w := by
  have := run_convert_bytes_back (P := Tryd.prog) w 51 9 5 a cap [UInt8.ofNat x.toNat] Tryd.underlying51 Tryd.underlying5 Tryd.underlying9 (by
    intro j hj
    obtain rfl : j = 0 := by simpa using hj
    have : a.add 0 = a := by simp [Addr.add]
    rw [this, h]
    simp
    omega)
  exact this

theorem wrap_byte (n : Int) (h : 0 ≤ n) (h' : n < 256) : IntKind.u8.wrap n = n := by simp [IntKind.wrap, IntKind.bits, IntKind.signed]; omega

theorem conv_new (w : World) (t : TypeId) (cap : Nat) (x : Int) (hx : 0 ≤ x) (hx' : x < 256) :
    (convert 51 9 (.slice (some ⟨w.heap.size, 0, none⟩) 1 cap)).run Tryd.prog (w.alloc (.cells #[.int .u8 x] t)) = .ok (.string (ofL [UInt8.ofNat x.toNat])) (w.alloc (.cells #[.int .u8 x] t)) :=
  conv_one _ _ cap x hx hx' (by simp)
theorem conv_newD (w : World) (t : TypeId) (cap : Nat) (x : Int) (hx : 0 ≤ x) (hx' : x < 256) :
    (convert 51 9 (.slice (some ⟨w.heap.size, 0, none⟩) 1 cap)).run Tryd.prog (w.alloc (.cells #[.int .u8 x] t)).drew = .ok (.string (ofL [UInt8.ofNat x.toNat])) (w.alloc (.cells #[.int .u8 x] t)).drew :=
  conv_one _ _ cap x hx hx' (by simp)
theorem digitsN_len : ∀ (k n : Nat), n < 10 ^ (k + 1) → (digitsN n).length ≤ k + 1 := by
  intro k
  induction k with
  | zero => intro n h; rw [digitsN_small (by simpa using h)]; simp
  | succ k ih =>
    intro n h
    by_cases hn : n < 10
    · rw [digitsN_small hn]; simp
    · rw [digitsN_big hn, List.length_append]
      have := ih (n / 10) (by rw [Nat.pow_succ] at h; omega)
      simp; omega
theorem ofL_app (a b : List UInt8) : ofL a ++ ofL b = ofL (a ++ b) := by
  apply ByteArray.ext; rw [ByteArray.data_append]; simp [ofL]
theorem u8n (n : Nat) : UInt8.ofNat (48 + (n : Int)).toNat = UInt8.ofNat (48 + n) := by congr 1

set_option maxHeartbeats 400000 in
set_option maxRecDepth 100000 in
theorem digits4_c : ∀ (k n : Nat) (w : World), n < k → n ≤ 1000000000 →
    Calls Tryd.prog 25 #[.int .i64 n] w fun e w' => e = .returned (.string (ofL (digitsN n))) ∧ Below w.heap.size w w' := by
  intro k
  induction k with
  | zero => intro n w h; omega
  | succ k ih =>
    intro n w h h9
    by_cases hn : n < 10
    · have HC := fun (W : World) => conv_new W 5 1 (48 + (n : Int)) (by omega) (by omega)
      have HD := Lib.hid (digitsN_small hn)
      go_enter Tryd.func25, Tryd.ntmps25
      go_wp2_with fail
      go_ret
      exact ⟨ret_str (by rw [HD.out]), (Below.refl _ _).alloc (Nat.le_refl _) _⟩
    · have E1 : IntKind.i64.wrap ((n : Int) / 10) = ((n / 10 : Nat) : Int) := by rw [wrap_small _ (by omega) (by omega)]; omega
      have E2 : IntKind.u8.wrap (IntKind.i64.wrap (48 + (n : Int).tmod 10)) = ((48 + n % 10 : Nat) : Int) := by
        rw [show (n : Int).tmod 10 = ((n % 10 : Nat) : Int) from by rw [Int.tmod_eq_emod_of_nonneg (by omega)]; omega, wrap_small _ (by omega) (by omega), wrap_byte _ (by omega) (by omega)]; omega
      have HC := fun (W : World) => conv_new W 5 1 ((48 + n % 10 : Nat) : Int) (by omega) (by omega)
      have HD := Lib.hid (digitsN_big hn)
      have HI := Lib.hid (fun W => ih (n / 10) W (by omega) (by omega))
      have hlen : (digitsN (n / 10)).length ≤ 10 := digitsN_len 9 _ (by omega)
      have HS : (ofL (digitsN (n / 10))).size + (ofL [UInt8.ofNat ((48 + n % 10 : Nat) : Int).toNat]).size ≤ 9223372036854775807 := by rw [ofL_size, ofL_size]; simp; omega
      rw [← E2] at HS
      rw [← E1] at HI
      have HCd := fun (W : World) => conv_newD W 5 1 ((48 + n % 10 : Nat) : Int) (by omega) (by omega)
      rw [← E2] at HC HCd
      have HI2 : Hid (Calls Tryd.prog 25 #[.int .i64 (IntKind.i64.wrap ((n : Int) / 10))] ((w.alloc (.cells #[.int .u8 (IntKind.u8.wrap (IntKind.i64.wrap (48 + (n : Int).tmod 10)))] 5)).drew) fun e w' => e = .returned (.string (ofL (digitsN (n / 10)))) ∧ Below w.heap.size w w' ∧
          (convert 51 9 (.slice (some ⟨w.heap.size, 0, none⟩) 1 1)).run Tryd.prog w' = .ok (.string (ofL [UInt8.ofNat (IntKind.u8.wrap (IntKind.i64.wrap (48 + (n : Int).tmod 10))).toNat])) w') := Lib.hid ((HI.out _).mono fun e w' ⟨he, hb⟩ => ⟨he, (((Below.refl _ _).alloc (Nat.le_refl _) _).drew).trans (hb.mono (by simp)), conv_one _ _ _ _ (by omega) (by omega) (by
            rw [hb.cell (by simp)]; simp)⟩)
      have HV : Hid (ofL (digitsN (n / 10)) ++ ofL [UInt8.ofNat (48 + (n : Int) % 10).toNat] = ofL (digitsN n)) := Lib.hid (by
        rw [HD.out, ofL_app, show (48 + (n : Int) % 10).toNat = 48 + n % 10 from by omega])
      clear ih E1 E2
      go_enter Tryd.func25, Tryd.ntmps25
      go_wp2_with fail
      go_region_with (go_at_call 25; first | (refine HI2.out.mono ?_; rintro e w1 ⟨rfl, hb, HC1⟩) | (refine (HI.out w.drew).mono ?_; rintro e w1 ⟨rfl, hb⟩))
      all_goals go_wp2_with fail
      all_goals go_ret
      · exact ⟨ret_str HV.out, (((Below.refl w.heap.size w).drew).trans (hb.mono (by simp))).alloc (by have := hb.size; simp at this; omega) _⟩
      · exact ⟨ret_str HV.out, hb⟩
      · exact ⟨ret_str HV.out, hb⟩

end Go.Proofs.YtegjcmoneemhjaaDoor
