/- An argument that is a slice of strings reads as a list of strings. -/
import Derived.Test.YtegjcmoneemhjaaDoorIdK
import Derived.ProofKit
import Derived.SizedLaws
import Derived.SliceStrings
import Derived.DataReads
namespace Go.Proofs.YtegjcmoneemhjaaDoor
open Go.RowKit Go.ChangeShapes Go.WideShapes
set_option linter.unusedVariables false
set_option linter.unusedSimpArgs false

theorem weightsAll_mem {H : Type} {P : Program} {e : TypeId} : ∀ {l : List (DataW H)} {d : DataW H}, d ∈ l → ∀ n ∈ d.weights P e, n ∈ DataW.weightsAll P e l
  | x :: r, d, h, n, hn => by
    simp only [DataW.weightsAll, List.mem_append]
    rcases List.mem_cons.1 h with rfl | h
    · exact .inl hn
    · exact .inr (weightsAll_mem h n hn)

theorem rds_of_arg {H : Type} {enc : TypeId × Value → H} {P : Program} {W : World} {spare : Nat → Bool} {t e : TypeId} {v : Value} {d : DataW H} {ps : List MemPlace} {ts : List TypeId} {ds : List (DataW H)}
    (hu : P.underlying t = some (.slice e)) (he : P.underlying e = some .string) (hc : P.cellsOf e = 1) (hby : P.bytesOf e = 16)
    (hsz : (DataW.weightsEach P ts ds).all (· ≤ reachBytes) = true) {j : Nat} (ht : ts[j]? = some t) (hd : ds[j]? = some d) {wit : World} {base : Nat} (hv : Value.okWide P wit .any base t v)
    (h : DataW.Trod enc P W 0 spare true t v d ps) : ∃ ss, RdS W v ss := by
  obtain ⟨a, len, cap, rfl⟩ := okWide_slice hu hv
  obtain ⟨fuel, hf⟩ := h
  rcases open_strings hu he hc hf with ⟨hcs, hx⟩ | ⟨x, l, c, zs, hcs, _, hl, hm, hz, hx, hcell, hws⟩
  · simp [Value.cells] at hcs
    obtain ⟨rfl, rfl, rfl⟩ := hcs
    exact ⟨[], by simp, by simp, .inl ⟨rfl, none, 0, rfl⟩⟩
  · simp [Value.cells] at hcs
    obtain ⟨rfl, rfl, rfl⟩ := hcs
    obtain ⟨hx, _⟩ := Prod.mk.inj hx
    subst hx
    have hl2 : len ≤ zs.length := by rw [hz]; split <;> omega
    have z := sized_slice hsz ht hd hu
    rw [hby] at z
    have e1 : (strs (H := H) (zs.take len)).length + (strs (H := H) (zs.drop len)).length = zs.length := by
      simp [strs]; omega
    rw [e1] at z
    have hlen : (zs.take len).length = len := by rw [List.length_take]; omega
    refine ⟨zs.take len, ?_, ?_, ?_⟩
    · rw [hlen]; unfold reachBytes at z; omega
    · intro s hs
      have hm : (DataW.lit (.string s.data.toList) : DataW H) ∈ strs (zs.take len) := by
        unfold strs; exact List.mem_map.2 ⟨s, hs, rfl⟩
      have := List.all_eq_true.1 hsz _ (DataW.weights_mem_each ht hd s.data.toList.length (by
        simp only [DataW.weights, hu, List.mem_cons, List.mem_append]
        exact .inr (.inl (weightsAll_mem hm _ (by simp [DataW.weights])))))
      simp only [decide_eq_true_eq] at this
      show s.data.toList.length ≤ _
      unfold reachBytes at this; omega
    · by_cases h0 : zs.take len = []
      · left
        rw [h0] at hlen
        exact ⟨h0, _, _, by rw [← hlen]; rfl⟩
      · right
        obtain ⟨b, off, spot⟩ := x
        have hpos : 0 < len := by rw [← hlen]; exact List.length_pos_iff.2 h0
        have hspot : spot = none := by simpa [Addr.add] using World.cell?_spot (hcell 0 (by omega))
        subst hspot
        refine ⟨b, off, cap, by rw [hlen], by rw [hlen]; exact hl, h0, fun j hj => ?_⟩
        rw [hlen] at hj
        have := hcell j (by omega)
        have ea : (⟨b, off, none⟩ : Addr).add j = ⟨b, off + j, none⟩ := by unfold Addr.add; split <;> simp_all
        rw [ea] at this
        rw [this, List.getD_eq_getElem?_getD, List.getD_eq_getElem?_getD, List.getElem?_take_of_lt hj]

end Go.Proofs.YtegjcmoneemhjaaDoor
