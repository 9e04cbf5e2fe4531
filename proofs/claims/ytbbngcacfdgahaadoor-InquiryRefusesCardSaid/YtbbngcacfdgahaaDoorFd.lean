/- Arguments that are structs of numbers, bools and strings, and slices of such structs: opened as lists of cells. -/
import Derived.Test.YtbbngcacfdgahaaDoorProg
import Derived.ProofKit
import Derived.SizedLaws
import Derived.SliceStrings
import Derived.DataReads
import Derived.Lib.SmallJoins
import Derived.Test.YtbbngcacfdgahaaDoorFw
import Derived.Deep.MidRow
namespace Go.Proofs.YtbbngcacfdgahaaDoor
open Go.RowKit Go.ChangeShapes Go.WideShapes
set_option linter.unusedVariables false
set_option linter.unusedSimpArgs false

/-- The kind of a cell. -/
inductive Sk
  | int (k : IntKind)
  | bool
  | str
/-- A cell's value is of its kind. -/
def SkOk : Sk → Value → Prop
  | .int k, v => ∃ n, v = .int k n ∧ (Lit.int k n).wf = true
  | .bool, v => ∃ b, v = .bool b
  | .str, v => ∃ s : ByteArray, v = .string s ∧ s.size ≤ maxLen
/-- Cells of their kinds. -/
def SkAll : List Sk → List Value → Prop
  | [], [] => True
  | k :: ks, v :: vs => SkOk k v ∧ SkAll ks vs
  | _, _ => False
theorem SkAll.length : ∀ {ks : List Sk} {vs : List Value}, SkAll ks vs → vs.length = ks.length
  | [], [], _ => rfl
  | k :: ks, v :: vs, h => by simp [SkAll.length h.2]
theorem SkAll.append : ∀ {ks ks' : List Sk} {vs vs' : List Value}, SkAll ks vs → SkAll ks' vs' → SkAll (ks ++ ks') (vs ++ vs')
  | [], _, [], _, _, h => h
  | k :: ks, _, v :: vs, _, h, h' => ⟨h.1, SkAll.append h.2 h'⟩
theorem SkOk.one : ∀ {k : Sk} {v : Value}, SkOk k v → v.oneCell' = true
  | .int k, _, ⟨_, rfl, _⟩ => rfl
  | .bool, _, ⟨_, rfl⟩ => rfl
  | .str, _, ⟨_, rfl, _⟩ => rfl

/-- The kinds of a struct's fields, one behind the other. -/
def flatFields (P : Program) (g : TypeId → Option (List Sk)) : List Field → Nat → Option (List Sk)
  | [], _ => some []
  | f :: r, off => if f.offset = off then (g f.type).bind fun ks => if P.cellsOf f.type = ks.length then (flatFields P g r (off + ks.length)).map fun ls => ks ++ ls else none else none
/-- The kinds of a type's cells: of a struct the fields' one behind the other. -/
def flatOf (P : Program) : Nat → TypeId → Option (List Sk)
  | 0, _ => none
  | n + 1, t =>
    match P.underlying t with
    | some .bool => some [.bool]
    | some (.int k) => some [.int k]
    | some .string => some [.str]
    | some (.struct fs) => flatFields P (flatOf P n) fs.toList 0
    | _ => none

section
variable {H : Type} {enc : TypeId × Value → H} {P : Program} {w : World} {base : Nat} {spare : Nat → Bool} {held : Bool}

theorem trod_flat : ∀ (n : Nat) {t : TypeId} {ks : List Sk} {fuel : Nat} {cs : List Value} {x : DataW H × List MemPlace}, flatOf P n t = some ks → cs.length = ks.length → DataW.trod enc P w base spare held fuel t cs = some x → SkAll ks cs := by
  intro n
  induction n with
  | zero => intro t ks fuel cs x h; simp [flatOf] at h
  | succ n ih =>
    intro t ks fuel cs x h hl hx
    unfold flatOf at h
    split at h
    · rename_i hu
      obtain ⟨b, rfl, -⟩ := DataW.trod_bool hu hx
      cases h
      exact ⟨⟨b, rfl⟩, trivial⟩
    · rename_i k hu
      obtain ⟨m, rfl, -, hw⟩ := DataW.trod_int hu hx
      cases h
      exact ⟨⟨m, rfl, hw⟩, trivial⟩
    · rename_i hu
      obtain ⟨s, rfl, -, hw⟩ := DataW.trod_string hu hx
      cases h
      exact ⟨⟨s, rfl, hw⟩, trivial⟩
    · rename_i fs hu
      obtain ⟨xs, m, rfl, rfl, hcl, hxl, hf⟩ := DataW.trod_struct hu hx
      have key : ∀ (fl : List Field) (off i0 : Nat) (ls : List Sk), (∀ i f, fl[i]? = some f → fs[i0 + i]? = some f) → flatFields P (flatOf P n) fl off = some ls → cs.length = off + ls.length → SkAll ls (cs.drop off) := by
        intro fl
        induction fl with
        | nil =>
          intro off i0 ls _ hg hlen
          simp [flatFields] at hg
          subst hg
          have : cs.drop off = [] := List.drop_of_length_le (by simp at hlen; omega)
          rw [this]; trivial
        | cons f r ihr =>
          intro off i0 ls hi hg hlen
          unfold flatFields at hg
          by_cases ho : f.offset = off
          · rw [if_pos ho] at hg
            cases hk : flatOf P n f.type with
            | none => rw [hk] at hg; cases hg
            | some k1 =>
              rw [hk, Option.bind_some] at hg
              by_cases hc : P.cellsOf f.type = k1.length
              · rw [if_pos hc] at hg
                cases hr : flatFields P (flatOf P n) r (off + k1.length) with
                | none => rw [hr] at hg; cases hg
                | some l2 =>
                  rw [hr] at hg
                  simp only [Option.map_some, Option.some.injEq] at hg
                  subst hg
                  simp only [List.length_append] at hlen
                  have h2 := ihr (off + k1.length) (i0 + 1) l2 (fun i f' h' => by
                    have := hi (i + 1) f' (by simpa using h')
                    rwa [show i0 + (i + 1) = i0 + 1 + i by omega] at this) hr (by omega)
                  have hfi := hf i0 f (by simpa using hi 0 f rfl)
                  have hlt : i0 < xs.length := by
                    rw [hxl]
                    exact (Array.getElem?_eq_some_iff.1 (by simpa using hi 0 f rfl)).1
                  rw [List.getElem?_eq_getElem hlt] at hfi
                  rw [ho, hc] at hfi
                  have h1 := ih hk (by rw [List.length_take, List.length_drop]; omega) hfi
                  have e : cs.drop off = (cs.drop off).take k1.length ++ cs.drop (off + k1.length) := by
                    rw [← List.drop_drop, List.take_append_drop]
                  rw [e]
                  exact h1.append h2
              · rw [if_neg hc] at hg; cases hg
          · rw [if_neg ho] at hg; cases hg
      have := key fs.toList 0 0 ks (fun i f h' => by simpa using h') h (by omega)
      simpa using this
    · cases h

/-- A struct by value. -/
theorem agg_of_arg {t : TypeId} {n : Nat} {ks : List Sk} {fs : Array Field} (hs : P.underlying t = some (.struct fs)) (hk : flatOf P n t = some ks) (hc : P.cellsOf t = ks.length) {wit : World} {b0 : Nat} {v : Value} {d : DataW H} {p : List MemPlace}
    (hv : Value.okWide P wit .any b0 t v) (h : DataW.Trod enc P w base spare held t v d p) : ∃ xs : List Value, v = .agg xs.toArray ∧ SkAll ks xs := by
  obtain ⟨cs, rfl, hsz⟩ := okWide_struct hs hv
  obtain ⟨fuel, hf⟩ := h
  exact ⟨cs.toList, by simp, trod_flat n hk (by simpa using hsz.trans hc) hf⟩
end

/-- A slice value that reads as a list of rows of k cells. -/
def RdK (w : World) (v : Value) (k : Nat) (xss : List (List Value)) : Prop :=
  (xss = [] ∧ ∃ A cap, v = .slice A 0 cap) ∨
  ∃ b off cap, v = .slice (some ⟨b, off, none⟩) xss.length cap ∧ xss.length ≤ cap ∧ xss ≠ [] ∧ ∀ j (hj : j < xss.length) i, i < k → w.cell? ⟨b, off + j * k + i, none⟩ = (xss[j])[i]?

theorem cells?_get {W : World} {base k : Nat} {a : Addr} {cs : List Value} (h : W.cells? base a k = some cs) : cs.length = k ∧ ∀ i, i < k → W.cell? (a.add i) = cs[i]? := by
  unfold World.cells? at h
  split at h
  · refine ⟨by simpa using mapM_some_length h, fun i hi => ?_⟩
    exact mapM_some_get h i i (by simp [hi])
  · cases h

theorem rows_of_arg {H : Type} {enc : TypeId × Value → H} {P : Program} {W : World} {spare : Nat → Bool} {t e : TypeId} {n : Nat} {ks : List Sk} {v : Value} {d : DataW H} {ps : List MemPlace} {ts : List TypeId} {ds : List (DataW H)} {bytes : Nat}
    (hu : P.underlying t = some (.slice e)) (hk : flatOf P n e = some ks) (hc : P.cellsOf e = ks.length) (hpos : 0 < ks.length) (hby : P.bytesOf e = bytes)
    (hsz : (DataW.weightsEach P ts ds).all (· ≤ reachBytes) = true) {j : Nat} (ht : ts[j]? = some t) (hd : ds[j]? = some d) {wit : World} {b0 : Nat} (hv : Value.okWide P wit .any b0 t v)
    (h : DataW.Trod enc P W 0 spare true t v d ps) : ∃ xss : List (List Value), (∀ xs ∈ xss, SkAll ks xs) ∧ xss.length * bytes ≤ 140737488351232 ∧ RdK W v ks.length xss := by
  obtain ⟨a, len, cap, rfl⟩ := okWide_slice hu hv
  obtain ⟨fuel, hf⟩ := h
  rcases DataW.trod_slice hu hf with ⟨hcs, hx⟩ | ⟨x, l, c, elems, rest, m, _, hcs, hx, hb, hl, hm, hlen, hel, hsp, hns⟩
  · simp [Value.cells] at hcs
    obtain ⟨rfl, rfl, rfl⟩ := hcs
    exact ⟨[], by simp, by simp, .inl ⟨rfl, none, 0, rfl⟩⟩
  · simp [Value.cells] at hcs
    obtain ⟨rfl, rfl, rfl⟩ := hcs
    obtain ⟨hx, _⟩ := Prod.mk.inj hx
    subst hx
    have z := sized_slice hsz ht hd hu
    rw [hby] at z
    have each : ∀ i, i < len → ∃ xs, SkAll ks xs ∧ ∀ q, q < ks.length → W.cell? ((x.add (i * ks.length)).add q) = xs[q]? := by
      intro i hi
      have h1 := hel i hi
      rw [List.getElem?_eq_getElem (by omega), Option.bind_eq_some_iff] at h1
      obtain ⟨cs, h2, h3⟩ := h1
      rw [hc] at h2
      obtain ⟨h4, h5⟩ := cells?_get h2
      exact ⟨cs, trod_flat n hk h4 h3, h5⟩
    obtain ⟨xss, hxl, hxs⟩ : ∃ xss : List (List Value), xss.length = len ∧ ∀ i (hi : i < xss.length), SkAll ks xss[i] ∧ ∀ q, q < ks.length → W.cell? ((x.add (i * ks.length)).add q) = (xss[i])[q]? := by
      clear hel hf z hns hsp hlen hv hl
      induction len with
      | zero => exact ⟨[], rfl, fun i hi => absurd hi (by simp)⟩
      | succ len ih =>
        obtain ⟨xss, h1, h2⟩ := ih (fun i hi => each i (by omega))
        obtain ⟨xs, h3⟩ := each len (by omega)
        refine ⟨xss ++ [xs], by simp [h1], fun i hi => ?_⟩
        by_cases hlt : i < xss.length
        · rw [List.getElem_append_left hlt]; exact h2 i hlt
        · have : i = xss.length := by simp at hi; omega
          subst this
          have e : (xss ++ [xs])[xss.length] = xs := by simp
          rw [e, h1]
          exact h3
    refine ⟨xss, fun xs hxm => ?_, ?_, ?_⟩
    · obtain ⟨i, hi, rfl⟩ := List.getElem_of_mem hxm
      exact (hxs i hi).1
    · rw [hxl, ← hlen]
      have : elems.length * bytes ≤ ((elems.map (·.1)).length + (rest.map (·.1)).length) * bytes := Nat.mul_le_mul_right _ (by simp)
      unfold reachBytes at z
      omega
    · by_cases h0 : xss = []
      · left
        subst h0
        simp at hxl
        subst hxl
        exact ⟨rfl, _, _, rfl⟩
      · right
        obtain ⟨b, off, spot⟩ := x
        have hp : 0 < xss.length := List.length_pos_iff.2 h0
        have hspot : spot = none := by
          have h1 := (hxs 0 hp).2 0 hpos
          have h2 := (hxs 0 hp).1.length
          rw [List.getElem?_eq_getElem (by omega)] at h1
          have := World.cell?_spot h1
          simpa [Addr.add] using this
        subst hspot
        refine ⟨b, off, cap, by rw [hxl], by omega, h0, fun j hj i hi => ?_⟩
        have := (hxs j hj).2 i hi
        rw [Addr.add_mid, Addr.add_mid] at this
        exact this

end Go.Proofs.YtbbngcacfdgahaaDoor
