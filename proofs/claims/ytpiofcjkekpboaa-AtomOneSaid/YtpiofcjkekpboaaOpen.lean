/- Opening what came in: slices whose elements have any number of cells, fields of structs. No program in sight. -/
import Derived.Test.YtpiofcjkekpboaaBase
import Derived.ProofKit
import Derived.OpenShut
import Derived.Deep.Slices
namespace Go.Proofs.Ytpiofcjkekpboaa
set_option linter.unusedSimpArgs false
set_option linter.unusedVariables false
open Go.RowKit Go.ChangeShapes Go.WideShapes Go.ChangeAt

theorem list_of {α : Type} {Q : Nat → α → Prop} : ∀ (n : Nat), (∀ i, i < n → ∃ x, Q i x) → ∃ l : List α, l.length = n ∧ ∀ i x, l[i]? = some x → Q i x
  | 0, _ => ⟨[], rfl, fun i x h => by simp at h⟩
  | n + 1, h => by
    obtain ⟨l, hl, hq⟩ := list_of n (fun i hi => h i (by omega))
    obtain ⟨x, hx⟩ := h n (by omega)
    refine ⟨l ++ [x], by simp [hl], fun i y hy => ?_⟩
    by_cases hi : i < l.length
    · rw [List.getElem?_append_left hi] at hy; exact hq i y hy
    · rw [List.getElem?_append_right (by omega)] at hy
      have : i - l.length = 0 := by
        rcases Nat.eq_zero_or_pos (i - l.length) with h0 | h0
        · exact h0
        · rw [List.getElem?_eq_none (by simp; omega)] at hy; cases hy
      rw [this] at hy; simp at hy; subst hy
      have : i = n := by omega
      subst this; exact hx

section
variable {H : Type} {enc : TypeId × Value → H} {P : Program} {w : World}

/-- A field of a struct, read off its cells. -/
theorem field_at {e : TypeId} {fs : Array Field} {n : Nat} {cs : List Value} {x : DataW H × List MemPlace} (he : P.underlying e = some (.struct fs)) (h : DataW.trod enc P w 0 (fun _ => true) true n e cs = some x)
    (i : Nat) (f : Field) (hf : fs[i]? = some f) : ∃ m y, DataW.trod enc P w 0 (fun _ => true) true m f.type ((cs.drop f.offset).take (P.cellsOf f.type)) = some y := by
  obtain ⟨ys, n2, _, _, _, hyl, hfld⟩ := DataW.trod_struct he h
  have h1 := hfld i f hf
  have hi : i < ys.length := by rw [hyl]; exact (Array.getElem?_eq_some_iff.1 hf).1
  rw [List.getElem?_eq_getElem hi] at h1
  exact ⟨n2, _, h1⟩

theorem one_of {cs : List Value} {o : Nat} (h : o < cs.length) : (cs.drop o).take 1 = [cs[o]] := by
  rw [List.drop_eq_getElem_cons h]; rfl

/-- .. where the field is one cell. -/
theorem field1 {e : TypeId} {fs : Array Field} {n : Nat} {cs : List Value} {x : DataW H × List MemPlace} (he : P.underlying e = some (.struct fs)) (h : DataW.trod enc P w 0 (fun _ => true) true n e cs = some x)
    (i o : Nat) (t : TypeId) (hft : (fs[i]?).map (fun f => (f.type, f.offset)) = some (t, o)) (hc : P.cellsOf t = 1) (ho : o < cs.length) : ∃ m y, DataW.trod enc P w 0 (fun _ => true) true m t [cs[o]] = some y := by
  cases hf : fs[i]? with
  | none => rw [hf] at hft; cases hft
  | some f =>
    rw [hf] at hft
    simp only [Option.map_some, Option.some.injEq, Prod.mk.injEq] at hft
    obtain ⟨m, y, hy⟩ := field_at he h i f hf
    rw [hft.1, hft.2, hc, one_of ho] at hy
    exact ⟨m, y, hy⟩

/-- A slice that came in: its elements' cells, each with its own reading. -/
theorem open_elems {t e : TypeId} {size fuel : Nat} {cs : List Value} {x : DataW H × List MemPlace} (ht : P.underlying t = some (.slice e)) (hs : P.cellsOf e = size) (hpos : 0 < size) (h : DataW.trod enc P w 0 (fun _ => true) true fuel t cs = some x) :
    ∃ (a : Option Addr) (n cap : Nat), cs = [.slice a n cap] ∧ n ≤ cap ∧ cap ≤ 9223372036854775807 ∧ (a = none → n = 0 ∧ cap = 0) ∧ ∃ b off, (0 < n → a = some ⟨b, off, none⟩) ∧
      ∀ i, i < n → ∃ (cs' : List Value) (m : Nat) (y : DataW H × List MemPlace), cs'.length = size ∧ (∀ j, j < size → w.cell? ⟨b, off + i * size + j, none⟩ = cs'[j]?) ∧ DataW.trod enc P w 0 (fun _ => true) true m e cs' = some y := by
  rcases Deep.open_slice ht h with ⟨hcs, _⟩ | ⟨ad, len, cap, m, n', D, Pl, hcs, hb, hl, hm, hmm, hx, hi⟩
  · exact ⟨none, 0, 0, hcs, by omega, by omega, fun _ => ⟨rfl, rfl⟩, 0, 0, by omega, by omega⟩
  · have hml : len ≤ m := by rw [hmm]; simp; exact hl
    have hcap : cap ≤ 9223372036854775807 := by unfold maxLen at hm; omega
    rw [hs] at hi
    refine ⟨some ad, len, cap, hcs, hl, hcap, (fun h => by cases h), ad.block, ad.off, ?_, ?_⟩
    · intro h0
      obtain ⟨cs', hc, ht⟩ := hi 0 (by omega)
      obtain ⟨_, hcl, hat⟩ := World.cells?_some hc
      have h1 := hat 0 hpos
      rw [List.getElem?_eq_getElem (by omega)] at h1
      have hsp : ad.spot = none := by simpa [Addr.add] using World.cell?_spot h1
      cases ad; simp at hsp; subst hsp; rfl
    · intro i hi'
      obtain ⟨cs', hc, ht⟩ := hi i (by omega)
      obtain ⟨_, hcl, hat⟩ := World.cells?_some hc
      refine ⟨cs', n', _, hcl, ?_, ht⟩
      intro j hj
      have h1 := hat j hj
      have h00 := hat 0 hpos
      rw [List.getElem?_eq_getElem (by omega)] at h1 h00
      have hsp : ad.spot = none := by
        obtain ⟨cs0, hc0, _⟩ := hi 0 (by omega)
        obtain ⟨_, hcl0, hat0⟩ := World.cells?_some hc0
        have h2 := hat0 0 hpos
        rw [List.getElem?_eq_getElem (by omega)] at h2
        simpa [Addr.add] using World.cell?_spot h2
      cases ad with
      | mk bb oo sp =>
        simp at hsp; subst hsp
        rw [Deep.add_add, add_none] at h1
        simp only
        rw [Nat.add_assoc, h1, List.getElem?_eq_getElem]
/-- A slice of strings that came in. -/
theorem open_strs {t e : TypeId} {fuel : Nat} {v : Value} {x : DataW H × List MemPlace} (ht : P.underlying t = some (.slice e)) (he : P.underlying e = some .string) (hs : P.cellsOf e = 1) (h : DataW.trod enc P w 0 (fun _ => true) true fuel t [v] = some x) :
    ∃ (a : Option Addr) (cap : Nat) (l : List ByteArray), v = .slice a l.length cap ∧ l.length ≤ 9223372036854775807 ∧ (a = none → cap = 0) ∧ RowOf w a (l.map .string) ∧ ∀ s ∈ l, s.size ≤ maxLen := by
  obtain ⟨a, n, cap, hcs, hnc, hcm, hnil, b, off, hab, hel⟩ := open_elems (size := 1) ht hs (by decide) h
  injection hcs with hcs _
  obtain ⟨l, hl, hq⟩ := list_of (α := ByteArray) (Q := fun i s => w.cell? ⟨b, off + i, none⟩ = some (.string s) ∧ s.size ≤ maxLen) n (by
    intro i hi
    obtain ⟨cs, m, y, hcl, hc, ht⟩ := hel i hi
    obtain ⟨s, e1, _, hs⟩ := DataW.trod_string he ht
    refine ⟨s, ?_, hs⟩
    have := hc 0 (by decide)
    rw [e1] at this
    simpa using this)
  subst hl
  refine ⟨a, cap, l, hcs, by omega, fun h => (hnil h).2, ?_, ?_⟩
  · by_cases h0 : l = []
    · left; simp [h0]
    · refine .inr ⟨b, off, hab (List.length_pos_iff.2 h0), ?_⟩
      intro j u hu
      rw [List.getElem?_map] at hu
      cases hj : l[j]? with
      | none => rw [hj] at hu; cases hu
      | some s => rw [hj] at hu; simp at hu; subst hu; exact (hq j s hj).1
  · intro s hs
    obtain ⟨i, hi, e⟩ := List.mem_iff_getElem.1 hs
    exact (hq i s (by simp [hi, e])).2

end

end Go.Proofs.Ytpiofcjkekpboaa
