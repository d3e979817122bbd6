/- AtomOne: the plain part, and the keys of its maps. -/
import Derived.Test.YtpiofcjkekpboaaAtL
import Derived.Maps.RangeWalk
import Derived.DeepKeys4
namespace Go.Proofs.Ytpiofcjkekpboaa
set_option linter.unusedSimpArgs false
set_option linter.unusedVariables false
open Go.RowKit Go.Maps Go.ChangeShapes Go.WideShapes Go.ChangeAt

theorem k01_wide : (match Try.prog.underlying 45 with | some (.array _ _) | some (.struct _) => true | _ => false) = true := by rw [Try.underlying45]
theorem k01_row : (45 : TypeId) < Try.prog.types.size := of_decide_eq_true (by kernel_rfl)
theorem k01_laid : laidOutB Try.prog = true := by kernel_rfl
set_option maxRecDepth 100000 in
theorem k01_law : Keyed Try.prog 45 := Keyed.of_law (deep_law_laid k01_laid (m := 2) (by omega) k01_row (by kernel_rfl) k01_wide)
theorem a01_law : Keyed Try.prog 32 := int_keyed Try.underlying32
/-- a key, as it lies -/
def keyV (kd : Int) (s : ByteArray) : Value := .agg #[.int .i64 kd, .string s]
set_option maxRecDepth 100000 in
theorem k01_size : ∃ m, Try.prog.types.size = m + 1 := ⟨Try.prog.types.size - 1, (Nat.succ_pred_eq_of_pos (Nat.lt_of_le_of_lt (Nat.zero_le _) k01_row)).symm⟩
set_option maxRecDepth 100000 in
theorem key_of (kd : Int) (s : ByteArray) (h1 : (Lit.int .i64 kd).wf = true) (h2 : s.size ≤ maxLen) : ∃ kl, keyOf Try.prog 45 (keyV kd s) = some kl := by
  obtain ⟨m, hm⟩ := k01_size
  have h3 : Try.prog.keyType 45 = true := by kernel_rfl
  have c1 : Try.prog.cellsOf 45 = 2 := by kernel_rfl
  have c2 : Try.prog.cellsOf 3 = 1 := by kernel_rfl
  have c3 : Try.prog.cellsOf 9 = 1 := by kernel_rfl
  have h4 : (keyV kd s).formed Try.prog 45 = true := by simp [keyV, Value.formed, Try.underlying45, c1]
  unfold keyOf
  rw [h3, h4, hm]
  simp [keyV, Value.cells, Program.keyLits, Try.underlying45, Try.underlying3, Try.underlying9, c1, c2, c3, h1, h2]
theorem key_inj {a b : Int} {s t : ByteArray} (h : keyV a s = keyV b t) : a = b ∧ s = t := by
  unfold keyV at h
  injection h with h
  have := congrArg Array.toList h
  simp only [List.cons.injEq, Value.int.injEq, Value.string.injEq, true_and, and_true] at this
  exact this
/-- what a key in a map tells -/
def keyD (kd : Int) (s : ByteArray) : DataW Unit := .agg [.lit (.int .i64 kd), .lit (.string s.data.toList)]
theorem keyD_inj {a b : Int} {s t : ByteArray} (h : keyD a s = keyD b t) : a = b ∧ s = t := by
  unfold keyD at h
  simp only [DataW.agg.injEq, List.cons.injEq, DataW.lit.injEq, Lit.int.injEq, Lit.string.injEq, true_and, and_true] at h
  refine ⟨h.1, ?_⟩
  cases s with | mk x => cases t with | mk y => exact congrArg ByteArray.mk (Array.toList_inj.1 h.2)
def keyR (v : Value) : Option (DataW Unit × List MemPlace) := match v with
  | .agg cs => (match cs.toList with
    | [.int .i64 kd, .string s] => some (keyD kd s, [])
    | _ => none)
  | _ => none
theorem keyR_mk (kd : Int) (s : ByteArray) : keyR (keyV kd s) = some (keyD kd s, []) := rfl
theorem keyR_inv {v : Value} {y : DataW Unit × List MemPlace} (h : keyR v = some y) : ∃ kd s, v = keyV kd s ∧ y = (keyD kd s, []) := by
  unfold keyR at h
  split at h
  · next cs =>
    split at h
    · next kd s e =>
      injection h with h
      refine ⟨kd, s, ?_, h.symm⟩
      unfold keyV
      congr 1
      exact Array.toList_inj.1 e
    · cases h
  · cases h

/-- No name twice of a kind, all few: what a table keeps. -/
def FewL (L : Nat → List ByteArray) : Prop := ∀ k, (L k).length ≤ 4000
theorem fewL_put {L : Nat → List ByteArray} (h : FewL L) (kd : Int) (s : ByteArray) : FewL (putL L kd s) := by
  intro k
  unfold putL
  split
  · next hc =>
    by_cases e : k = kd.toNat
    · subst e; rw [upd_same, List.length_append, List.length_cons, List.length_nil]; have := hc.2.2.2.2; omega
    · rw [upd_other _ _ e]; exact h k
  · exact h k
/-- a table has this name at this atom -/
def tabE (L : Nat → List ByteArray) (kd : Int) (s : ByteArray) (a : Int) : Prop := findB L kd s = true ∧ findA L kd s = a
theorem tabE_iff {L : Nat → List ByteArray} {kd : Int} {s : ByteArray} {a : Int} : tabE L kd s a ↔ (1 ≤ kd ∧ kd ≤ 5 ∧ s ∈ L kd.toNat) ∧ a = 8192 * kd + (posOf s (L kd.toNat) + 1) := by
  unfold tabE
  constructor
  · rintro ⟨h1, h2⟩
    refine ⟨by simpa [findB] using h1, ?_⟩
    rw [← h2]; unfold findA; rw [if_pos h1]
  · rintro ⟨h1, rfl⟩
    have h2 : findB L kd s = true := by simpa [findB] using h1
    exact ⟨h2, by unfold findA; rw [if_pos h2]⟩
theorem tab_put {L : Nat → List ByteArray} {kd : Int} {s : ByteArray} (h : putE L kd s = 0) : tabE (putL L kd s) kd s (putA L kd s) := by
  rw [tabE_iff]
  have ha : putA L kd s = 8192 * kd + (posOf s (L kd.toNat) + 1) := by unfold putA; rw [if_pos h]
  rw [ha]
  unfold putE at h
  split at h
  · cases h
  · next h1 =>
    split at h
    · cases h
    · next h2 =>
      have h2 : mayB s = true := by simpa using h2
      by_cases h3 : s ∈ L kd.toNat
      · have e : putL L kd s = L := by unfold putL; rw [if_neg (fun hc => hc.2.2.2.1 h3)]
        rw [e]
        exact ⟨⟨by omega, by omega, h3⟩, rfl⟩
      · rw [if_neg h3] at h
        split at h
        · next h4 =>
          have e : putL L kd s = upd L kd.toNat (L kd.toNat ++ [s]) := by unfold putL; rw [if_pos ⟨by omega, by omega, h2, h3, h4⟩]
          rw [e, upd_same]
          refine ⟨⟨by omega, by omega, by simp⟩, ?_⟩
          rw [posOf_append_right _ h3, posOf_none h3]
          simp [posOf]
        · cases h
theorem tab_keep {L : Nat → List ByteArray} {kd k' : Int} {s s' : ByteArray} {a : Int} (h : tabE L k' s' a) : tabE (putL L kd s) k' s' a := by
  rw [tabE_iff] at h ⊢
  obtain ⟨⟨h1, h2, h3⟩, h4⟩ := h
  unfold putL
  split
  · by_cases e : k'.toNat = kd.toNat
    · rw [e, upd_same]
      rw [e] at h3 h4
      exact ⟨⟨h1, h2, List.mem_append_left _ h3⟩, by rw [posOf_append_left _ h3]; exact h4⟩
    · rw [upd_other _ _ e]; exact ⟨⟨h1, h2, h3⟩, h4⟩
  · exact ⟨⟨h1, h2, h3⟩, h4⟩
theorem tab_inj {L : Nat → List ByteArray} (hf : FewL L) {k k' : Int} {s s' : ByteArray} {a : Int} (h : tabE L k s a) (h' : tabE L k' s' a) : k = k' ∧ s = s' := by
  rw [tabE_iff] at h h'
  obtain ⟨⟨h1, h2, h3⟩, h4⟩ := h
  obtain ⟨⟨g1, g2, g3⟩, g4⟩ := h'
  have p1 := posOf_mem.2 h3
  have p2 := posOf_mem.2 g3
  have f1 := hf k.toNat
  have f2 := hf k'.toNat
  have e : k = k' := by omega
  subst e
  refine ⟨rfl, ?_⟩
  have e2 : posOf s (L k.toNat) = posOf s' (L k.toNat) := by omega
  have q1 := posOf_get p1
  have q2 := posOf_get p2
  rw [e2, q2] at q1
  injection q1 with q1
  exact q1.symm
theorem tab_one {L : Nat → List ByteArray} {k : Int} {s : ByteArray} {a b : Int} (h : tabE L k s a) (h' : tabE L k s b) : a = b := h.2.symm.trans h'.2
theorem tab_name {L : Nat → List ByteArray} (hf : FewL L) {k : Int} {s : ByteArray} {a : Int} (h : tabE L k s a) : ∃ x : Nat, a = x ∧ x < 65536 ∧ x ≠ 1 ∧ ((x / 8192 : Nat) : Int) = k ∧ nameB L x = true ∧ nameS L x = s := by
  rw [tabE_iff] at h
  obtain ⟨⟨h1, h2, h3⟩, h4⟩ := h
  have p1 := posOf_mem.2 h3
  have f1 := hf k.toNat
  refine ⟨a.toNat, by omega, by omega, by omega, by omega, ?_⟩
  have e1 : a.toNat / 8192 = k.toNat := by omega
  have e2 : a.toNat % 8192 = posOf s (L k.toNat) + 1 := by omega
  have hb : nameB L a.toNat = true := by simp only [nameB, decide_eq_true_eq, e1, e2]; omega
  refine ⟨hb, ?_⟩
  unfold nameS
  rw [if_neg (by omega), if_pos hb, e1, e2, Nat.add_sub_cancel, List.getD_eq_getElem?_getD, posOf_get p1]
  rfl
/-- which atom each key has -/
structure OfI (L : Nat → List ByteArray) (D : DataW Unit) : Prop where
  isMap : IsMap D
  at_ : ∀ kd s kl, keyOf Try.prog 45 (keyV kd s) = some kl → Maps.has D kl = true → ∃ a, tabE L kd s a ∧ ∀ z, D.atKey kl z = .lit (.int .u16 a)
theorem ofI_nil (L : Nat → List ByteArray) : OfI L (.map []) := ⟨isMap_empty, fun _ _ _ _ h => by simp [Maps.has] at h⟩
theorem ofI_put {L : Nat → List ByteArray} {D : DataW Unit} (h : OfI L D) {kd : Int} {s : ByteArray} {kl : Lit} (hk : keyOf Try.prog 45 (keyV kd s) = some kl) {a : Int} (ht : tabE L kd s a) : OfI L (D.put kl (.lit (.int .u16 a))) := by
  refine ⟨h.isMap.put _ _, fun kd' s' kl' hk' hh => ?_⟩
  by_cases e : kl' = kl
  · subst e
    obtain ⟨rfl, rfl⟩ := key_inj (k01_law.inj hk' hk)
    exact ⟨a, ht, fun z => atKey_put_same h.isMap (k01_law.key hk) _ _⟩
  · rw [has_put_other e] at hh
    obtain ⟨b, h1, h2⟩ := h.at_ kd' s' kl' hk' hh
    exact ⟨b, h1, fun z => by rw [atKey_put_other e]; exact h2 z⟩
theorem ofI_keep {L : Nat → List ByteArray} {D : DataW Unit} (h : OfI L D) (kd : Int) (s : ByteArray) : OfI (putL L kd s) D :=
  ⟨h.isMap, fun kd' s' kl hk hh => by
    obtain ⟨a, h1, h2⟩ := h.at_ kd' s' kl hk hh
    exact ⟨a, tab_keep h1, h2⟩⟩
/-- which key each atom has -/
structure FromI (L : Nat → List ByteArray) (D : DataW Unit) : Prop where
  isMap : IsMap D
  at_ : ∀ a : Int, Maps.has D (.int .u16 a) = true → ∃ kd s, s.size ≤ maxLen ∧ tabE L kd s a ∧ ∀ z, D.atKey (.int .u16 a) z = keyD kd s
theorem fromI_nil (L : Nat → List ByteArray) : FromI L (.map []) := ⟨isMap_empty, fun _ h => by simp [Maps.has] at h⟩
theorem fromI_put {L : Nat → List ByteArray} {D : DataW Unit} (h : FromI L D) {kd : Int} {s : ByteArray} (hs : s.size ≤ maxLen) {a : Int} (ht : tabE L kd s a) : FromI L (D.put (.int .u16 a) (keyD kd s)) := by
  refine ⟨h.isMap.put _ _, fun b hh => ?_⟩
  by_cases e : b = a
  · subst e
    exact ⟨kd, s, hs, ht, fun z => atKey_put_same (k := Lit.int .u16 b) h.isMap (by exact ⟨⟩) _ _⟩
  · have e' : Lit.int .u16 b ≠ Lit.int .u16 a := fun h => e (by injection h)
    rw [has_put_other e'] at hh
    obtain ⟨kd', s', h1, h2, h3⟩ := h.at_ b hh
    exact ⟨kd', s', h1, h2, fun z => by rw [atKey_put_other e']; exact h3 z⟩
theorem fromI_keep {L : Nat → List ByteArray} {D : DataW Unit} (h : FromI L D) (kd : Int) (s : ByteArray) : FromI (putL L kd s) D :=
  ⟨h.isMap, fun a hh => by
    obtain ⟨kd', s', h0, h1, h2⟩ := h.at_ a hh
    exact ⟨kd', s', h0, tab_keep h1, h2⟩⟩
theorem atKey_none {D : DataW Unit} {kl : Lit} (h : Maps.has D kl = false) (z : DataW Unit) : D.atKey kl z = z := by
  cases D with
  | map l =>
    simp only [Maps.has] at h
    simp only [DataW.atKey]
    split
    · next p e =>
      have h1 : p.1.sameKey kl = true := List.find?_some (p := fun p : Lit × DataW Unit => p.1.sameKey kl) e
      have h2 := List.mem_of_find?_eq_some e
      rw [List.any_eq_false] at h
      exact absurd h1 (h p h2)
    · rfl
  | _ => rfl
end Go.Proofs.Ytpiofcjkekpboaa
