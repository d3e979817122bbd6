/- SetQuote, SetFor: the plain laws. -/
import Derived.Test.YtajpibdchgflnaaSy
namespace Go.Proofs.Ytajpibdchgflnaa
set_option linter.unusedSimpArgs false
set_option linter.unusedVariables false
open Go.RowKit Go.Lib

theorem all_congr' {p : ByteArray → Bool} {a b : List ByteArray} (h : ∀ x, x ∈ a ↔ x ∈ b) : a.all p = b.all p := by
  rw [Bool.eq_iff_iff, List.all_eq_true, List.all_eq_true]
  exact ⟨fun q x hx => q x ((h x).2 hx), fun q x hx => q x ((h x).1 hx)⟩
theorem any_congr' {p : ByteArray → Bool} {a b : List ByteArray} (h : ∀ x, x ∈ a ↔ x ∈ b) : a.any p = b.any p := by
  rw [Bool.eq_iff_iff, List.any_eq_true, List.any_eq_true]
  exact ⟨fun ⟨x, hx, q⟩ => ⟨x, (h x).1 hx, q⟩, fun ⟨x, hx, q⟩ => ⟨x, (h x).2 hx, q⟩⟩
theorem ofE_congr {a b : List ByteArray} (h : ∀ x, x ∈ a ↔ x ∈ b) : ofE a = ofE b := by
  unfold ofE
  rw [all_congr' h, nrm_congr h]
theorem quote_eq {a b : List ByteArray} (ha : setMay a = true) (hb : setMay b = true) : quoteE a b = if (prodW a b).any (fun w => decide (8 < w.size / 2)) then ([], 4) else ofE (prodW a b) := by
  unfold quoteE
  rw [if_neg (by simp [ha, hb])]
theorem and_eq {a b : List ByteArray} (ha : setMay a = true) (hb : setMay b = true) : andE a b = ofE (a ++ b) := by
  unfold andE
  rw [if_neg (by simp [ha, hb])]
theorem quote_congr {a b a' b' : List ByteArray} (ha : setMay a = true) (hb : setMay b = true) (ha' : setMay a' = true) (hb' : setMay b' = true) (h : ∀ w, w ∈ prodW a b ↔ w ∈ prodW a' b') : quoteE a b = quoteE a' b' := by
  rw [quote_eq ha hb, quote_eq ha' hb', any_congr' h, ofE_congr h]
theorem ofE_ok {l : List ByteArray} (h : (ofE l).2 = 0) : ofE l = (nrm l, 0) := by
  unfold ofE at h ⊢
  split at h
  · cases h
  · next h1 =>
    split at h
    · next h2 => rw [if_neg h1, if_pos h2]
    · cases h
/-- a quoting that goes well -/
theorem quote_ok {a b : List ByteArray} (h : (quoteE a b).2 = 0) : setMay a = true ∧ setMay b = true ∧ (∀ w ∈ prodW a b, w.size / 2 ≤ 8) ∧ quoteE a b = (nrm (prodW a b), 0) ∧ setMay (nrm (prodW a b)) = true := by
  have hg := quoteE_good h
  unfold quoteE at h
  split at h
  · cases h
  · next h1 =>
    split at h
    · cases h
    · next h2 =>
      have e : quoteE a b = (nrm (prodW a b), 0) := by
        unfold quoteE
        rw [if_neg h1, if_neg h2, ofE_ok h]
      rw [e] at hg
      simp only [not_or, Bool.not_eq_false] at h1
      refine ⟨h1.1, h1.2, fun w hw => ?_, e, hg⟩
      rw [List.any_eq_true] at h2
      refine Nat.le_of_not_lt fun h8 => h2 ⟨w, hw, by simpa using h8⟩
theorem app_assoc (x y z : ByteArray) : x ++ y ++ z = x ++ (y ++ z) := ByteArray.append_assoc
theorem quote_assoc {a b c : List ByteArray} (h1 : (quoteE a b).2 = 0) (h2 : (quoteE b c).2 = 0) : quoteE (quoteE a b).1 c = quoteE a (quoteE b c).1 := by
  obtain ⟨ha, hb, _, e1, g1⟩ := quote_ok h1
  obtain ⟨_, hc, _, e2, g2⟩ := quote_ok h2
  rw [e1, e2]
  refine quote_congr g1 hc ha g2 fun w => ?_
  simp only [mem_prodW, mem_nrm]
  constructor
  · rintro ⟨_, ⟨x, hx, y, hy, rfl⟩, z, hz, rfl⟩
    exact ⟨x, hx, y ++ z, ⟨y, hy, z, hz, rfl⟩, app_assoc x y z⟩
  · rintro ⟨x, hx, _, ⟨y, hy, z, hz, rfl⟩, rfl⟩
    exact ⟨x ++ y, ⟨x, hx, y, hy, rfl⟩, z, hz, (app_assoc x y z).symm⟩
theorem and_ok {a b : List ByteArray} (ha : setMay a = true) (hb : setMay b = true) (h : (andE a b).2 = 0) : andE a b = (nrm (a ++ b), 0) ∧ setMay (nrm (a ++ b)) = true := by
  by_cases h1 : (nrm (a ++ b)).length ≤ 16
  · exact and_fit ha hb h1
  · rw [and_many ha hb h1] at h; cases h
theorem quote_and {a b c : List ByteArray} (h1 : (quoteE a b).2 = 0) (h2 : (quoteE a c).2 = 0) (h3 : (andE b c).2 = 0) : quoteE a (andE b c).1 = andE (quoteE a b).1 (quoteE a c).1 := by
  obtain ⟨ha, hb, f1, e1, g1⟩ := quote_ok h1
  obtain ⟨_, hc, f2, e2, g2⟩ := quote_ok h2
  obtain ⟨e3, g3⟩ := and_ok hb hc h3
  rw [e1, e2, e3]
  have hmem : ∀ w, w ∈ prodW a (nrm (b ++ c)) ↔ w ∈ prodW a b ∨ w ∈ prodW a c := by
    intro w
    simp only [mem_prodW, mem_nrm, List.mem_append]
    constructor
    · rintro ⟨x, hx, y, hy | hy, rfl⟩
      · exact .inl ⟨x, hx, y, hy, rfl⟩
      · exact .inr ⟨x, hx, y, hy, rfl⟩
    · rintro (⟨x, hx, y, hy, rfl⟩ | ⟨x, hx, y, hy, rfl⟩)
      · exact ⟨x, hx, y, .inl hy, rfl⟩
      · exact ⟨x, hx, y, .inr hy, rfl⟩
  rw [quote_eq ha g3, and_eq g1 g2, if_neg, ofE_congr]
  · intro w
    rw [hmem]
    simp only [List.mem_append, mem_nrm]
  · rw [List.any_eq_true]
    rintro ⟨w, hw, h8⟩
    simp only [decide_eq_true_eq] at h8
    rcases (hmem w).1 hw with h | h
    · have := f1 w h; omega
    · have := f2 w h; omega
theorem for_zero {a b : List ByteArray} (h : (forE a b).2 ≠ 0) : (forE a b).1 = [] := by
  unfold forE at h ⊢
  split
  · next h1 =>
    rw [if_pos h1] at h
    split
    · next h2 => rw [if_pos h2] at h; exact andE_zero h
    · rfl
  · rfl
theorem prodW_one_len (x : ByteArray) (b : List ByteArray) : (prodW [x] b).length = b.length := by simp [prodW]
theorem for_ok {a b : List ByteArray} (h : (forE a b).2 = 0) : (quoteE a b).2 = 0 ∧ (quoteE [atomW 1] b).2 = 0 ∧ andE (quoteE a b).1 (quoteE [atomW 1] b).1 = forE a b ∧ (forE a b).1 = nrm ((quoteE a b).1 ++ (quoteE [atomW 1] b).1) ∧ setMay (forE a b).1 = true := by
  by_cases h1 : (quoteE a b).2 = 0
  · by_cases h2 : (quoteE [atomW 1] b).2 = 0
    · have e : forE a b = andE (quoteE a b).1 (quoteE [atomW 1] b).1 := by unfold forE; rw [if_pos h1, if_pos h2]
      rw [e] at h
      obtain ⟨e2, g⟩ := and_ok (quoteE_good h1) (quoteE_good h2) h
      refine ⟨h1, h2, e.symm, ?_, ?_⟩
      · rw [e, e2]
      · rw [e, e2]; exact g
    · unfold forE at h; rw [if_pos h1, if_neg h2] at h; exact absurd h h2
  · unfold forE at h; rw [if_neg h1] at h; exact absurd h h1
theorem for_has {a b : List ByteArray} (h : (forE a b).2 = 0) {y : ByteArray} (hy : y ∈ b) : atomW 1 ++ y ∈ (forE a b).1 := by
  obtain ⟨_, h2, _, e, _⟩ := for_ok h
  rw [e, mem_nrm, List.mem_append]
  right
  rw [(quote_ok h2).2.2.2.1]
  exact mem_nrm.2 (mem_prodW.2 ⟨atomW 1, by simp, y, hy, rfl⟩)
theorem for_within {a b : List ByteArray} (h : (forE a b).2 = 0) : withinE (quoteE a b).1 (forE a b).1 = true := by
  obtain ⟨_, _, _, e, _⟩ := for_ok h
  rw [e]; exact within_left
theorem for_len {a b : List ByteArray} (h : (forE a b).2 = 0) : (forE a b).1.length ≤ (quoteE a b).1.length + b.length := by
  obtain ⟨_, h2, _, e, _⟩ := for_ok h
  have h3 := nrm_len ((quoteE a b).1 ++ (quoteE [atomW 1] b).1)
  have h4 := nrm_len (prodW [atomW 1] b)
  rw [prodW_one_len] at h4
  rw [List.length_append] at h3
  have h5 : (quoteE [atomW 1] b).1 = nrm (prodW [atomW 1] b) := by rw [(quote_ok h2).2.2.2.1]
  rw [e]
  rw [h5] at h3 ⊢
  omega
end Go.Proofs.Ytajpibdchgflnaa
