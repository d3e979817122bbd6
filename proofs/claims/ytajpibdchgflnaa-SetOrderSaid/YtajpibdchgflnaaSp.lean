/- The plain part of sets: words in order, each once; what comes of words and of sets. No program in sight. -/
import Derived.Test.YtajpibdchgflnaaWdP
import Derived.Test.YtajpibdchgflnaaAb3
namespace Go.Proofs.Ytajpibdchgflnaa
set_option linter.unusedSimpArgs false
set_option linter.unusedVariables false
open Go.RowKit

theorem bl_trans : ∀ (a b c : List UInt8), Op.bytesLess a b = true → Op.bytesLess b c = true → Op.bytesLess a c = true
  | [], [], _, h, _ => by simp [Op.bytesLess] at h
  | [], _ :: _, [], _, h => by simp [Op.bytesLess] at h
  | [], _ :: _, _ :: _, _, _ => by simp [Op.bytesLess]
  | _ :: _, [], _, h, _ => by simp [Op.bytesLess] at h
  | _ :: _, _ :: _, [], _, h => by simp [Op.bytesLess] at h
  | x :: a, y :: b, z :: c, h1, h2 => by
    simp only [Op.bytesLess, Bool.or_eq_true, decide_eq_true_eq, Bool.and_eq_true, beq_iff_eq] at h1 h2 ⊢
    rcases h1 with h1 | ⟨rfl, h1⟩
    · rcases h2 with h2 | ⟨rfl, h2⟩
      · exact .inl (UInt8.lt_trans h1 h2)
      · exact .inl h1
    · rcases h2 with h2 | ⟨rfl, h2⟩
      · exact .inl h2
      · exact .inr ⟨rfl, bl_trans a b c h1 h2⟩
theorem bl_total : ∀ (a b : List UInt8), a = b ∨ Op.bytesLess a b = true ∨ Op.bytesLess b a = true
  | [], [] => .inl rfl
  | [], _ :: _ => .inr (.inl (by simp [Op.bytesLess]))
  | _ :: _, [] => .inr (.inr (by simp [Op.bytesLess]))
  | x :: a, y :: b => by
    simp only [Op.bytesLess, Bool.or_eq_true, decide_eq_true_eq, Bool.and_eq_true, beq_iff_eq]
    by_cases h1 : x < y
    · exact .inr (.inl (.inl h1))
    · by_cases h2 : y < x
      · exact .inr (.inr (.inl h2))
      · have e : x = y := by
          have h1' : ¬ x.toNat < y.toNat := fun h => h1 (UInt8.lt_iff_toNat_lt.2 h)
          have h2' : ¬ y.toNat < x.toNat := fun h => h2 (UInt8.lt_iff_toNat_lt.2 h)
          exact UInt8.toNat_inj.1 (by omega)
        subst e
        rcases bl_total a b with rfl | h | h
        · exact .inl rfl
        · exact .inr (.inl (.inr ⟨rfl, h⟩))
        · exact .inr (.inr (.inr ⟨rfl, h⟩))
theorem wless_irrefl (a : ByteArray) : wless a a = false := by
  unfold wless; rw [if_pos rfl]; exact bytesLess_self _
theorem wless_trans {a b c : ByteArray} (h1 : wless a b = true) (h2 : wless b c = true) : wless a c = true := by
  unfold wless at *
  split at h1
  · next e1 =>
    split at h2
    · next e2 => rw [if_pos (e1.trans e2)]; exact bl_trans _ _ _ h1 h2
    · next e2 => simp only [decide_eq_true_eq] at h2; rw [if_neg (by omega)]; simp only [decide_eq_true_eq]; omega
  · next e1 =>
    simp only [decide_eq_true_eq] at h1
    split at h2
    · next e2 => rw [if_neg (by omega)]; simp only [decide_eq_true_eq]; omega
    · next e2 => simp only [decide_eq_true_eq] at h2; rw [if_neg (by omega)]; simp only [decide_eq_true_eq]; omega
theorem wless_total (a b : ByteArray) : a = b ∨ wless a b = true ∨ wless b a = true := by
  unfold wless
  by_cases e : a.size = b.size
  · rw [if_pos e, if_pos e.symm]
    rcases bl_total a.toList b.toList with h | h
    · refine .inl (WideShapes.bytes_inj ?_)
      rwa [ByteArray.toList_eq, ByteArray.toList_eq] at h
    · exact .inr h
  · rw [if_neg e, if_neg (fun h => e h.symm)]
    simp only [decide_eq_true_eq]
    omega
theorem wless_asymm {a b : ByteArray} (h : wless a b = true) : wless b a = false := by
  cases hb : wless b a with
  | false => rfl
  | true => have := wless_trans h hb; rw [wless_irrefl] at this; cases this

/-- a word laid where it belongs -/
def ins (x : ByteArray) : List ByteArray → List ByteArray
  | [] => [x]
  | y :: l => if wless x y then x :: y :: l else if wless y x then y :: ins x l else y :: l
/-- words in order, each once -/
def nrm : List ByteArray → List ByteArray
  | [] => []
  | x :: l => ins x (nrm l)
theorem rising_cons {x : ByteArray} {l : List ByteArray} : rising (x :: l) = true ↔ (∀ y ∈ l, wless x y = true) ∧ rising l = true := by
  constructor
  · intro h
    induction l generalizing x with
    | nil => exact ⟨fun y hy => by simp at hy, rfl⟩
    | cons y r ih =>
      simp only [rising, Bool.and_eq_true] at h
      obtain ⟨h1, h2⟩ := ih h.2
      refine ⟨fun z hz => ?_, h.2⟩
      rcases List.mem_cons.1 hz with rfl | hz
      · exact h.1
      · exact wless_trans h.1 (h1 z hz)
  · rintro ⟨h1, h2⟩
    cases l with
    | nil => rfl
    | cons y r => simp only [rising, Bool.and_eq_true]; exact ⟨h1 y (by simp), h2⟩
theorem mem_ins {x y : ByteArray} : ∀ {l : List ByteArray}, y ∈ ins x l ↔ y = x ∨ y ∈ l
  | [] => by simp [ins]
  | z :: l => by
    simp only [ins]
    split
    · simp
    · split
      · simp only [List.mem_cons, mem_ins (l := l)]
        constructor
        · rintro (h | h | h)
          · exact .inr (.inl h)
          · exact .inl h
          · exact .inr (.inr h)
        · rintro (h | h | h)
          · exact .inr (.inl h)
          · exact .inl h
          · exact .inr (.inr h)
      · next h1 h2 =>
        have e : x = z := by
          rcases wless_total x z with h | h | h
          · exact h
          · exact absurd h h1
          · exact absurd h h2
        subst e
        simp
theorem rising_ins {x : ByteArray} : ∀ {l : List ByteArray}, rising l = true → rising (ins x l) = true
  | [], _ => rfl
  | z :: l, h => by
    obtain ⟨h1, h2⟩ := rising_cons.1 h
    simp only [ins]
    split
    · next hx => exact rising_cons.2 ⟨fun y hy => by rcases List.mem_cons.1 hy with rfl | hy; exact hx; exact wless_trans hx (h1 y hy), h⟩
    · split
      · next hz => exact rising_cons.2 ⟨fun y hy => by rcases mem_ins.1 hy with rfl | hy; exact hz; exact h1 y hy, rising_ins h2⟩
      · exact h
theorem mem_nrm {y : ByteArray} : ∀ {l : List ByteArray}, y ∈ nrm l ↔ y ∈ l
  | [] => by simp [nrm]
  | x :: l => by simp only [nrm, mem_ins, mem_nrm (l := l), List.mem_cons]
theorem rising_nrm : ∀ l : List ByteArray, rising (nrm l) = true
  | [] => rfl
  | x :: l => rising_ins (rising_nrm l)
theorem rising_ext : ∀ {a b : List ByteArray}, rising a = true → rising b = true → (∀ x, x ∈ a ↔ x ∈ b) → a = b
  | [], [], _, _, _ => rfl
  | [], y :: b, _, _, h => by have := (h y).2 (by simp); simp at this
  | x :: a, [], _, _, h => by have := (h x).1 (by simp); simp at this
  | x :: a, y :: b, ha, hb, h => by
    obtain ⟨ha1, ha2⟩ := rising_cons.1 ha
    obtain ⟨hb1, hb2⟩ := rising_cons.1 hb
    have e : x = y := by
      rcases List.mem_cons.1 ((h x).1 (by simp)) with e | hx
      · exact e
      · rcases List.mem_cons.1 ((h y).2 (by simp)) with e | hy
        · exact e.symm
        · have h1 := hb1 x hx
          have h2 := ha1 y hy
          rw [wless_asymm h1] at h2; cases h2
    subst e
    congr 1
    refine rising_ext ha2 hb2 fun z => ?_
    have hz := h z
    simp only [List.mem_cons] at hz
    constructor
    · intro hza
      rcases hz.1 (.inr hza) with rfl | hzb
      · have := ha1 z hza; rw [wless_irrefl] at this; cases this
      · exact hzb
    · intro hzb
      rcases hz.2 (.inr hzb) with rfl | hza
      · have := hb1 z hzb; rw [wless_irrefl] at this; cases this
      · exact hza
theorem nrm_eq {l r : List ByteArray} (hr : rising r = true) (h : ∀ x, x ∈ r ↔ x ∈ l) : r = nrm l :=
  rising_ext hr (rising_nrm l) fun x => (h x).trans mem_nrm.symm
theorem nrm_rising {l : List ByteArray} (h : rising l = true) : nrm l = l := (nrm_eq h fun _ => .rfl).symm
theorem nrm_congr {a b : List ByteArray} (h : ∀ x, x ∈ a ↔ x ∈ b) : nrm a = nrm b := nrm_eq (rising_nrm a) fun x => mem_nrm.trans (h x)
theorem setMay_rising {l : List ByteArray} (h : setMay l = true) : rising l = true := by
  unfold setMay at h
  simp only [Bool.and_eq_true] at h
  exact h.2
theorem setMay_mk {l : List ByteArray} (h1 : 1 ≤ l.length) (h2 : l.length ≤ 16) (h3 : ∀ x ∈ l, wordMay x = true) (h4 : rising l = true) : setMay l = true := by
  unfold setMay
  simp only [Bool.and_eq_true, decide_eq_true_eq, List.all_eq_true]
  exact ⟨⟨⟨h1, h2⟩, h3⟩, h4⟩

/-- what comes of words, or what is wrong -/
def ofE (l : List ByteArray) : List ByteArray × Int := if l.all wordMay = false then ([], 2) else if 1 ≤ (nrm l).length ∧ (nrm l).length ≤ 16 then (nrm l, 0) else ([], 3)
def andE (a b : List ByteArray) : List ByteArray × Int := if setMay a = false ∨ setMay b = false then ([], 2) else ofE (a ++ b)
def prodW (a b : List ByteArray) : List ByteArray := a.flatMap fun x => b.map fun y => x ++ y
def quoteE (a b : List ByteArray) : List ByteArray × Int := if setMay a = false ∨ setMay b = false then ([], 2) else if (prodW a b).any (fun w => decide (8 < w.size / 2)) then ([], 4) else ofE (prodW a b)
def atomW (a : Nat) : ByteArray := ⟨#[UInt8.ofNat (a / 256), UInt8.ofNat (a % 256)]⟩
def asE (a : List ByteArray) (role : Nat) : List ByteArray × Int := if setMay a = false then ([], 2) else if role / 8192 = 5 then quoteE a [atomW role] else ([], 1)
def forE (a b : List ByteArray) : List ByteArray × Int := if (quoteE a b).2 = 0 then (if (quoteE [atomW 1] b).2 = 0 then andE (quoteE a b).1 (quoteE [atomW 1] b).1 else ([], (quoteE [atomW 1] b).2)) else ([], (quoteE a b).2)
/-- is a word one of these? -/
def hasW (l : List ByteArray) (w : ByteArray) : Bool := l.any fun y => decide (w = y)
theorem hasW_iff {l : List ByteArray} {w : ByteArray} : hasW l w = true ↔ w ∈ l := by
  unfold hasW
  rw [List.any_eq_true]
  constructor
  · rintro ⟨y, hy, h⟩; simp only [decide_eq_true_eq] at h; subst h; exact hy
  · intro h; exact ⟨w, h, by simp⟩
theorem hasW_no {l : List ByteArray} {w : ByteArray} : hasW l w = false ↔ w ∉ l := by
  rw [← hasW_iff]; cases hasW l w <;> simp
def withinE (a b : List ByteArray) : Bool := a.all fun w => hasW b w
theorem withinE_iff {a b : List ByteArray} : withinE a b = true ↔ ∀ w ∈ a, w ∈ b := by
  unfold withinE
  rw [List.all_eq_true]
  exact ⟨fun h w hw => hasW_iff.1 (h w hw), fun h w hw => hasW_iff.2 (h w hw)⟩
def heavyE (s : List ByteArray) : Nat := s.foldl (fun n w => max n (w.size / 2)) 0
end Go.Proofs.Ytajpibdchgflnaa
