/- The plain part for package atom: tables as lists of names. No program in sight. -/
import Derived.Test.YtpiofcjkekpboaaBase
namespace Go.Proofs.Ytpiofcjkekpboaa
set_option linter.unusedSimpArgs false
set_option linter.unusedVariables false
open Go.RowKit Go.Maps

/-- may this byte stand at place i of a name? -/
def okAt (i : Nat) (c : Nat) : Bool := decide (97 ≤ c ∧ c ≤ 122) || (decide (i ≠ 0) && (decide (48 ≤ c ∧ c ≤ 57) || decide (c = 45) || decide (c = 46)))
/-- is this text a name? -/
def mayB (s : ByteArray) : Bool := decide (1 ≤ s.size ∧ s.size ≤ 24 ∧ ∀ j, (h : j < s.size) → okAt j s[j].toNat = true)

theorem may_no (s : ByteArray) (k : Nat) (h : k < s.size) (hn : okAt k s[k].toNat = false) : mayB s = false := by
  simp only [mayB, decide_eq_false_iff_not]
  rintro ⟨_, _, h3⟩
  have := h3 k h
  simp [hn] at this
theorem may_yes (s : ByteArray) (k : Nat) (h : s.size ≤ k) (h1 : 1 ≤ s.size) (h2 : s.size ≤ 24) (hn : ∀ j, (h : j < s.size) → j < k → okAt j s[j].toNat = true) : mayB s = true := by
  simp only [mayB, decide_eq_true_eq]
  exact ⟨h1, h2, fun j hj => hn j hj (by omega)⟩
theorem may_step {s : ByteArray} {k : Nat} (h : ∀ j, (h : j < s.size) → j < k → okAt j s[j].toNat = true) (hk : (h : k < s.size) → okAt k s[k].toNat = true) : ∀ j, (h : j < s.size) → j < k + 1 → okAt j s[j].toNat = true := by
  intro j hj hjk
  by_cases e : j = k
  · subst e; exact hk hj
  · exact h j hj (by omega)

/-- The place of a name on a list; the list's length if it isn't there. -/
def posOf (s : ByteArray) : List ByteArray → Nat
  | [] => 0
  | x :: xs => if x = s then 0 else posOf s xs + 1

theorem posOf_le (s : ByteArray) : ∀ l, posOf s l ≤ l.length
  | [] => Nat.le_refl _
  | x :: xs => by
    simp only [posOf, List.length_cons]
    split
    · omega
    · have := posOf_le s xs; omega
theorem posOf_mem {s : ByteArray} : ∀ {l : List ByteArray}, posOf s l < l.length ↔ s ∈ l
  | [] => by simp [posOf]
  | x :: xs => by
    simp only [posOf, List.length_cons, List.mem_cons]
    by_cases e : x = s
    · simp [e]
    · have := @posOf_mem s xs
      simp [e, Ne.symm e, ← this]
instance memDec (s : ByteArray) (l : List ByteArray) : Decidable (s ∈ l) := decidable_of_iff (posOf s l < l.length) posOf_mem
theorem posOf_none {s : ByteArray} {l : List ByteArray} (h : s ∉ l) : posOf s l = l.length := by
  have := posOf_le s l
  have h2 := (not_congr (@posOf_mem s l)).2 h
  omega
theorem posOf_append_left {s : ByteArray} : ∀ {l : List ByteArray} (r : List ByteArray), s ∈ l → posOf s (l ++ r) = posOf s l
  | [], r, h => by cases h
  | x :: xs, r, h => by
    simp only [List.cons_append, posOf]
    by_cases e : x = s
    · simp [e]
    · simp [e]
      rcases List.mem_cons.1 h with h | h
      · exact absurd h.symm e
      · exact posOf_append_left r h
theorem posOf_append_right {s : ByteArray} : ∀ {l : List ByteArray} (r : List ByteArray), s ∉ l → posOf s (l ++ r) = l.length + posOf s r
  | [], r, _ => by simp
  | x :: xs, r, h => by
    simp only [List.mem_cons, not_or] at h
    have e : ¬ x = s := fun e => h.1 e.symm
    simp [posOf, e, posOf_append_right r h.2]
    omega
theorem posOf_get {s : ByteArray} : ∀ {l : List ByteArray} (_ : posOf s l < l.length), l[posOf s l]? = some s
  | [], h => by simp at h
  | x :: xs, h => by
    simp only [posOf] at h ⊢
    split
    · rename_i e; simp [e]
    · rename_i e
      simp only [if_neg e, List.length_cons] at h
      simpa using posOf_get (l := xs) (by omega)
/-- An element's own place, if no other one ahead is the same. -/
theorem posOf_of_get {s : ByteArray} : ∀ {l : List ByteArray} {i : Nat}, l[i]? = some s → (∀ j, j < i → l[j]? ≠ some s) → posOf s l = i
  | [], i, h, _ => by simp at h
  | x :: xs, 0, h, _ => by simp at h; simp [posOf, h]
  | x :: xs, i + 1, h, hn => by
    have h0 := hn 0 (by omega)
    simp at h h0
    simp only [posOf, if_neg h0]
    rw [posOf_of_get h (fun j hj => by have := hn (j + 1) (by omega); simpa using this)]

/-- The table that a name was put into. -/
def upd (L : Nat → List ByteArray) (k : Nat) (l : List ByteArray) : Nat → List ByteArray := fun j => if j = k then l else L j
theorem upd_same (L : Nat → List ByteArray) (k : Nat) (l : List ByteArray) : upd L k l k = l := by simp [upd]
theorem upd_other (L : Nat → List ByteArray) {k j : Nat} (l : List ByteArray) (h : j ≠ k) : upd L k l j = L j := by simp [upd, h]

/-- the table behind Put -/
def putL (L : Nat → List ByteArray) (kd : Int) (s : ByteArray) : Nat → List ByteArray :=
  if 1 ≤ kd ∧ kd ≤ 5 ∧ mayB s = true ∧ s ∉ L kd.toNat ∧ (L kd.toNat).length < 4000 then upd L kd.toNat (L kd.toNat ++ [s]) else L
/-- the error of Put -/
def putE (L : Nat → List ByteArray) (kd : Int) (s : ByteArray) : Int :=
  if kd < 1 ∨ 5 < kd then 1 else if mayB s = false then 2 else if s ∈ L kd.toNat then 0 else if (L kd.toNat).length < 4000 then 0 else 3
/-- the atom of Put -/
def putA (L : Nat → List ByteArray) (kd : Int) (s : ByteArray) : Int := if putE L kd s = 0 then 8192 * kd + (posOf s (L kd.toNat) + 1) else 0
/-- Find -/
def findB (L : Nat → List ByteArray) (kd : Int) (s : ByteArray) : Bool := decide (1 ≤ kd ∧ kd ≤ 5 ∧ s ∈ L kd.toNat)
def findA (L : Nat → List ByteArray) (kd : Int) (s : ByteArray) : Int := if findB L kd s = true then 8192 * kd + (posOf s (L kd.toNat) + 1) else 0
/-- Name -/
def nameB (L : Nat → List ByteArray) (a : Nat) : Bool := decide (a = 1 ∨ (1 ≤ a / 8192 ∧ a / 8192 ≤ 5 ∧ 1 ≤ a % 8192 ∧ a % 8192 ≤ (L (a / 8192)).length))
def nameS (L : Nat → List ByteArray) (a : Nat) : ByteArray := if a = 1 then ⟨#[68]⟩ else if nameB L a = true then (L (a / 8192)).getD (a % 8192 - 1) ByteArray.empty else ByteArray.empty
/-- All -/
def allL (L : Nat → List ByteArray) (kd : Int) : List ByteArray := if 1 ≤ kd ∧ kd ≤ 5 then L kd.toNat else []

/-- A dictionary that tells each name's atom. -/
structure DictOf (k : Nat) (l : List ByteArray) (D : DataW Unit) : Prop where
  isMap : IsMap D
  has : ∀ s : ByteArray, Maps.has D (.string s.data.toList) = decide (s ∈ l)
  at_ : ∀ s : ByteArray, s ∈ l → D.atKey (.string s.data.toList) (.lit (.int .u16 0)) = .lit (.int .u16 (8192 * k + (posOf s l + 1)))

theorem lit_ne {s t : ByteArray} (h : s ≠ t) : (Lit.string s.data.toList) ≠ Lit.string t.data.toList := by
  intro e
  injection e with e
  apply h
  cases s with | mk a => cases t with | mk c => exact congrArg ByteArray.mk (Array.toList_inj.1 e)

theorem dict_nil (k : Nat) : DictOf k [] (.map []) := ⟨isMap_empty, fun s => by simp [Maps.has], fun s h => by cases h⟩

theorem dict_snoc {k : Nat} {l : List ByteArray} {D : DataW Unit} (h : DictOf k l D) (s : ByteArray) (hs : s ∉ l) :
    DictOf k (l ++ [s]) (D.put (.string s.data.toList) (.lit (.int .u16 (8192 * k + (l.length + 1))))) := by
  refine ⟨h.isMap.put _ _, fun t => ?_, fun t ht => ?_⟩
  · by_cases e : t = s
    · subst e; rw [has_put_same h.isMap (by exact ⟨⟩)]; simp
    · rw [has_put_other (lit_ne e), h.has]; simp [e]
  · by_cases e : t = s
    · subst e; rw [atKey_put_same h.isMap (by exact ⟨⟩), posOf_append_right _ hs]; simp [posOf]
    · have ht' : t ∈ l := by simpa [e] using ht
      rw [atKey_put_other (lit_ne e), h.at_ t ht', posOf_append_left _ ht']

/-- Load: one name of kind k -/
def loadStep (k : Nat) (st : (Nat → List ByteArray) × Int) (s : ByteArray) : (Nat → List ByteArray) × Int :=
  if st.2 ≠ 0 then st else if s ∈ st.1 k then (st.1, 11) else if putE st.1 k s ≠ 0 then (st.1, putE st.1 k s) else (putL st.1 k s, 0)
def loadKind (ls : Nat → List ByteArray) (st : (Nat → List ByteArray) × Int) (k : Nat) : (Nat → List ByteArray) × Int := (ls k).foldl (loadStep k) st
/-- the kinds from 1 to j -/
def loadTo (ls : Nat → List ByteArray) : Nat → (Nat → List ByteArray) × Int
  | 0 => (fun _ => [], 0)
  | j + 1 => loadKind ls (loadTo ls j) (j + 1)

theorem loadStep_err {k : Nat} {st : (Nat → List ByteArray) × Int} (h : st.2 ≠ 0) (s : ByteArray) : loadStep k st s = st := by simp [loadStep, h]
theorem load_err {k : Nat} {st : (Nat → List ByteArray) × Int} (h : st.2 ≠ 0) : ∀ l : List ByteArray, l.foldl (loadStep k) st = st
  | [] => rfl
  | s :: r => by rw [List.foldl_cons, loadStep_err h, load_err h r]
theorem loadTo_err {ls : Nat → List ByteArray} {j : Nat} (h : (loadTo ls j).2 ≠ 0) : ∀ d, loadTo ls (j + d) = loadTo ls j
  | 0 => rfl
  | d + 1 => by
    have := loadTo_err h d
    show loadKind ls (loadTo ls (j + d)) (j + d + 1) = _
    rw [this, loadKind, load_err h]
/-- An error at a name of a kind is Load's. -/
theorem loadTo_fails {ls : Nat → List ByteArray} {j i : Nat} {st : (Nat → List ByteArray) × Int} {s : ByteArray} (hj : j < 5) (h : ((ls (j + 1)).take i).foldl (loadStep (j + 1)) (loadTo ls j) = st)
    (hs : (ls (j + 1))[i]? = some s) (he : (loadStep (j + 1) st s).2 ≠ 0) : (loadTo ls 5).2 = (loadStep (j + 1) st s).2 := by
  have hi : i < (ls (j + 1)).length := (List.getElem?_eq_some_iff.1 hs).1
  have e : ls (j + 1) = (ls (j + 1)).take i ++ s :: (ls (j + 1)).drop (i + 1) := by
    conv => lhs; rw [← List.take_append_drop i (ls (j + 1))]
    rw [List.drop_eq_getElem_cons hi, (List.getElem?_eq_some_iff.1 hs).2]
  have h1 : loadTo ls (j + 1) = loadStep (j + 1) st s := by
    show (ls (j + 1)).foldl _ _ = _
    rw [e, List.foldl_append, h, List.foldl_cons, load_err he]
  have h2 := loadTo_err (ls := ls) (j := j + 1) (by rw [h1]; exact he) (4 - j)
  rw [show j + 1 + (4 - j) = 5 by omega] at h2
  rw [h2, h1]
theorem take_foldl {α β : Type} (f : β → α → β) (l : List α) (b : β) (i : Nat) (x : α) (h : l[i]? = some x) : (l.take (i + 1)).foldl f b = f ((l.take i).foldl f b) x := by
  have hi : i < l.length := (List.getElem?_eq_some_iff.1 h).1
  rw [List.take_succ_eq_append_getElem hi, List.foldl_append, (List.getElem?_eq_some_iff.1 h).2]
  rfl

end Go.Proofs.Ytpiofcjkekpboaa
