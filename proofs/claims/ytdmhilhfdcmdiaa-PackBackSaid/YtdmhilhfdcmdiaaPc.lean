/- The plain law of writing: what is written is read. -/
import Derived.Test.YtdmhilhfdcmdiaaPb
namespace Go.Proofs.Ytdmhilhfdcmdiaa
set_option linter.unusedSimpArgs false
set_option linter.unusedVariables false
open Go.RowKit Go.Lib

theorem snocRec {α : Type} {p : List α → Prop} (nil : p []) (append_singleton : ∀ (l : List α) (x : α), p l → p (l ++ [x])) (l : List α) : p l := by
  rw [← List.reverse_reverse l]
  induction l.reverse with
  | nil => exact nil
  | cons x r ih => rw [List.reverse_cons]; exact append_singleton _ _ ih
theorem rNum_at {S : ByteArray} {most : Int} {p n : Nat} {r : List UInt8} (h : S.data.toList.drop p = num n ++ r) (hn : n ≤ 4611686018427387904) (hm : (n : Int) ≤ most) : rNum S most p = some (n, p + (num n).length) := by
  unfold rNum
  rw [h, rdNum_num r hn]
  simp only
  rw [if_pos hm]
theorem drop_more {S : ByteArray} {p : Nat} {a r : List UInt8} (h : S.data.toList.drop p = a ++ r) : S.data.toList.drop (p + a.length) = r := by
  rw [← List.drop_drop, h, List.drop_left]
theorem drop_len {S : ByteArray} {p : Nat} {a r : List UInt8} (h : S.data.toList.drop p = a ++ r) : p + a.length ≤ S.size ∨ a = [] := by
  have := congrArg List.length h
  simp only [List.length_drop, List.length_append, ba_len] at this
  by_cases ha : a = []
  · exact .inr ha
  · have : 0 < a.length := List.length_pos_iff.2 ha
    exact .inl (by omega)
theorem rTake_at {S w : ByteArray} {p : Nat} {r : List UInt8} (h : S.data.toList.drop p = w.data.toList ++ r) (hp : p ≤ S.size) : rTake S w.size p = some (w, p + w.size) := by
  have hl := congrArg List.length h
  simp only [List.length_drop, List.length_append, ba_len] at hl
  unfold rTake
  rw [if_neg (by omega)]
  congr 2
  apply WideShapes.bytes_inj
  rw [ext_list, h, ← ba_len w, List.take_left]
theorem rText_at {S w : ByteArray} {p : Nat} {r : List UInt8} (h : S.data.toList.drop p = (num w.size ++ w.data.toList) ++ r) (hp : p ≤ S.size) (hw : w.size ≤ 4611686018427387904) : rText S w.size p = some (w, p + (num w.size ++ w.data.toList).length) := by
  unfold rText
  rw [List.append_assoc] at h
  rw [rNum_at h hw (by omega)]
  have h1 := drop_more h
  have hq : p + (num w.size).length ≤ S.size := by
    rcases drop_len h with h2 | h2
    · exact h2
    · rw [h2]; exact hp
  simp only
  rw [rTake_at h1 hq, List.length_append, ba_len, Nat.add_assoc]
theorem rWord_at {S w : ByteArray} {p : Nat} {r : List UInt8} (h : S.data.toList.drop p = wordBytes w ++ r) (hw : wordMay w = true) : rWord S p = some (w, p + (wordBytes w).length) := by
  have hs := wordMay_size hw
  have hl := congrArg List.length h
  have hwl : (wordBytes w).length = 1 + w.size := by rw [wordBytes, List.length_cons, ba_len]; omega
  simp only [List.length_drop, List.length_append, ba_len, hwl] at hl
  have hp : p < S.data.toList.length := by rw [ba_len]; omega
  have hb : byteAt S p = w.size / 2 := by
    unfold byteAt
    rw [← List.head?_drop, h]
    simp [wordBytes]; omega
  have h1 : S.data.toList.drop (p + 1) = w.data.toList ++ r := by
    rw [← List.drop_drop, h, wordBytes]; rfl
  unfold rWord
  rw [if_neg (by omega), hb, show 2 * (w.size / 2) = w.size by omega, if_neg (by omega)]
  have e : S.extract (p + 1) (p + 1 + w.size) = w := by
    apply WideShapes.bytes_inj
    rw [ext_list, h1, ← ba_len w, List.take_left]
  rw [e, hw, if_pos rfl, hwl]
  congr 2; omega
theorem rWords_at {S : ByteArray} : ∀ (l : List ByteArray) {p : Nat} {r : List UInt8}, S.data.toList.drop p = l.flatMap wordBytes ++ r → (∀ w ∈ l, wordMay w = true) → rWords S p l.length = some (l, p + (l.flatMap wordBytes).length) := by
  intro l
  induction l using snocRec with
  | nil => intro p r _ _; rfl
  | append_singleton l w ih =>
    intro p r h hw
    rw [List.flatMap_append, List.append_assoc] at h
    have h1 := drop_more h
    rw [List.length_append]
    simp only [List.length_cons, List.length_nil, Nat.zero_add, rWords]
    rw [ih h (fun x hx => hw x (by simp [hx]))]
    simp only [List.flatMap_cons, List.flatMap_nil, List.append_nil] at h1
    simp only
    rw [rWord_at h1 (hw w (by simp))]
    simp [Nat.add_assoc]
theorem rSet_at {S : ByteArray} {l : List ByteArray} {p : Nat} {r : List UInt8} (h : S.data.toList.drop p = setBytes l ++ r) (hm : setMay l = true) : rSet S p = some (l, p + (setBytes l).length) := by
  have hs := setMay_words hm
  have hl := congrArg List.length h
  have hwl : (setBytes l).length = 1 + (l.flatMap wordBytes).length := by rw [setBytes, List.length_cons]; omega
  simp only [List.length_drop, List.length_append, ba_len, hwl] at hl
  have hb : byteAt S p = l.length := by
    unfold byteAt
    rw [← List.head?_drop, h]
    simp [setBytes]; omega
  have h1 : S.data.toList.drop (p + 1) = l.flatMap wordBytes ++ r := by
    rw [← List.drop_drop, h, setBytes]; rfl
  unfold rSet
  rw [if_neg (by omega), hb, rWords_at l h1 hs.2]
  simp only
  rw [hm, if_pos rfl, hwl]
  congr 2; omega

/-- an item's bytes, and whether it may be written -/
def itemBytes (x : Item) : List UInt8 := if x.kind = 0 then num x.n.toNat else if x.kind = 1 then num x.t.size ++ x.t.data.toList else if x.kind = 2 then wordBytes x.w else if x.kind = 3 then setBytes x.s else []
def itemOk (x : Item) : Bool := if x.kind = 0 then okNum x.n else if x.kind = 1 then true else if x.kind = 2 then wordMay x.w else if x.kind = 3 then setMay x.s else true
/-- all that is written -/
def wrs (l : List Item) : Bool × List UInt8 := l.foldl (fun s x => wri (itemOk x) (itemBytes x) s) (false, [])
theorem wrs_snoc (l : List Item) (x : Item) : wrs (l ++ [x]) = wri (itemOk x) (itemBytes x) (wrs l) := by unfold wrs; rw [List.foldl_append]; rfl
theorem wrs_good : ∀ (l : List Item), (wrs l).1 = false → (∀ x ∈ l, itemOk x = true) ∧ (wrs l).2 = l.flatMap itemBytes := by
  intro l
  induction l using snocRec with
  | nil => intro _; exact ⟨fun x hx => by simp at hx, rfl⟩
  | append_singleton l x ih =>
    intro h
    rw [wrs_snoc] at h ⊢
    cases hb : (wrs l).1 with
    | true => rw [show wrs l = (true, (wrs l).2) by rw [← hb]] at h; cases h
    | false =>
      obtain ⟨h1, h2⟩ := ih hb
      have e : wrs l = (false, l.flatMap itemBytes) := by rw [← h2, ← hb]
      rw [e] at h ⊢
      cases hok : itemOk x with
      | false => rw [hok] at h; cases h
      | true =>
        refine ⟨fun y hy => ?_, ?_⟩
        · rcases List.mem_append.1 hy with hy | hy
          · exact h1 y hy
          · simp at hy; subst hy; exact hok
        · rw [wri_yes]; simp
theorem itemBytes_len {x : Item} (hs : small x) (hk : itemOk x = true) : (itemBytes x).length ≤ 7000 := by
  unfold itemBytes itemOk at *
  obtain ⟨h1, h2, h3, h4⟩ := hs
  split
  · next h0 =>
    rw [if_pos h0] at hk
    simp only [okNum, decide_eq_true_eq] at hk
    have := num_len9 (n := x.n.toNat) (by omega)
    omega
  · split
    · have := num_len9 (n := x.t.size) (by omega)
      rw [List.length_append, ba_len]; omega
    · split
      · rw [wordBytes, List.length_cons, ba_len]; omega
      · split
        · have : ∀ l : List ByteArray, (∀ y ∈ l, y.size ≤ 100) → (l.flatMap wordBytes).length ≤ 101 * l.length := by
            intro l
            induction l with
            | nil => simp
            | cons y l ih =>
              intro h
              have := ih (fun z hz => h z (by simp [hz]))
              have := h y (by simp)
              rw [List.flatMap_cons, List.length_append, wordBytes, List.length_cons, ba_len, List.length_cons]; omega
          have := this x.s h4
          rw [setBytes, List.length_cons]; omega
        · simp
theorem wri_none (s : Bool × List UInt8) : wri true [] s = s := by
  obtain ⟨b, l⟩ := s
  cases b <;> simp [wri]
end Go.Proofs.Ytdmhilhfdcmdiaa
