/- The plain law of reading: what is read was written so. -/
import Derived.Test.YtdmhilhfdcmdiaaLa
namespace Go.Proofs.Ytdmhilhfdcmdiaa
set_option linter.unusedSimpArgs false
set_option linter.unusedVariables false
open Go.RowKit Go.Lib

/-- what was read up to a place -/
def upTo (S : ByteArray) (p : Nat) : List UInt8 := S.data.toList.take p
theorem upTo_add (S : ByteArray) (p m : Nat) : upTo S (p + m) = upTo S p ++ (S.data.toList.drop p).take m := by
  unfold upTo; rw [List.take_add]
theorem upTo_size (S : ByteArray) : upTo S S.size = S.data.toList := by unfold upTo; rw [List.take_of_length_le (by simp)]
theorem upTo_len {S : ByteArray} {p : Nat} (h : p ≤ S.size) : (upTo S p).length = p := by unfold upTo; rw [List.length_take]; simp; omega
theorem ext_list (S : ByteArray) (p m : Nat) : (S.extract p (p + m)).data.toList = (S.data.toList.drop p).take m := by
  simp [List.extract_eq_take_drop]
theorem upTo_num {S : ByteArray} {most : Int} {p n q : Nat} (h : rNum S most p = some (n, q)) : upTo S q = upTo S p ++ num n := by
  unfold rNum at h
  split at h
  · next n' m hr =>
    split at h
    · simp only [Option.some.injEq, Prod.mk.injEq] at h
      obtain ⟨rfl, rfl⟩ := h
      rw [upTo_add, rdNum_back hr]
    · cases h
  · cases h
theorem upTo_take {S w : ByteArray} {n p q : Nat} (h : rTake S n p = some (w, q)) : upTo S q = upTo S p ++ w.data.toList ∧ w.size = n := by
  obtain ⟨rfl, h2, rfl⟩ := rTake_le h
  rw [upTo_add, ext_list]
  exact ⟨rfl, by simp; omega⟩
theorem upTo_text {S w : ByteArray} {most : Int} {p q : Nat} (h : rText S most p = some (w, q)) : upTo S q = upTo S p ++ (num w.size ++ w.data.toList) := by
  unfold rText at h
  split at h
  · next n q1 hr =>
    obtain ⟨h1, h2⟩ := upTo_take h
    rw [h1, upTo_num hr, h2, List.append_assoc]
  · cases h
theorem upTo_word {S w : ByteArray} {p q : Nat} (h : rWord S p = some (w, q)) : upTo S q = upTo S p ++ wordBytes w := by
  obtain ⟨h1, h2, h3, h4, h5⟩ := rWord_le h
  have hlt : p < S.data.toList.length := by simp; omega
  have hw : w.size = 2 * byteAt S p := by rw [h4]; simp; omega
  have hb := byteAt_lt S p
  have e : byteAt S p = S.data.toList[p].toNat := by
    unfold byteAt
    rw [List.getElem?_eq_getElem hlt]; rfl
  rw [show q = p + (1 + 2 * byteAt S p) by omega, upTo_add, List.drop_eq_getElem_cons hlt, Nat.add_comm 1, List.take_succ_cons, wordBytes]
  congr 2
  · rw [hw, show 2 * byteAt S p / 2 = byteAt S p by omega, e]; simp
  · rw [h4, show q = p + 1 + 2 * byteAt S p by omega, ext_list]
theorem upTo_words {S : ByteArray} {p : Nat} : ∀ {k : Nat} {l : List ByteArray} {q : Nat}, rWords S p k = some (l, q) → upTo S q = upTo S p ++ l.flatMap wordBytes
  | 0, l, q, h => by
    simp only [rWords, Option.some.injEq, Prod.mk.injEq] at h
    obtain ⟨rfl, rfl⟩ := h
    simp
  | k + 1, l, q, h => by
    simp only [rWords] at h
    split at h
    · next l' q' hr =>
      split at h
      · next w q2 hr2 =>
        simp only [Option.some.injEq, Prod.mk.injEq] at h
        obtain ⟨rfl, rfl⟩ := h
        rw [upTo_word hr2, upTo_words hr]
        simp
      · cases h
    · cases h
theorem upTo_set {S : ByteArray} {l : List ByteArray} {p q : Nat} (h : rSet S p = some (l, q)) : upTo S q = upTo S p ++ setBytes l ∧ setMay l = true ∧ p < q ∧ q ≤ S.size := by
  unfold rSet at h
  split at h
  · cases h
  · next hlt =>
    split at h
    · next l' q' hr =>
      split at h
      · next hm =>
        simp only [Option.some.injEq, Prod.mk.injEq] at h
        obtain ⟨rfl, rfl⟩ := h
        have hl := rWords_le (by omega) hr
        have hp : p < S.data.toList.length := by simp; omega
        refine ⟨?_, hm, by omega, hl.2.2.1⟩
        have e : byteAt S p = S.data.toList[p].toNat := by
          unfold byteAt
          rw [List.getElem?_eq_getElem hp]; rfl
        rw [upTo_words hr, upTo_add, List.drop_eq_getElem_cons hp, setBytes, hl.1, e]
        simp
      · cases h
    · cases h
theorem rText_le {S w : ByteArray} {most : Int} {p q : Nat} (h : rText S most p = some (w, q)) (hp : p ≤ S.size) : p < q ∧ q ≤ S.size ∧ w.size ≤ S.size := by
  unfold rText at h
  split at h
  · next n q1 hr =>
    have h1 := rNum_le hr hp
    obtain ⟨h2, h3, h4⟩ := rTake_le h
    exact ⟨by omega, h3, by rw [h4]; simp; omega⟩
  · cases h
end Go.Proofs.Ytdmhilhfdcmdiaa
