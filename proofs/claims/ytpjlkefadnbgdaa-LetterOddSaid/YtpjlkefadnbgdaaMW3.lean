/- Texts of one proof, laid together: PkP. -/
import Derived.Test.YtpjlkefadnbgdaaMW2
import Derived.Lib.AppendStr

/- The plain part of pack: how numbers, words and sets are written and read. No program in sight. -/
namespace Go.Proofs.Ytpjlkefadnbgdaa
set_option linter.unusedSimpArgs false
set_option linter.unusedVariables false
open Go.RowKit

def num (n : Nat) : List UInt8 := if n < 128 then [UInt8.ofNat n] else UInt8.ofNat (n % 128 + 128) :: num (n / 128)
termination_by n
decreasing_by omega
theorem num_lt {n : Nat} (h : n < 128) : num n = [UInt8.ofNat n] := by rw [num, if_pos h]
theorem num_ge {n : Nat} (h : 128 ≤ n) : num n = UInt8.ofNat (n % 128 + 128) :: num (n / 128) := by rw [num, if_neg (by omega)]
theorem num_len (k : Nat) : ∀ n, n < 128 ^ (k + 1) → 1 ≤ (num n).length ∧ (num n).length ≤ k + 1 := by
  induction k with
  | zero => intro n h; rw [num_lt (by omega)]; simp
  | succ k ih =>
    intro n h
    by_cases hn : n < 128
    · rw [num_lt hn]; simp
    · rw [num_ge (by omega), List.length_cons]
      have := ih (n / 128) (by rw [Nat.pow_succ] at h; omega)
      omega
theorem num_len9 {n : Nat} (h : n ≤ 4611686018427387904) : 1 ≤ (num n).length ∧ (num n).length ≤ 9 := num_len 8 n (by omega)

def wordBytes (s : ByteArray) : List UInt8 := UInt8.ofNat (s.size / 2) :: s.data.toList
def setBytes (l : List ByteArray) : List UInt8 := UInt8.ofNat l.length :: l.flatMap wordBytes

def rdNumAt : Nat → Nat → List UInt8 → Option (Nat × Nat)
  | _, _, [] => none
  | k, acc, c :: r =>
    if 9 ≤ k then none
    else if 0 < k ∧ c.toNat = 0 then none
    else if 128 ≤ c.toNat then rdNumAt (k + 1) (acc + c.toNat % 128 * 128 ^ k) r
    else if acc + c.toNat * 128 ^ k > 4611686018427387904 then none
    else some (acc + c.toNat * 128 ^ k, k + 1)
def rdNum (l : List UInt8) : Option (Nat × Nat) := rdNumAt 0 0 l

theorem rdNumAt_nine {k acc : Nat} {l : List UInt8} (h : 9 ≤ k) : rdNumAt k acc l = none := by
  cases l with
  | nil => rfl
  | cons c r => rw [rdNumAt, if_pos h]

theorem rdNumAt_size : ∀ (l : List UInt8) (k acc n m : Nat), rdNumAt k acc l = some (n, m) → k < m ∧ m ≤ 9 ∧ m ≤ k + l.length ∧ n ≤ 4611686018427387904
  | [], k, acc, n, m, h => by simp [rdNumAt] at h
  | c :: r, k, acc, n, m, h => by
    rw [rdNumAt] at h
    split at h
    · cases h
    · split at h
      · cases h
      · split at h
        · have := rdNumAt_size r (k + 1) _ n m h
          simp only [List.length_cons]; omega
        · split at h
          · cases h
          · simp only [Option.some.injEq, Prod.mk.injEq] at h
            simp only [List.length_cons]; omega

theorem rdNumAt_back : ∀ (l : List UInt8) (k acc n m : Nat), rdNumAt k acc l = some (n, m) → ∃ q, n = acc + q * 128 ^ k ∧ (0 < k → 0 < q) ∧ l.take (m - k) = num q
  | [], k, acc, n, m, h => by simp [rdNumAt] at h
  | c :: r, k, acc, n, m, h => by
    have hlt := c.toNat_lt
    rw [rdNumAt] at h
    split at h
    · cases h
    · split at h
      · cases h
      · next h9 hz =>
        split at h
        · next hc =>
          obtain ⟨q, h1, h2, h3⟩ := rdNumAt_back r (k + 1) _ n m h
          have hm := rdNumAt_size r (k + 1) _ n m h
          refine ⟨c.toNat % 128 + 128 * q, ?_, fun _ => by have := h2 (by omega); omega, ?_⟩
          · rw [h1, Nat.add_mul, Nat.pow_succ, Nat.mul_comm 128 q, Nat.mul_assoc, Nat.mul_comm 128 (128 ^ k)]; omega
          · have hq := h2 (by omega)
            rw [num_ge (by omega), show m - k = (m - (k + 1)) + 1 by omega, List.take_succ_cons, h3]
            congr 1
            · have e : (c.toNat % 128 + 128 * q) % 128 + 128 = c.toNat := by omega
              rw [e]; simp
            · congr 1; omega
        · split at h
          · cases h
          · next hc _ =>
            simp only [Option.some.injEq, Prod.mk.injEq] at h
            obtain ⟨rfl, rfl⟩ := h
            refine ⟨c.toNat, rfl, fun hk => by omega, ?_⟩
            rw [num_lt (by omega), show k + 1 - k = 1 by omega]; simp
theorem rdNum_back {l : List UInt8} {n m : Nat} (h : rdNum l = some (n, m)) : l.take m = num n := by
  obtain ⟨q, h1, _, h3⟩ := rdNumAt_back l 0 0 n m h
  simp at h1 h3; rw [h3, h1]

end Go.Proofs.Ytpjlkefadnbgdaa
