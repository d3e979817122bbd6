/- Texts of one proof, laid together: PkP. -/
import Derived.Test.YtpiofcjkekpboaaMA1
import Derived.Lib.AppendStr
set_option maxRecDepth 100000
set_option maxHeartbeats 16000000

set_option linter.unusedSimpArgs false
set_option linter.unusedVariables false
/- The plain part of pack: how numbers, words and sets are written and read. No program in sight. -/
namespace Go.Proofs.Ytpiofcjkekpboaa
open Go.RowKit

def num (n : Nat) : List UInt8 := if n < 128 then [UInt8.ofNat n] else UInt8.ofNat (n % 128 + 128) :: num (n / 128)
termination_by n
decreasing_by omega
theorem num_lt {n : Nat} (h : n < 128) : num n = [UInt8.ofNat n] := by rw [num, if_pos h]
theorem num_ge {n : Nat} (h : 128 ≤ n) : num n = UInt8.ofNat (n % 128 + 128) :: num (n / 128) := by rw [num, if_neg (by omega)]
theorem num_len (k : Nat) : ∀ n, n < 128 ^ (k + 1) → 1 ≤ (num n).length ∧ (num n).length ≤ k + 1 := by
 induction k with
 | zero => intro n h; rw [num_lt (by omega)]; simp
 | succ k ih =>
  intro n h
  by_cases hn : n < 128
  ·rw [num_lt hn]; simp
  ·rw [num_ge (by omega), List.length_cons]
   have := ih (n / 128) (by rw [Nat.pow_succ] at h; omega)
   omega
theorem num_len9 {n : Nat} (h : n ≤ 4611686018427387904) : 1 ≤ (num n).length ∧ (num n).length ≤ 9 := num_len 8 n (by omega)

def wordBytes (s : ByteArray) : List UInt8 := UInt8.ofNat (s.size / 2) :: s.data.toList
def setBytes (l : List ByteArray) : List UInt8 := UInt8.ofNat l.length :: l.flatMap wordBytes

def rdNumAt : Nat → Nat → List UInt8 → Option (Nat × Nat)
 | _, _, [] => none
 | k, acc, c :: r =>
  if 9 ≤ k then none
  else if 0 < k ∧ c.toNat = 0 then none
  else if 128 ≤ c.toNat then rdNumAt (k + 1) (acc + c.toNat % 128 * 128 ^ k) r
  else if acc + c.toNat * 128 ^ k > 4611686018427387904 then none
  else some (acc + c.toNat * 128 ^ k, k + 1)
def rdNum (l : List UInt8) : Option (Nat × Nat) := rdNumAt 0 0 l

theorem rdNumAt_nine {k acc : Nat} {l : List UInt8} (h : 9 ≤ k) : rdNumAt k acc l = none := by
 cases l with
 | nil => rfl
 | cons c r => rw [rdNumAt, if_pos h]

theorem rdNumAt_size : ∀ (l : List UInt8) (k acc n m : Nat), rdNumAt k acc l = some (n, m) → k < m ∧ m ≤ 9 ∧ m ≤ k + l.length ∧ n ≤ 4611686018427387904
 | [], k, acc, n, m, h => by simp [rdNumAt] at h
 | c :: r, k, acc, n, m, h => by
  rw [rdNumAt] at h
  split at h
  ·cases h
  ·split at h
   ·cases h
   ·split at h
    ·have := rdNumAt_size r (k + 1) _ n m h
     simp only [List.length_cons]; omega
    ·split at h
     ·cases h
     ·simp only [Option.some.injEq, Prod.mk.injEq] at h
      simp only [List.length_cons]; omega

end Go.Proofs.Ytpiofcjkekpboaa
