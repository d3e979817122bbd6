/- Texts of one proof, laid together: AtA WdA. -/
import Derived.Test.YtedaffmkpljlnaaGreatProg
import Derived.Test.YtedaffmkpljlnaaGreatMA4
import Derived.WalkKit
import Derived.WalkSpells
import Derived.WalkLawsBesides
set_option maxRecDepth 100000
set_option maxHeartbeats 16000000

set_option linter.unusedSimpArgs false
set_option linter.unusedVariables false
/- Contracts of the small functions of packages atom and attorneyref01: Kind, Number, named, Of, May. -/
namespace Go.Proofs.YtedaffmkpljlnaaGreat
open Go.RowKit


theorem kind_any (a : Nat) (w : World) (h : a < 65536) :
  Calls Tryz.prog 70 #[.int .u16 a] w fun e w' => e = .returned (.int .i64 (a / 8192 : Nat)) ∧ w = w' := by
 go_enter Tryz.func70, Tryz.ntmps70
 go_wp2
 go_ret
 exact ⟨rfl, rfl⟩

theorem number_any (a : Nat) (w : World) (h : a < 65536) :
  Calls Tryz.prog 105 #[.int .u16 a] w fun e w' => e = .returned (.int .i64 (a % 8192 : Nat)) ∧ w = w' := by
 go_enter Tryz.func105, Tryz.ntmps105
 go_wp2
 go_ret
 exact ⟨rfl, rfl⟩

theorem may_any (s : ByteArray) (w : World) (hs : s.size ≤ maxLen) :
    Calls Tryz.prog 84 #[.string s] w fun e w' => e = .returned (.bool (mayB s)) ∧ w = w' := by
  unfold maxLen at hs
  by_cases h1 : s.size < 1
  · have e : mayB s = false := by simp [mayB]; omega
    have E := Lib.hid e; clear e
    go_enter Tryz.func84, Tryz.ntmps84
    go_wp2
    go_ret
    exact ⟨ret_bool E.out.symm, rfl⟩
  · by_cases h2 : 24 < s.size
    · have e : mayB s = false := by simp [mayB]; omega
      have E := Lib.hid e; clear e
      go_enter Tryz.func84, Tryz.ntmps84
      go_wp2
      go_ret
      exact ⟨ret_bool E.out.symm, rfl⟩
    · go_enter Tryz.func84, Tryz.ntmps84
      go_wp2
      go_loop [3, 4] (fun i _ => ∃ k : Nat, k ≤ s.size ∧ i = .int .i64 k ∧ Hid (∀ j, (h : j < s.size) → j < k → okAt j s[j].toNat = true)) (fun i _ => s.size - (intOf i).toNat)
      case atStart => exact ⟨0, Nat.zero_le _, rfl, fun j _ hj => by omega⟩
      case round =>
        obtain ⟨k, hk, rfl, hall⟩ := hrel
        by_cases hlt : k < s.size
        · go_wp2
          all_goals first
            | (go_round
               case rel => exact ⟨k + 1, by omega, by go_num, may_step hall.out (by intro _; clear hall; grind [okAt])⟩
               case measure => simp [intOf]; omega)
            | (go_ret
               exact ⟨ret_bool (may_no s k hlt (by clear hall; grind [okAt])).symm, rfl⟩)
        · go_wp2
          go_ret
          exact ⟨ret_bool (may_yes s k (by omega) (by omega) (by omega) hall.out).symm, rfl⟩

theorem may_true (s : ByteArray) (w : World) (hs : s.size ≤ maxLen) (h : mayB s = true) :
  Calls Tryz.prog 84 #[.string s] w fun e w' => e = .returned (.bool true) ∧ w = w' := by
 rw [← h]; exact may_any s w hs
theorem may_false (s : ByteArray) (w : World) (hs : s.size ≤ maxLen) (h : mayB s = false) :
  Calls Tryz.prog 84 #[.string s] w fun e w' => e = .returned (.bool false) ∧ w = w' := by
 rw [← h]; exact may_any s w hs

theorem named_yes (k : Int) (w : World) (h1 : 1 ≤ k) (h2 : k ≤ 5) :
  Calls Tryz.prog 83 #[.int .i64 k] w fun e w' => e = .returned (.bool true) ∧ w = w' := by
 go_enter Tryz.func83, Tryz.ntmps83
 go_wp2
 go_ret
 exact ⟨rfl, rfl⟩

theorem named_no (k : Int) (w : World) (h : k < 1 ∨ 5 < k) :
  Calls Tryz.prog 83 #[.int .i64 k] w fun e w' => e = .returned (.bool false) ∧ w = w' := by
 by_cases h1 : k < 1
 ·clear h
  go_enter Tryz.func83, Tryz.ntmps83
  go_wp2
  go_ret
  exact ⟨rfl, rfl⟩
 ·have h2 : 5 < k := by omega
  clear h
  go_enter Tryz.func83, Tryz.ntmps83
  go_wp2
  go_ret
  exact ⟨ret_bool (by simp; omega), rfl⟩
theorem wlen_any (s : ByteArray) (w : World) (hs : s.size ≤ 9223372036854775807) :
  Calls Tryz.prog 90 #[.string s] w fun e w' => e = .returned (.int .i64 (s.size / 2 : Nat)) ∧ w = w' := by
 go_enter Tryz.func90, Tryz.ntmps90
 go_wp2
 go_ret
 exact ⟨rfl, rfl⟩

def oddB (s : ByteArray) : Bool := decide (s.size % 2 ≠ 0)
theorem wodd_any (s : ByteArray) (w : World) (hs : s.size ≤ 9223372036854775807) :
  Calls Tryz.prog 104 #[.string s] w fun e w' => e = .returned (.bool (oddB s)) ∧ w = w' := by
 have h : Hid (((s.size : Int) % 2 != 0) = oddB s) := by
  show _ = _
  unfold oddB
  rw [Bool.eq_iff_iff, bne_iff_ne, decide_eq_true_eq]; omega
 go_enter Tryz.func104, Tryz.ntmps104
 go_wp2
 go_ret
 exact ⟨ret_bool h.out, rfl⟩

theorem or_word (x y : Nat) (hx : x < 256) (hy : y < 256) : bits .or .u16 (IntKind.u16.wrap (IntKind.u16.wrap (x : Int) * 256)) (IntKind.u16.wrap (y : Int)) = ((x * 256 + y : Nat) : Int) := by
 have e1 : IntKind.u16.wrap (x : Int) = x := by rw [IntKind.wrap_u16]; omega
 have e2 : IntKind.u16.wrap (y : Int) = y := by rw [IntKind.wrap_u16]; omega
 have e3 : IntKind.u16.wrap ((x : Int) * 256) = ((x * 256 : Nat) : Int) := by rw [IntKind.wrap_u16]; omega
 rw [e1, e2, e3, u16_or_nat _ _ (by omega) (by omega), nat_join 8 _ _ (by omega) (by omega)]

theorem wat_in (s : ByteArray) (i : Nat) (w : World) (hs : s.size ≤ 9223372036854775807) (hi : 2 * i + 1 < s.size) :
  Calls Tryz.prog 57 #[.string s, .int .i64 i] w fun e w' => e = .returned (.int .u16 (atomAt s i)) ∧ Drawn w w' := by
 have h0 : (0 : Int) ≤ i := by omega
 have hlt : (i : Int) < ((s.size / 2 : Nat) : Int) := by omega
 have g1 : decide ((i : Int) < 0) = false := by simp
 have g2 : decide (((s.size / 2 : Nat) : Int) ≤ (i : Int)) = false := by simp; omega
 have e1 : IntKind.i64.wrap (2 * (i : Int)) = 2 * (i : Int) := IntWalk.i64_in _ (by omega)
 have e2 : IntKind.i64.wrap (2 * (i : Int) + 1) = 2 * (i : Int) + 1 := IntWalk.i64_in _ (by omega)
 have b1 : (0 : Int) ≤ 2 * (i : Int) := by omega
 have b2 : 2 * (i : Int) < (s.size : Int) := by omega
 have b3 : (0 : Int) ≤ 2 * (i : Int) + 1 := by omega
 have b4 : 2 * (i : Int) + 1 < (s.size : Int) := by omega
 have n1 : (2 * (i : Int)).toNat = 2 * i := by omega
 have n2 : (2 * (i : Int) + 1).toNat = 2 * i + 1 := by omega
 go_enter Tryz.func57, Tryz.ntmps57
 go_wp2_with (go_at_call 90; refine (wlen_any _ _ hs).mono ?_; rintro e w' ⟨rfl, rfl⟩)
 go_quiet (fail)
 go_wp2
 go_ret
 exact ⟨ret_int (by rw [or_word _ _ s[2 * i].toNat_lt s[2 * i + 1].toNat_lt]; simp [atomAt, hi]), _, rfl⟩

theorem wmay_any (s : ByteArray) (w : World) (hs : s.size ≤ 9223372036854775807) :
  Calls Tryz.prog 65 #[.string s] w fun e w' => e = .returned (.bool (wordMay s)) ∧ Drawn w w' := by
 by_cases ho : s.size % 2 = 0
 ·have hod : oddB s = false := by simp [oddB, ho]
  by_cases h1 : s.size / 2 < 1
  ·have e : Hid (wordMay s = false) := by show _ = _; simp only [wordMay, decide_eq_false_iff_not]; omega
   have g1 : decide (((s.size / 2 : Nat) : Int) < 1) = true := by simp; omega
   generalize hz : s.size / 2 = z at g1
   have HZ := Lib.hid hz
   clear hz
   go_enter Tryz.func65, Tryz.ntmps65
   go_wp2_with (first
    | (go_at_call 104; refine (wodd_any _ _ hs).mono ?_; rintro e w' ⟨rfl, rfl⟩)
    | (go_at_call 90; refine (wlen_any _ _ hs).mono ?_; rintro e w' ⟨rfl, rfl⟩; rw [HZ.out]))
   go_ret
   exact ⟨ret_bool e.out.symm, 0, rfl⟩
  ·by_cases h2 : 8 < s.size / 2
   ·have e : Hid (wordMay s = false) := by show _ = _; simp only [wordMay, decide_eq_false_iff_not]; omega
    have g1 : decide (((s.size / 2 : Nat) : Int) < 1) = false := by simp; omega
    have g2 : decide (8 < ((s.size / 2 : Nat) : Int)) = true := by simp; omega
    generalize hz : s.size / 2 = z at g1 g2
    have HZ := Lib.hid hz
    clear hz
    go_enter Tryz.func65, Tryz.ntmps65
    go_wp2_with (first
     | (go_at_call 104; refine (wodd_any _ _ hs).mono ?_; rintro e w' ⟨rfl, rfl⟩)
     | (go_at_call 90; refine (wlen_any _ _ hs).mono ?_; rintro e w' ⟨rfl, rfl⟩; rw [HZ.out]))
    go_ret
    exact ⟨ret_bool e.out.symm, 0, rfl⟩
   ·have g1 : decide (((s.size / 2 : Nat) : Int) < 1) = false := by simp; omega
    have g2 : decide (8 < ((s.size / 2 : Nat) : Int)) = false := by simp; omega
    have hz8 : s.size / 2 ≤ 8 := by omega
    have hz1 : 1 ≤ s.size / 2 := by omega
    generalize hz : s.size / 2 = z at g1 g2 hz8 hz1
    have HZ := Lib.hid hz
    have HO := Lib.hid ho
    clear hz h1 h2 ho
    go_enter Tryz.func65, Tryz.ntmps65
    go_wp2_with (first
     | (go_at_call 104; refine (wodd_any _ _ hs).mono ?_; rintro e w' ⟨rfl, rfl⟩)
     | (go_at_call 90; refine (wlen_any _ _ hs).mono ?_; rintro e w' ⟨rfl, rfl⟩; rw [HZ.out]))
    go_loopw [18] (fun t wr => ∃ i : Nat, i ≤ z ∧ t = .int .i64 i ∧ Hid (∀ j, j < i → atomAt s j ≠ 0) ∧ Drawn w wr) (fun t _ => z - (intOf t).toNat)
    case atStart => exact ⟨0, by omega, rfl, fun j hj => by omega, 0, rfl⟩
    case round =>
     obtain ⟨i, hi, rfl, hall, q, rfl⟩ := hrel
     by_cases hlt : i < z
     ·have hin : 2 * i + 1 < s.size := by have := HZ.out; omega
      by_cases ha : atomAt s i = 0
      ·have hb : (((atomAt s i : Nat) : Int) == 0) = true := by simp [ha]
       have hno : Hid (wordMay s = false) := by
        show _ = _
        simp only [wordMay, decide_eq_false_iff_not]
        rintro ⟨_, _, _, h4⟩
        exact h4 i (by have := HZ.out; omega) ha
       have HA := Lib.hid ha
       clear ha
       go_wp2_with fail
       refine (wat_in s i _ hs hin).mono ?_
       rintro e w' ⟨rfl, m, rfl⟩
       go_wp2_with fail
       go_ret
       exact ⟨ret_bool hno.out.symm, q + m, rfl⟩
      ·have hb : (((atomAt s i : Nat) : Int) == 0) = false := by simp [ha]
       have HA := Lib.hid ha
       clear ha
       go_wp2_with fail
       refine (wat_in s i _ hs hin).mono ?_
       rintro e w' ⟨rfl, m, rfl⟩
       go_wp2_with fail
       go_roundw
       case rel => exact ⟨i + 1, by omega, by go_num, fun j hj => by
        by_cases e : j = i
        ·rw [e]; exact HA.out
        ·exact hall.out j (by omega), q + m, rfl⟩
       case measure => simp [intOf]; omega
     ·have hyes : Hid (wordMay s = true) := by
       show _ = _
       simp only [wordMay, decide_eq_true_eq]
       have := HZ.out
       exact ⟨HO.out, by omega, by omega, fun j hj => hall.out j (by omega)⟩
      go_wp2_with fail
      go_ret
      exact ⟨ret_bool hyes.out.symm, q, rfl⟩
 ·have hod : oddB s = true := by simp [oddB, ho]
  have e : Hid (wordMay s = false) := by show _ = _; simp only [wordMay, decide_eq_false_iff_not]; omega
  clear ho
  go_enter Tryz.func65, Tryz.ntmps65
  go_wp2_with (go_at_call 104; refine (wodd_any _ _ hs).mono ?_; rintro e w' ⟨rfl, rfl⟩)
  go_ret
  exact ⟨ret_bool e.out.symm, 0, rfl⟩

theorem wless_any (a b : ByteArray) (w : World) :
  Calls Tryz.prog 66 #[.string a, .string b] w fun e w' => e = .returned (.bool (wless a b)) ∧ w = w' := by
 by_cases h : a.size = b.size
 ·have g : (((a.size : Nat) : Int) != ((b.size : Nat) : Int)) = false := by simp [h]
  have e : Hid (wless a b = Op.bytesLess a.toList b.toList) := by show _ = _; unfold wless; rw [if_pos h]
  clear h
  go_enter Tryz.func66, Tryz.ntmps66
  go_wp2
  go_ret
  exact ⟨ret_bool e.out.symm, rfl⟩
 ·have g : (((a.size : Nat) : Int) != ((b.size : Nat) : Int)) = true := by rw [bne_iff_ne]; omega
  have e : Hid (wless a b = decide (a.size < b.size)) := by show _ = _; unfold wless; rw [if_neg h]
  clear h
  go_enter Tryz.func66, Tryz.ntmps66
  go_wp2
  go_ret
  exact ⟨ret_bool (by rw [e.out]), rfl⟩

end Go.Proofs.YtedaffmkpljlnaaGreat
