/- Texts of one proof, laid together: WdA. -/
import Derived.Test.YtpiofcjkekpboaaProg
import Derived.Test.YtpiofcjkekpboaaMA3
import Derived.WalkLawsBesides

/- Contracts of packages word and set: odd, Len, At, May, Less, set.May. -/
namespace Go.Proofs.Ytpiofcjkekpboaa
set_option linter.unusedSimpArgs false
set_option linter.unusedVariables false
open Go.RowKit


set_option maxHeartbeats 400000 in
theorem wlen_any (s : ByteArray) (w : World) (hs : s.size ≤ 9223372036854775807) :
    Calls Try.prog 80 #[.string s] w fun e w' => e = .returned (.int .i64 (s.size / 2 : Nat)) ∧ w = w' := by
  go_enter Try.func80, Try.ntmps80
  go_wp2
  go_ret
  exact ⟨rfl, rfl⟩

def oddB (s : ByteArray) : Bool := decide (s.size % 2 ≠ 0)
set_option maxHeartbeats 400000 in
theorem wodd_any (s : ByteArray) (w : World) (hs : s.size ≤ 9223372036854775807) :
    Calls Try.prog 99 #[.string s] w fun e w' => e = .returned (.bool (oddB s)) ∧ w = w' := by
  have h : Hid (((s.size : Int) % 2 != 0) = oddB s) := by
    show _ = _
    unfold oddB
    rw [Bool.eq_iff_iff, bne_iff_ne, decide_eq_true_eq]; omega
  go_enter Try.func99, Try.ntmps99
  go_wp2
  go_ret
  exact ⟨ret_bool h.out, rfl⟩

theorem or_word (x y : Nat) (hx : x < 256) (hy : y < 256) : bits .or .u16 (IntKind.u16.wrap (IntKind.u16.wrap (x : Int) * 256)) (IntKind.u16.wrap (y : Int)) = ((x * 256 + y : Nat) : Int) := by
  have e1 : IntKind.u16.wrap (x : Int) = x := by rw [IntKind.wrap_u16]; omega
  have e2 : IntKind.u16.wrap (y : Int) = y := by rw [IntKind.wrap_u16]; omega
  have e3 : IntKind.u16.wrap ((x : Int) * 256) = ((x * 256 : Nat) : Int) := by rw [IntKind.wrap_u16]; omega
  rw [e1, e2, e3, u16_or_nat _ _ (by omega) (by omega), nat_join 8 _ _ (by omega) (by omega)]

set_option maxHeartbeats 1000000 in
theorem wat_in (s : ByteArray) (i : Nat) (w : World) (hs : s.size ≤ 9223372036854775807) (hi : 2 * i + 1 < s.size) :
    Calls Try.prog 100 #[.string s, .int .i64 i] w fun e w' => e = .returned (.int .u16 (atomAt s i)) ∧ Drawn w w' := by
  have h0 : (0 : Int) ≤ i := by omega
  have hlt : (i : Int) < ((s.size / 2 : Nat) : Int) := by omega
  have g1 : decide ((i : Int) < 0) = false := by simp
  have g2 : decide (((s.size / 2 : Nat) : Int) ≤ (i : Int)) = false := by simp; omega
  have e1 : IntKind.i64.wrap (2 * (i : Int)) = 2 * (i : Int) := IntWalk.i64_in _ (by omega)
  have e2 : IntKind.i64.wrap (2 * (i : Int) + 1) = 2 * (i : Int) + 1 := IntWalk.i64_in _ (by omega)
  have b1 : (0 : Int) ≤ 2 * (i : Int) := by omega
  have b2 : 2 * (i : Int) < (s.size : Int) := by omega
  have b3 : (0 : Int) ≤ 2 * (i : Int) + 1 := by omega
  have b4 : 2 * (i : Int) + 1 < (s.size : Int) := by omega
  have n1 : (2 * (i : Int)).toNat = 2 * i := by omega
  have n2 : (2 * (i : Int) + 1).toNat = 2 * i + 1 := by omega
  go_enter Try.func100, Try.ntmps100
  go_wp2_with (go_at_call 80; refine (wlen_any _ _ hs).mono ?_; rintro e w' ⟨rfl, rfl⟩)
  go_quiet (fail)
  go_wp2
  go_ret
  exact ⟨ret_int (by rw [or_word _ _ s[2 * i].toNat_lt s[2 * i + 1].toNat_lt]; simp [atomAt, hi]), _, rfl⟩

set_option maxHeartbeats 1000000 in
theorem wmay_any (s : ByteArray) (w : World) (hs : s.size ≤ 9223372036854775807) :
    Calls Try.prog 66 #[.string s] w fun e w' => e = .returned (.bool (wordMay s)) ∧ Drawn w w' := by
  by_cases ho : s.size % 2 = 0
  · have hod : oddB s = false := by simp [oddB, ho]
    by_cases h1 : s.size / 2 < 1
    · have e : Hid (wordMay s = false) := by show _ = _; simp only [wordMay, decide_eq_false_iff_not]; omega
      have g1 : decide (((s.size / 2 : Nat) : Int) < 1) = true := by simp; omega
      generalize hz : s.size / 2 = z at g1
      have HZ := Lib.hid hz
      clear hz
      go_enter Try.func66, Try.ntmps66
      go_wp2_with (first
        | (go_at_call 99; refine (wodd_any _ _ hs).mono ?_; rintro e w' ⟨rfl, rfl⟩)
        | (go_at_call 80; refine (wlen_any _ _ hs).mono ?_; rintro e w' ⟨rfl, rfl⟩; rw [HZ.out]))
      go_ret
      exact ⟨ret_bool e.out.symm, 0, rfl⟩
    · by_cases h2 : 8 < s.size / 2
      · have e : Hid (wordMay s = false) := by show _ = _; simp only [wordMay, decide_eq_false_iff_not]; omega
        have g1 : decide (((s.size / 2 : Nat) : Int) < 1) = false := by simp; omega
        have g2 : decide (8 < ((s.size / 2 : Nat) : Int)) = true := by simp; omega
        generalize hz : s.size / 2 = z at g1 g2
        have HZ := Lib.hid hz
        clear hz
        go_enter Try.func66, Try.ntmps66
        go_wp2_with (first
          | (go_at_call 99; refine (wodd_any _ _ hs).mono ?_; rintro e w' ⟨rfl, rfl⟩)
          | (go_at_call 80; refine (wlen_any _ _ hs).mono ?_; rintro e w' ⟨rfl, rfl⟩; rw [HZ.out]))
        go_ret
        exact ⟨ret_bool e.out.symm, 0, rfl⟩
      · have g1 : decide (((s.size / 2 : Nat) : Int) < 1) = false := by simp; omega
        have g2 : decide (8 < ((s.size / 2 : Nat) : Int)) = false := by simp; omega
        have hz8 : s.size / 2 ≤ 8 := by omega
        have hz1 : 1 ≤ s.size / 2 := by omega
        generalize hz : s.size / 2 = z at g1 g2 hz8 hz1
        have HZ := Lib.hid hz
        have HO := Lib.hid ho
        clear hz h1 h2 ho
        go_enter Try.func66, Try.ntmps66
        go_wp2_with (first
          | (go_at_call 99; refine (wodd_any _ _ hs).mono ?_; rintro e w' ⟨rfl, rfl⟩)
          | (go_at_call 80; refine (wlen_any _ _ hs).mono ?_; rintro e w' ⟨rfl, rfl⟩; rw [HZ.out]))
        go_loopw [18] (fun t wr => ∃ i : Nat, i ≤ z ∧ t = .int .i64 i ∧ Hid (∀ j, j < i → atomAt s j ≠ 0) ∧ Drawn w wr) (fun t _ => z - (intOf t).toNat)
        case atStart => exact ⟨0, by omega, rfl, fun j hj => by omega, 0, rfl⟩
        case round =>
          obtain ⟨i, hi, rfl, hall, q, rfl⟩ := hrel
          by_cases hlt : i < z
          · have hin : 2 * i + 1 < s.size := by have := HZ.out; omega
            by_cases ha : atomAt s i = 0
            · have hb : (((atomAt s i : Nat) : Int) == 0) = true := by simp [ha]
              have hno : Hid (wordMay s = false) := by
                show _ = _
                simp only [wordMay, decide_eq_false_iff_not]
                rintro ⟨_, _, _, h4⟩
                exact h4 i (by have := HZ.out; omega) ha
              have HA := Lib.hid ha
              clear ha
              go_wp2_with fail
              refine (wat_in s i _ hs hin).mono ?_
              rintro e w' ⟨rfl, m, rfl⟩
              go_wp2_with fail
              go_ret
              exact ⟨ret_bool hno.out.symm, q + m, rfl⟩
            · have hb : (((atomAt s i : Nat) : Int) == 0) = false := by simp [ha]
              have HA := Lib.hid ha
              clear ha
              go_wp2_with fail
              refine (wat_in s i _ hs hin).mono ?_
              rintro e w' ⟨rfl, m, rfl⟩
              go_wp2_with fail
              go_roundw
              case rel => exact ⟨i + 1, by omega, by go_num, fun j hj => by
                by_cases e : j = i
                · rw [e]; exact HA.out
                · exact hall.out j (by omega), q + m, rfl⟩
              case measure => simp [intOf]; omega
          · have hyes : Hid (wordMay s = true) := by
              show _ = _
              simp only [wordMay, decide_eq_true_eq]
              have := HZ.out
              exact ⟨HO.out, by omega, by omega, fun j hj => hall.out j (by omega)⟩
            go_wp2_with fail
            go_ret
            exact ⟨ret_bool hyes.out.symm, q, rfl⟩
  · have hod : oddB s = true := by simp [oddB, ho]
    have e : Hid (wordMay s = false) := by show _ = _; simp only [wordMay, decide_eq_false_iff_not]; omega
    clear ho
    go_enter Try.func66, Try.ntmps66
    go_wp2_with (go_at_call 99; refine (wodd_any _ _ hs).mono ?_; rintro e w' ⟨rfl, rfl⟩)
    go_ret
    exact ⟨ret_bool e.out.symm, 0, rfl⟩

set_option maxHeartbeats 400000 in
theorem wless_any (a b : ByteArray) (w : World) :
    Calls Try.prog 75 #[.string a, .string b] w fun e w' => e = .returned (.bool (wless a b)) ∧ w = w' := by
  by_cases h : a.size = b.size
  · have g : (((a.size : Nat) : Int) != ((b.size : Nat) : Int)) = false := by simp [h]
    have e : Hid (wless a b = Op.bytesLess a.toList b.toList) := by show _ = _; unfold wless; rw [if_pos h]
    clear h
    go_enter Try.func75, Try.ntmps75
    go_wp2
    go_ret
    exact ⟨ret_bool e.out.symm, rfl⟩
  · have g : (((a.size : Nat) : Int) != ((b.size : Nat) : Int)) = true := by rw [bne_iff_ne]; omega
    have e : Hid (wless a b = decide (a.size < b.size)) := by show _ = _; unfold wless; rw [if_neg h]
    clear h
    go_enter Try.func75, Try.ntmps75
    go_wp2
    go_ret
    exact ⟨ret_bool (by rw [e.out]), rfl⟩

end Go.Proofs.Ytpiofcjkekpboaa
