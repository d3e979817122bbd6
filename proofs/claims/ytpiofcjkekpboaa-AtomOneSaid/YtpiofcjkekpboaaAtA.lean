/- Contracts of the small functions of packages atom and attorneyref01: Kind, Number, named, Of, May. -/
import Derived.Test.YtpiofcjkekpboaaProg
import Derived.Test.YtpiofcjkekpboaaAtP
import Derived.WalkKit
import Derived.WalkSpells
import Derived.WalkLawsBesides
namespace Go.Proofs.Ytpiofcjkekpboaa
set_option linter.unusedSimpArgs false
set_option linter.unusedVariables false
open Go.RowKit


set_option maxHeartbeats 400000 in
theorem kind_any (a : Nat) (w : World) (h : a < 65536) :
    Calls Try.prog 10 #[.int .u16 a] w fun e w' => e = .returned (.int .i64 (a / 8192 : Nat)) ∧ w = w' := by
  go_enter Try.func10, Try.ntmps10
  go_wp2
  go_ret
  exact ⟨rfl, rfl⟩

set_option maxHeartbeats 400000 in
theorem number_any (a : Nat) (w : World) (h : a < 65536) :
    Calls Try.prog 44 #[.int .u16 a] w fun e w' => e = .returned (.int .i64 (a % 8192 : Nat)) ∧ w = w' := by
  go_enter Try.func44, Try.ntmps44
  go_wp2
  go_ret
  exact ⟨rfl, rfl⟩

set_option maxHeartbeats 400000 in
theorem may_any (s : ByteArray) (w : World) (hs : s.size ≤ maxLen) :
    Calls Try.prog 45 #[.string s] w fun e w' => e = .returned (.bool (mayB s)) ∧ w = w' := by
  unfold maxLen at hs
  by_cases h1 : s.size < 1
  · have e : mayB s = false := by simp [mayB]; omega
    have E := Lib.hid e; clear e
    go_enter Try.func45, Try.ntmps45
    go_wp2
    go_ret
    exact ⟨ret_bool E.out.symm, rfl⟩
  · by_cases h2 : 24 < s.size
    · have e : mayB s = false := by simp [mayB]; omega
      have E := Lib.hid e; clear e
      go_enter Try.func45, Try.ntmps45
      go_wp2
      go_ret
      exact ⟨ret_bool E.out.symm, rfl⟩
    · go_enter Try.func45, Try.ntmps45
      go_wp2
      go_loop [3, 4] (fun i _ => ∃ k : Nat, k ≤ s.size ∧ i = .int .i64 k ∧ Hid (∀ j, (h : j < s.size) → j < k → okAt j s[j].toNat = true)) (fun i _ => s.size - (intOf i).toNat)
      case atStart => exact ⟨0, Nat.zero_le _, rfl, fun j _ hj => by omega⟩
      case round =>
        obtain ⟨k, hk, rfl, hall⟩ := hrel
        by_cases hlt : k < s.size
        · go_wp2
          all_goals first
            | (go_round
               case rel => exact ⟨k + 1, by omega, by go_num, may_step hall.out (by intro _; clear hall; grind [okAt])⟩
               case measure => simp [intOf]; omega)
            | (go_ret
               exact ⟨ret_bool (may_no s k hlt (by clear hall; grind [okAt])).symm, rfl⟩)
        · go_wp2
          go_ret
          exact ⟨ret_bool (may_yes s k (by omega) (by omega) (by omega) hall.out).symm, rfl⟩

theorem may_true (s : ByteArray) (w : World) (hs : s.size ≤ maxLen) (h : mayB s = true) :
    Calls Try.prog 45 #[.string s] w fun e w' => e = .returned (.bool true) ∧ w = w' := by
  rw [← h]; exact may_any s w hs
theorem may_false (s : ByteArray) (w : World) (hs : s.size ≤ maxLen) (h : mayB s = false) :
    Calls Try.prog 45 #[.string s] w fun e w' => e = .returned (.bool false) ∧ w = w' := by
  rw [← h]; exact may_any s w hs

set_option maxHeartbeats 400000 in
theorem named_yes (k : Int) (w : World) (h1 : 1 ≤ k) (h2 : k ≤ 5) :
    Calls Try.prog 46 #[.int .i64 k] w fun e w' => e = .returned (.bool true) ∧ w = w' := by
  go_enter Try.func46, Try.ntmps46
  go_wp2
  go_ret
  exact ⟨rfl, rfl⟩

set_option maxHeartbeats 400000 in
theorem named_no (k : Int) (w : World) (h : k < 1 ∨ 5 < k) :
    Calls Try.prog 46 #[.int .i64 k] w fun e w' => e = .returned (.bool false) ∧ w = w' := by
  by_cases h1 : k < 1
  · clear h
    go_enter Try.func46, Try.ntmps46
    go_wp2
    go_ret
    exact ⟨rfl, rfl⟩
  · have h2 : 5 < k := by omega
    clear h
    go_enter Try.func46, Try.ntmps46
    go_wp2
    go_ret
    exact ⟨ret_bool (by simp; omega), rfl⟩

end Go.Proofs.Ytpiofcjkekpboaa
