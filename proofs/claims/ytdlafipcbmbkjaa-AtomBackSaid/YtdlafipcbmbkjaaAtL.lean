/- Contracts of attorneylaw01's own helpers: large, same; the walk of AtomNames. -/
import Derived.Test.YtdlafipcbmbkjaaAtG
import Derived.Test.YtdlafipcbmbkjaaAtS
import Derived.ProofKit
import Derived.OpenShut
import Derived.ShutString
import Derived.Deep.Slices
namespace Go.Proofs.Ytdlafipcbmbkjaa
open Go.RowKit Go.Maps Go.ChangeShapes Go.WideShapes Go.ChangeAt
open Go.ChangeMaps (open_string shut_string)

set_option maxHeartbeats 400000 in
theorem names_walk (s : ByteArray) (w : World) (hs : s.size ≤ maxLen) :
    Calls Try.prog 4 #[.string s] w fun e w' => e = .returned (.bool true) ∧ Below w.heap.size w w' := by
  have hm : s.size ≤ 9223372036854775807 := by unfold maxLen at hs; omega
  by_cases h : 1000 < s.size
  · have d1 : decide (1000 < (s.size : Int)) = true := by simp; omega
    go_enter Try.func4, Try.ntmps4
    go_wp2_with fail
    refine (awake_any _).mono ?_
    rintro e w1 ⟨rfl, hb⟩
    go_wp2_with fail
    go_ret
    exact ⟨rfl, hb⟩
  · have d1 : decide (1000 < (s.size : Int)) = false := by simp; omega
    go_enter Try.func4, Try.ntmps4
    go_wp2_with fail
    refine (awake_any _).mono ?_
    rintro e w1 ⟨rfl, hb⟩
    go_wp2_with fail
    refine (may_any _ _ hs).mono ?_
    rintro e w' ⟨rfl, rfl⟩
    go_wp2_with fail
    refine (rmay_any _ _ hs).mono ?_
    rintro e w' ⟨rfl, rfl⟩
    go_wp2_with fail
    go_ret
    exact ⟨ret_bool (by simp), hb⟩

theorem atomNames_calls {H : Type} {enc : TypeId × Value → H} (W : World) {base : Nat} {v : Value} {d : DataW H} {p : List MemPlace} (hv : Value.okWide Try.prog W .any base 9 v)
    (h : DataW.Trod enc Try.prog W 0 (fun _ => true) true 9 v d p) :
    Calls Try.prog 4 #[v] W fun e w' => e = .returned (.bool true) ∧ Below W.heap.size W w' := by
  obtain ⟨s, rfl, rfl, rfl, hs⟩ := open_string Try.underlying9 hv h
  exact names_walk s W hs

/-- An act: its kind, its name, and whether it is looked for. -/
abbrev ActT := Int × ByteArray × Bool
def actCells (x : ActT) : List Value := [.int .i64 x.1, .string x.2.1, .bool x.2.2]

/-- A slice of acts in memory. -/
def ActsAt (w : World) (a : Option Addr) (l : List ActT) : Prop :=
  l = [] ∨ ∃ b off, a = some ⟨b, off, none⟩ ∧ ∀ i x, l[i]? = some x → w.cell? ⟨b, off + i * 3, none⟩ = some (.int .i64 x.1) ∧ w.cell? ⟨b, off + i * 3 + 1, none⟩ = some (.string x.2.1) ∧ w.cell? ⟨b, off + i * 3 + 2, none⟩ = some (.bool x.2.2)
def ActOk (x : ActT) : Prop := -9223372036854775808 ≤ x.1 ∧ x.1 ≤ 9223372036854775807 ∧ x.2.1.size ≤ maxLen
theorem ActsAt.ext {w w' : World} {a : Option Addr} {l : List ActT} (h : ActsAt w a l) (hb : Below w.heap.size w w') : ActsAt w' a l := by
  rcases h with h | ⟨b, off, rfl, h⟩
  · exact .inl h
  · refine .inr ⟨b, off, rfl, fun i x hx => ?_⟩
    obtain ⟨h1, h2, h3⟩ := h i x hx
    have hlt : b < w.heap.size := World.block_lt_of_cell? w _ h1
    exact ⟨by rw [hb.cell hlt]; exact h1, by rw [hb.cell hlt]; exact h2, by rw [hb.cell hlt]; exact h3⟩

/-- 'returns a bool' -/
def SomeBool (w : World) (e : Ending) (w' : World) : Prop := ∃ b, e = .returned (.bool b) ∧ w = w'

set_option maxHeartbeats 1000000 in
set_option maxRecDepth 100000 in
theorem large_any (a : Option Addr) (n cap : Nat) (l : List ActT) (w : World) (hl : Hid (l.length = n)) (hn : n ≤ 9223372036854775807) (ha : ActsAt w a l) (hok : Hid (∀ x ∈ l, ActOk x)) :
    Calls Try.prog 10 #[.slice a n cap] w (SomeBool w) := by
  rcases ha with h0 | ⟨r, off, rfl, hcell⟩
  · subst h0
    have hn0 : n = 0 := by have := hl.out; simp at this; omega
    subst hn0
    go_enter Try.func10, Try.ntmps10
    go_wp2
    refine wp_loop_rounds 1 ?_
    rw [rounds_succ]
    go_wp2
    go_ret
    exact ⟨_, rfl, rfl⟩
  · have HC := Lib.hid hcell
    clear hcell
    go_enter Try.func10, Try.ntmps10
    go_wp2
    go_loop [3] (fun t => ∃ i : Nat, i ≤ n ∧ i ≤ 400 ∧ t = .int .i64 i) (fun t => n - (intOf t).toNat)
    case atStart => exact ⟨0, Nat.zero_le _, by omega, rfl⟩
    case round =>
      obtain ⟨i, hi, hi4, rfl⟩ := hrel
      by_cases hlt : i < n
      · have d1 : decide ((i : Int) < (n : Int)) = true := by simp; omega
        by_cases hlt4 : i < 400
        · have hil : i < l.length := by have := hl.out; omega
          obtain ⟨-, c2, -⟩ := HC.out i l[i] (by simp [hil])
          have hsz := (hok.out l[i] (List.getElem_mem hil)).2.2
          unfold maxLen at hsz
          generalize l[i] = x at c2 hsz
          obtain ⟨x1, x2, x3⟩ := x
          simp only at c2 hsz
          go_wp2
          · go_ret
            exact ⟨_, rfl, rfl⟩
          · go_round
            case rel => exact ⟨i + 1, by omega, by omega, by go_num⟩
            case measure => simp [intOf]; omega
        · go_wp2
          go_ret
          exact ⟨_, rfl, rfl⟩
      · have d1 : decide ((i : Int) < (n : Int)) = false := by simp; omega
        go_wp2
        go_ret
        exact ⟨_, rfl, rfl⟩

set_option maxHeartbeats 1000000 in
theorem same_eq (a1 a2 : Option Addr) (n c1 c2 : Nat) (l : List ByteArray) (w : World) (hl : Hid (l.length = n)) (hn : n ≤ 9223372036854775807) (h1 : RowOf w a1 (l.map .string)) (h2 : RowOf w a2 (l.map .string)) :
    Calls Try.prog 19 #[.slice a1 n c1, .slice a2 n c2] w fun e w' => e = .returned (.bool true) ∧ Below w.heap.size w w' := by
  have hnn : ((n : Int) != n) = false := by simp
  rcases h1 with h0 | ⟨r1, o1, rfl, hc1⟩
  · have hl0 : l = [] := by simpa using h0
    subst hl0
    have hn0 : n = 0 := by have := hl.out; simp at this; omega
    subst hn0
    clear h2 h0 hl
    go_enter Try.func19, Try.ntmps19
    go_wp2
    refine wp_loop_rounds 1 ?_
    rw [rounds_succ]
    go_wp2
    go_ret
    exact ⟨rfl, Below.refl _ _⟩
  · rcases h2 with h0 | ⟨r2, o2, rfl, hc2⟩
    · have hl0 : l = [] := by simpa using h0
      subst hl0
      have hn0 : n = 0 := by have := hl.out; simp at this; omega
      subst hn0
      clear h0 hl hc1
      go_enter Try.func19, Try.ntmps19
      go_wp2
      refine wp_loop_rounds 1 ?_
      rw [rounds_succ]
      go_wp2
      go_ret
      exact ⟨rfl, Below.refl _ _⟩
    · have HC1 := Lib.hid hc1
      have HC2 := Lib.hid hc2
      clear hc1 hc2
      go_enter Try.func19, Try.ntmps19
      go_wp2
      go_loopw [13] (fun t wr => ∃ i q : Nat, i ≤ n ∧ t = .int .i64 i ∧ wr = w.drewN q) (fun t _ => n - (intOf t).toNat)
      case atStart => exact ⟨0, 0, Nat.zero_le _, rfl, rfl⟩
      case round =>
        obtain ⟨i, q, hi, rfl, rfl⟩ := hrel
        by_cases hlt : i < n
        · have hil : i < l.length := by have := hl.out; omega
          have e1 : w.cell? ⟨r1, o1 + i, none⟩ = some (.string l[i]) := HC1.out i _ (by simp [hil])
          have e2 : w.cell? ⟨r2, o2 + i, none⟩ = some (.string l[i]) := HC2.out i _ (by simp [hil])
          have hi0 : (0 : Int) ≤ i := by omega
          have hin : (i : Int) < n := by omega
          generalize l[i] = x at e1 e2
          have hxx : (!(x.toList == x.toList)) = false := by simp
          go_wp2
          go_quiet (fail)
          go_wp2
          go_roundw
          case rel => exact ⟨i + 1, _, by omega, by go_num, rfl⟩
          case measure => simp [intOf]; omega
        · go_wp2
          go_ret
          exact ⟨rfl, below_drewN (Below.refl _ _) q⟩

end Go.Proofs.Ytdlafipcbmbkjaa
