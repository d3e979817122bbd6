/- Contracts of attorneylaw01's own helpers: large, same; the walk of AtomNames. -/
import Derived.Test.YtpiofcjkekpboaaAtG
import Derived.Test.YtpiofcjkekpboaaAtS
import Derived.ProofKit
import Derived.OpenShut
import Derived.ShutString
import Derived.Deep.Slices
namespace Go.Proofs.Ytpiofcjkekpboaa
set_option linter.unusedSimpArgs false
set_option linter.unusedVariables false
open Go.RowKit Go.Maps Go.ChangeShapes Go.WideShapes Go.ChangeAt
open Go.ChangeMaps (open_string shut_string)

/-- An act: its kind, its name, and whether it is looked for. -/
abbrev ActT := Int × ByteArray × Bool
def actCells (x : ActT) : List Value := [.int .i64 x.1, .string x.2.1, .bool x.2.2]

/-- A slice of acts in memory. -/
def ActsAt (w : World) (a : Option Addr) (l : List ActT) : Prop :=
  l = [] ∨ ∃ b off, a = some ⟨b, off, none⟩ ∧ ∀ i x, l[i]? = some x → w.cell? ⟨b, off + i * 3, none⟩ = some (.int .i64 x.1) ∧ w.cell? ⟨b, off + i * 3 + 1, none⟩ = some (.string x.2.1) ∧ w.cell? ⟨b, off + i * 3 + 2, none⟩ = some (.bool x.2.2)
def ActOk (x : ActT) : Prop := -9223372036854775808 ≤ x.1 ∧ x.1 ≤ 9223372036854775807 ∧ x.2.1.size ≤ maxLen
theorem ActsAt.ext {w w' : World} {a : Option Addr} {l : List ActT} (h : ActsAt w a l) (hb : Below w.heap.size w w') : ActsAt w' a l := by
  rcases h with h | ⟨b, off, rfl, h⟩
  · exact .inl h
  · refine .inr ⟨b, off, rfl, fun i x hx => ?_⟩
    obtain ⟨h1, h2, h3⟩ := h i x hx
    have hlt : b < w.heap.size := World.block_lt_of_cell? w _ h1
    exact ⟨by rw [hb.cell hlt]; exact h1, by rw [hb.cell hlt]; exact h2, by rw [hb.cell hlt]; exact h3⟩

/-- 'returns a bool' -/
def SomeBool (w : World) (e : Ending) (w' : World) : Prop := ∃ b, e = .returned (.bool b) ∧ w = w'

set_option maxHeartbeats 1000000 in
set_option maxRecDepth 100000 in
theorem large_any (a : Option Addr) (n cap : Nat) (l : List ActT) (w : World) (hl : Hid (l.length = n)) (hn : n ≤ 9223372036854775807) (ha : ActsAt w a l) (hok : Hid (∀ x ∈ l, ActOk x)) :
    Calls Try.prog 7 #[.slice a n cap] w (SomeBool w) := by
  rcases ha with h0 | ⟨r, off, rfl, hcell⟩
  · subst h0
    have hn0 : n = 0 := by have := hl.out; simp at this; omega
    subst hn0
    go_enter Try.func7, Try.ntmps7
    go_wp2
    refine wp_loop_rounds 1 ?_
    rw [rounds_succ]
    go_wp2
    go_ret
    exact ⟨_, rfl, rfl⟩
  · have HC := Lib.hid hcell
    clear hcell
    go_enter Try.func7, Try.ntmps7
    go_wp2
    go_loop [3] (fun t => ∃ i : Nat, i ≤ n ∧ i ≤ 400 ∧ t = .int .i64 i) (fun t => n - (intOf t).toNat)
    case atStart => exact ⟨0, Nat.zero_le _, by omega, rfl⟩
    case round =>
      obtain ⟨i, hi, hi4, rfl⟩ := hrel
      by_cases hlt : i < n
      · have d1 : decide ((i : Int) < (n : Int)) = true := by simp; omega
        by_cases hlt4 : i < 400
        · have hil : i < l.length := by have := hl.out; omega
          obtain ⟨-, c2, -⟩ := HC.out i l[i] (by simp [hil])
          have hsz := (hok.out l[i] (List.getElem_mem hil)).2.2
          unfold maxLen at hsz
          generalize l[i] = x at c2 hsz
          obtain ⟨x1, x2, x3⟩ := x
          simp only at c2 hsz
          go_wp2
          · go_ret
            exact ⟨_, rfl, rfl⟩
          · go_round
            case rel => exact ⟨i + 1, by omega, by omega, by go_num⟩
            case measure => simp [intOf]; omega
        · go_wp2
          go_ret
          exact ⟨_, rfl, rfl⟩
      · have d1 : decide ((i : Int) < (n : Int)) = false := by simp; omega
        go_wp2
        go_ret
        exact ⟨_, rfl, rfl⟩

end Go.Proofs.Ytpiofcjkekpboaa
