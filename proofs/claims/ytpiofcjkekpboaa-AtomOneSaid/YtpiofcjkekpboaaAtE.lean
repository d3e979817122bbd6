/- Contracts of Find, Name, Len, New, slices.Clone, All. -/
import Derived.Test.YtpiofcjkekpboaaAtD
namespace Go.Proofs.Ytpiofcjkekpboaa
set_option linter.unusedSimpArgs false
set_option linter.unusedVariables false
open Go.RowKit Go.Maps
open Go.WideMaps Go.WideElems Go.MapKept Go.ChangeMaps

set_option maxHeartbeats 1000000 in
theorem new_any (w : World) : Calls Try.prog 8 #[] w fun e w' =>
    e = .returned (.pointer (some ⟨w.heap.size, 0, none⟩)) ∧ Below w.heap.size w w' ∧ w'.heap.size = w.heap.size + 1 ∧ Tab w' w.heap.size (fun _ => []) (fun j => j = w.heap.size) := by
  go_enter Try.func8, Try.ntmps8
  go_wp2
  go_ret
  refine ⟨rfl, (Below.refl _ _).alloc (Nat.le_refl _) _, by simp, fun _ => none, fun _ => 0, fun _ => none, rfl, by rintro j rfl; simp, ?_, ?_, ?_, ?_, ?_, ?_, ?_, ?_, ?_, ?_, ?_⟩
  · intro k hk
    have : k = 0 ∨ k = 1 ∨ k = 2 ∨ k = 3 ∨ k = 4 ∨ k = 5 := by omega
    rcases this with rfl | rfl | rfl | rfl | rfl | rfl <;> simp
  · intro k hk
    have : k = 0 ∨ k = 1 ∨ k = 2 ∨ k = 3 ∨ k = 4 ∨ k = 5 := by omega
    rcases this with rfl | rfl | rfl | rfl | rfl | rfl <;> simp
  · intro k; simp
  · intro k hk; exact World.ownsRow_nil _ _ _ _
  all_goals simp [ownB]

set_option maxHeartbeats 1000000 in
theorem find_kind (b : Nat) (kd : Int) (s : ByteArray) (w : World) (h : Hid (kd < 1 ∨ 5 < kd)) :
    Calls Try.prog 12 #[.pointer (some ⟨b, 0, none⟩), .int .i64 kd, .string s] w fun e w' =>
      e = .returned (.tuple #[.int .u16 0, .bool false]) ∧ w = w' := by
  go_enter Try.func12, Try.ntmps12
  go_wp2_with (go_at_call 46; refine (named_no _ _ h.out).mono ?_; rintro e w' ⟨rfl, rfl⟩)
  go_ret2
  exact ⟨rfl, rfl⟩

set_option maxHeartbeats 1000000 in
theorem find_nil (b k : Nat) (s : ByteArray) (w : World) (hs : s.size ≤ maxLen) (h1 : 1 ≤ k) (h5 : k ≤ 5) (c2 : w.cell? ⟨b, 6 + k, none⟩ = some (.map none)) :
    Calls Try.prog 12 #[.pointer (some ⟨b, 0, none⟩), .int .i64 k, .string s] w fun e w' =>
      e = .returned (.tuple #[.int .u16 0, .bool false]) ∧ w = w' := by
  have hlk : ∀ w : World, (Instr.lookup 38 (.map none) (.string s) true).run Try.prog w = .ok (.tuple #[.int .u16 0, .bool false]) w := fun w => Maps.look_nil true strKey Try.underlying38 (zeroAtom w) (keyOf_string_mk Try.underlying9 hs)
  go_enter Try.func12, Try.ntmps12
  go_wp2_with (go_at_call 46; refine (named_yes _ _ (by omega) (by omega)).mono ?_; rintro e w' ⟨rfl, rfl⟩)
  go_ret2
  exact ⟨rfl, rfl⟩

set_option maxHeartbeats 1000000 in
theorem find_map (b k n mb : Nat) (A : Int) (s : ByteArray) (B : Bool) (D : DataW Unit) (w : World) (hs : s.size ≤ maxLen) (h1 : 1 ≤ k) (h5 : k ≤ 5)
    (c2 : w.cell? ⟨b, 6 + k, none⟩ = some (.map (some mb)))
    (hmap : w.ownsMap Try.prog 9 (plainElem Try.prog 32) mb n D)
    (hyes : Maps.has D (.string s.data.toList) = B) (hat : Hid (D.atKey (.string s.data.toList) (.lit (.int .u16 0)) = .lit (.int .u16 A))) :
    Calls Try.prog 12 #[.pointer (some ⟨b, 0, none⟩), .int .i64 k, .string s] w fun e w' =>
      e = .returned (.tuple #[.int .u16 A, .bool B]) ∧ w = w' := by
  go_enter Try.func12, Try.ntmps12
  go_wp2_with (first
    | (go_at_call 46; refine (named_yes _ _ (by omega) (by omega)).mono ?_; rintro e w' ⟨rfl, rfl⟩)
    | (at_lookup; refine wpList_lookup_own_ok_int _ rfl _ _ 38 rfl 9 32 .u16 strKey Try.underlying38 Try.underlying32 (zeroAtom _) mb n D rfl hmap _ _ rfl (keyOf_string_mk Try.underlying9 hs) ?_; intro c hc hwc; rw [hat.out] at hc; injection hc with hc; injection hc with _ hc; subst hc))
  go_ret2
  exact ⟨rfl, rfl⟩

theorem find_any (b : Nat) (kd : Int) (s : ByteArray) (L : Nat → List ByteArray) (S : Nat → Prop) (w : World) (hs : s.size ≤ maxLen) (hT : Tab w b L S) :
    Calls Try.prog 12 #[.pointer (some ⟨b, 0, none⟩), .int .i64 kd, .string s] w fun e w' =>
      e = .returned (.tuple #[.int .u16 (findA L kd s), .bool (findB L kd s)]) ∧ w = w' := by
  by_cases hk : kd < 1 ∨ 5 < kd
  · have e1 : findB L kd s = false := by simp [findB]; omega
    have e2 : findA L kd s = 0 := by simp [findA, e1]
    rw [e1, e2]
    exact find_kind b kd s w hk
  · obtain ⟨k, rfl⟩ := Int.eq_ofNat_of_zero_le (show 0 ≤ kd by omega)
    have h1 : 1 ≤ k := by omega
    have h5 : k ≤ 5 := by omega
    obtain ⟨a, cap, m, h⟩ := hT
    cases hmk : m k with
    | none =>
      have e1 : findB L k s = false := by simp [findB, (h.nils k (by omega) hmk).2.2]
      have e2 : findA L k s = 0 := by simp [findA, e1]
      rw [e1, e2]
      exact find_nil b k s w hs h1 h5 (by rw [h.c2 k (by omega), hmk])
    | some mb =>
      obtain ⟨D, hD, hd⟩ := h.dict k (by omega) mb hmk
      refine find_map b k (L k).length mb _ s _ D w hs h1 h5 (by rw [h.c2 k (by omega), hmk]) hD ?_ ?_
      · rw [hd.has]; simp only [findB, decide_eq_decide]; exact ⟨fun h => ⟨by omega, by omega, by simpa using h⟩, fun h => by simpa using h.2.2⟩
      · show D.atKey _ _ = _
        by_cases hin : s ∈ L k
        · rw [hd.at_ s hin]
          have e1 : findB L k s = true := by simp [findB, hin]; omega
          simp [findA, e1]
        · have e1 : findB L k s = false := by simp [findB, hin]
          rw [atKey_of_not_has (by rw [hd.has]; simp [hin])]
          simp [findA, e1]

set_option maxHeartbeats 1000000 in
theorem len_kind (b : Nat) (kd : Int) (w : World) (h : Hid (kd < 1 ∨ 5 < kd)) :
    Calls Try.prog 42 #[.pointer (some ⟨b, 0, none⟩), .int .i64 kd] w fun e w' => e = .returned (.int .i64 0) ∧ w = w' := by
  go_enter Try.func42, Try.ntmps42
  go_wp2_with (go_at_call 46; refine (named_no _ _ h.out).mono ?_; rintro e w' ⟨rfl, rfl⟩)
  go_ret
  exact ⟨rfl, rfl⟩

set_option maxHeartbeats 1000000 in
theorem len_in (b k n cap : Nat) (a : Option Addr) (w : World) (h1 : 1 ≤ k) (h5 : k ≤ 5) (c1 : w.cell? ⟨b, k, none⟩ = some (.slice a n cap)) :
    Calls Try.prog 42 #[.pointer (some ⟨b, 0, none⟩), .int .i64 k] w fun e w' => e = .returned (.int .i64 n) ∧ w = w' := by
  go_enter Try.func42, Try.ntmps42
  go_wp2_with (go_at_call 46; refine (named_yes _ _ (by omega) (by omega)).mono ?_; rintro e w' ⟨rfl, rfl⟩)
  go_ret
  exact ⟨rfl, rfl⟩

theorem len_any (b : Nat) (kd : Int) (L : Nat → List ByteArray) (S : Nat → Prop) (w : World) (hT : Tab w b L S) :
    Calls Try.prog 42 #[.pointer (some ⟨b, 0, none⟩), .int .i64 kd] w fun e w' => e = .returned (.int .i64 (allL L kd).length) ∧ w = w' := by
  by_cases hk : kd < 1 ∨ 5 < kd
  · have e1 : allL L kd = [] := by unfold allL; rw [if_neg (by omega)]
    rw [e1]
    exact len_kind b kd w hk
  · obtain ⟨k, rfl⟩ := Int.eq_ofNat_of_zero_le (show 0 ≤ kd by omega)
    obtain ⟨a, cap, m, h⟩ := hT
    have e1 : allL L k = L k := by unfold allL; rw [if_pos (by omega)]; simp
    rw [e1]
    exact len_in b k _ _ _ w (by omega) (by omega) (h.c1 k (by omega))

set_option maxHeartbeats 1000000 in
theorem name_D (b : Nat) (w : World) :
    Calls Try.prog 11 #[.pointer (some ⟨b, 0, none⟩), .int .u16 1] w fun e w' => e = .returned (.tuple #[.string ⟨#[68]⟩, .bool true]) ∧ w = w' := by
  go_enter Try.func11, Try.ntmps11
  go_wp2
  go_ret2
  exact ⟨rfl, rfl⟩

set_option maxHeartbeats 1000000 in
theorem name_kind (b x : Nat) (w : World) (hx : x < 65536) (h1 : ((x : Int) == 1) = false) (h : Hid (x / 8192 < 1 ∨ 5 < x / 8192)) :
    Calls Try.prog 11 #[.pointer (some ⟨b, 0, none⟩), .int .u16 x] w fun e w' => e = .returned (.tuple #[.string ⟨#[]⟩, .bool false]) ∧ w = w' := by
  have H : Hid (((x / 8192 : Nat) : Int) < 1 ∨ 5 < ((x / 8192 : Nat) : Int)) := by have := h.out; show _ ∨ _; omega
  go_enter Try.func11, Try.ntmps11
  go_wp2_with (first
    | (go_at_call 10; refine (kind_any _ _ hx).mono ?_; rintro e w' ⟨rfl, rfl⟩)
    | (go_at_call 44; refine (number_any _ _ hx).mono ?_; rintro e w' ⟨rfl, rfl⟩)
    | (go_at_call 46; refine (named_no _ _ H.out).mono ?_; rintro e w' ⟨rfl, rfl⟩))
  go_ret2
  exact ⟨rfl, rfl⟩

set_option maxHeartbeats 1000000 in
theorem name_number (b x n cap : Nat) (a : Option Addr) (w : World) (hx : x < 65536) (h1 : ((x : Int) == 1) = false) (hk1 : 1 ≤ x / 8192) (hk5 : x / 8192 ≤ 5) (c1 : w.cell? ⟨b, x / 8192, none⟩ = some (.slice a n cap))
    (h : x % 8192 < 1 ∨ n < x % 8192) :
    Calls Try.prog 11 #[.pointer (some ⟨b, 0, none⟩), .int .u16 x] w fun e w' => e = .returned (.tuple #[.string ⟨#[]⟩, .bool false]) ∧ w = w' := by
  go_enter Try.func11, Try.ntmps11
  go_wp2_with (first
    | (go_at_call 10; refine (kind_any _ _ hx).mono ?_; rintro e w' ⟨rfl, rfl⟩)
    | (go_at_call 44; refine (number_any _ _ hx).mono ?_; rintro e w' ⟨rfl, rfl⟩)
    | (go_at_call 46; refine (named_yes _ _ (by omega) (by omega)).mono ?_; rintro e w' ⟨rfl, rfl⟩))
  all_goals (go_ret2; exact ⟨rfl, rfl⟩)

set_option maxHeartbeats 1000000 in
theorem name_in (b x n cap r off : Nat) (s : ByteArray) (w : World) (hx : x < 65536) (h1 : ((x : Int) == 1) = false) (hk1 : 1 ≤ x / 8192) (hk5 : x / 8192 ≤ 5) (c1 : w.cell? ⟨b, x / 8192, none⟩ = some (.slice (some ⟨r, off, none⟩) n cap))
    (hn1 : 1 ≤ x % 8192) (hn2 : x % 8192 ≤ n) (c2 : w.cell? ⟨r, off + (x % 8192 - 1), none⟩ = some (.string s)) :
    Calls Try.prog 11 #[.pointer (some ⟨b, 0, none⟩), .int .u16 x] w fun e w' => e = .returned (.tuple #[.string s, .bool true]) ∧ w = w' := by
  go_enter Try.func11, Try.ntmps11
  go_wp2_with (first
    | (go_at_call 10; refine (kind_any _ _ hx).mono ?_; rintro e w' ⟨rfl, rfl⟩)
    | (go_at_call 44; refine (number_any _ _ hx).mono ?_; rintro e w' ⟨rfl, rfl⟩)
    | (go_at_call 46; refine (named_yes _ _ (by omega) (by omega)).mono ?_; rintro e w' ⟨rfl, rfl⟩))
  go_ret2
  exact ⟨rfl, rfl⟩

theorem name_any (b x : Nat) (L : Nat → List ByteArray) (S : Nat → Prop) (w : World) (hx : x < 65536) (hT : Tab w b L S) :
    Calls Try.prog 11 #[.pointer (some ⟨b, 0, none⟩), .int .u16 x] w fun e w' => e = .returned (.tuple #[.string (nameS L x), .bool (nameB L x)]) ∧ w = w' := by
  by_cases h1 : x = 1
  · subst h1
    have e1 : nameB L 1 = true := by simp [nameB]
    have e2 : nameS L 1 = ⟨#[68]⟩ := by simp [nameS]
    rw [e1, e2]
    exact name_D b w
  · have h1' : ((x : Int) == 1) = false := by simp; omega
    obtain ⟨a, cap, m, h⟩ := hT
    by_cases hk : x / 8192 < 1 ∨ 5 < x / 8192
    · have e1 : nameB L x = false := by simp [nameB, h1]; omega
      have e2 : nameS L x = ⟨#[]⟩ := by unfold nameS; rw [if_neg h1, e1]; rfl
      rw [e1, e2]
      exact name_kind b x w hx h1' hk
    · have c1 := h.c1 (x / 8192) (by omega)
      by_cases hn : x % 8192 < 1 ∨ (L (x / 8192)).length < x % 8192
      · have e1 : nameB L x = false := by simp only [nameB, decide_eq_false_iff_not]; omega
        have e2 : nameS L x = ⟨#[]⟩ := by unfold nameS; rw [if_neg h1, e1]; rfl
        rw [e1, e2]
        exact name_number b x _ _ _ w hx h1' (by omega) (by omega) c1 hn
      · have e1 : nameB L x = true := by simp only [nameB, decide_eq_true_eq]; omega
        have hlt : x % 8192 - 1 < (L (x / 8192)).length := by omega
        have e2 : nameS L x = (L (x / 8192))[x % 8192 - 1] := by unfold nameS; rw [if_neg h1, e1]; simp [hlt]
        have hp : 0 < (L (x / 8192)).length := by omega
        rw [e1, e2]
        rcases RowOf.of_owns (h.row (x / 8192) (by omega)) with h0 | ⟨r, off, ha, hc⟩
        · have := congrArg List.length h0; rw [List.length_map, List.length_nil] at this; omega
        · rw [ha] at c1
          exact name_in b x _ _ r off _ w hx h1' (by omega) (by omega) c1 (by omega) (by omega) (hc _ _ (by simp [hlt]))

theorem oneCell_strs (l : List ByteArray) : ∀ u ∈ l.map Value.string, u.oneCell' = true := by
  intro u hu; obtain ⟨s, _, rfl⟩ := List.mem_map.1 hu; rfl

set_option maxHeartbeats 1000000 in
theorem clone_nil (n cap : Nat) (w : World) : Calls Try.prog 83 #[.slice none n cap] w fun e w' => e = .returned (.slice none 0 0) ∧ w = w' := by
  have hq : ∀ (w : World) (a : Option Addr) (l c : Nat), (binOp .eql 36 (.slice a l c) (.slice none 0 0)).run Try.prog w = .ok (.bool a.isNone) w := fun w a l c => Lib.run_eql_slice_nil w _ _ a l c 0 0 Try.underlying36
  go_enter Try.func83, Try.ntmps83
  go_wp2
  go_ret
  exact ⟨rfl, rfl⟩

/-- a slice that the call has made, its blocks from base on -/
def OwnRet (base : Nat) (t : TypeId) (n : Nat) (xs : List Value) (e : Ending) (w' : World) : Prop := ∃ a cap, e = .returned (.slice a n cap) ∧ w'.ownsRow base t 1 (.slice a n cap) n xs
theorem OwnRet.of {base : Nat} {t : TypeId} {n : Nat} {xs : List Value} {v : Value} {w' : World} (h : w'.ownsRow base t 1 v n xs) : OwnRet base t n xs (.returned v) w' := by
  rcases h.2 with ⟨rfl, rfl⟩ | ⟨g, cap, cur, rfl, _⟩
  · exact ⟨_, _, rfl, h⟩
  · exact ⟨_, _, rfl, h⟩

set_option maxHeartbeats 1000000 in
theorem clone_some (ad : Addr) (n cap : Nat) (l : List ByteArray) (w : World) (hl : l.length = n) (hn : n * 16 ≤ 140737488355328)
    (hc : ∀ j u, (l.map Value.string)[j]? = some u → w.cell? (ad.add j) = some u) :
    Calls Try.prog 83 #[.slice (some ad) n cap] w fun e w' => OwnRet w.heap.size 9 n (l.map .string) e w' ∧ Below w.heap.size w w' := by
  have hq : ∀ (w : World) (a : Option Addr) (l c : Nat), (binOp .eql 36 (.slice a l c) (.slice none 0 0)).run Try.prog w = .ok (.bool a.isNone) w := fun w a l c => Lib.run_eql_slice_nil w _ _ a l c 0 0 Try.underlying36
  obtain ⟨i0, hi, hz0, hz1, hz2⟩ := info_parts infoStr
  have HC := Lib.hid hc
  clear hc
  go_enter Try.func83, Try.ntmps83
  go_wp2_with (at_builtin; refine wpList_append_own _ rfl _ _ 36 rfl w.heap.size 9 i0 (.string ByteArray.empty) 1 16 Try.underlying36 hi hz0 hz1 hz2 rfl (by decide) (.slice (some ⟨w.heap.size, 0, none⟩) 0 0) 0 [] rfl (World.ownsRow_made w #[] 0 (Nat.le_refl _) (Nat.zero_le _) (by simp)) ad n cap (l.map .string) rfl (by simp [hl]) (fun j u hu => cell_alloc (HC.out j u hu) _) (oneCell_strs l) (by unfold maxLen; omega) (by omega) (by simp) ?_; intro v' w1 hown hgrow _)
  simp only [Nat.zero_add, List.nil_append] at hown
  go_wp2
  go_ret
  exact ⟨OwnRet.of hown, ((Below.refl _ w).alloc (Nat.le_refl _) _).grown hgrow (by simp) (by simp [Value.ownBlock])⟩

/-- slices.Clone of names, whatever the slice. -/
theorem clone_any (a : Option Addr) (n cap : Nat) (l : List ByteArray) (w : World) (hl : l.length = n) (hn : n * 16 ≤ 140737488355328) (hr : RowOf w a (l.map .string)) :
    Calls Try.prog 83 #[.slice a n cap] w fun e w' => OwnRet w.heap.size 9 n (l.map .string) e w' ∧ Below w.heap.size w w' := by
  cases a with
  | none =>
    have hl0 : l = [] := by
      rcases hr with h | ⟨b, off, h, _⟩
      · simpa using h
      · cases h
    subst hl0
    simp at hl; subst hl
    refine (clone_nil 0 cap w).mono ?_
    rintro e w' ⟨rfl, rfl⟩
    exact ⟨OwnRet.of (World.ownsRow_nil _ _ _ _), Below.refl _ _⟩
  | some ad =>
    refine clone_some ad n cap l w hl hn ?_
    intro j u hu
    rcases hr with h | ⟨b, off, h, hc⟩
    · rw [h] at hu; simp at hu
    · injection h with h; subst h
      rw [add_none]; exact hc j u hu

set_option maxHeartbeats 1000000 in
theorem all_kind (b : Nat) (kd : Int) (w : World) (h : Hid (kd < 1 ∨ 5 < kd)) :
    Calls Try.prog 43 #[.pointer (some ⟨b, 0, none⟩), .int .i64 kd] w fun e w' => e = .returned (.slice none 0 0) ∧ w = w' := by
  go_enter Try.func43, Try.ntmps43
  go_wp2_with (go_at_call 46; refine (named_no _ _ h.out).mono ?_; rintro e w' ⟨rfl, rfl⟩)
  go_ret
  exact ⟨rfl, rfl⟩

set_option maxHeartbeats 1000000 in
theorem all_in (b k n cap : Nat) (a : Option Addr) (l : List ByteArray) (w : World) (h1 : 1 ≤ k) (h5 : k ≤ 5) (c1 : w.cell? ⟨b, k, none⟩ = some (.slice a n cap)) (hl : Hid (l.length = n)) (hn : n * 16 ≤ 140737488355328) (hr : RowOf w a (l.map .string)) :
    Calls Try.prog 43 #[.pointer (some ⟨b, 0, none⟩), .int .i64 k] w fun e w' => OwnRet w.heap.size 9 n (l.map .string) e w' ∧ Below w.heap.size w w' := by
  have HR := Lib.hid hr
  clear hr
  go_enter Try.func43, Try.ntmps43
  go_wp2_with (first
    | (go_at_call 46; refine (named_yes _ _ (by omega) (by omega)).mono ?_; rintro e w' ⟨rfl, rfl⟩)
    | (go_at_call 83; refine (clone_any _ _ _ l _ hl.out hn HR.out).mono ?_; rintro e w' ⟨⟨va, vc, rfl, hv⟩, hb⟩))
  go_ret
  exact ⟨⟨_, _, rfl, hv⟩, hb⟩

theorem all_any (b : Nat) (kd : Int) (L : Nat → List ByteArray) (S : Nat → Prop) (w : World) (hT : Tab w b L S) (hm : ∀ k, (L k).length ≤ 4000) :
    Calls Try.prog 43 #[.pointer (some ⟨b, 0, none⟩), .int .i64 kd] w fun e w' => OwnRet w.heap.size 9 (allL L kd).length ((allL L kd).map .string) e w' ∧ Below w.heap.size w w' := by
  by_cases hk : kd < 1 ∨ 5 < kd
  · have e1 : allL L kd = [] := by unfold allL; rw [if_neg (by omega)]
    rw [e1]
    refine (all_kind b kd w hk).mono ?_
    rintro e w' ⟨rfl, rfl⟩
    exact ⟨OwnRet.of (World.ownsRow_nil _ _ _ _), Below.refl _ _⟩
  · obtain ⟨k, rfl⟩ := Int.eq_ofNat_of_zero_le (show 0 ≤ kd by omega)
    obtain ⟨a, cap, m, h⟩ := hT
    have e1 : allL L k = L k := by unfold allL; rw [if_pos (by omega)]; simp
    rw [e1]
    exact all_in b k _ _ _ (L k) w (by omega) (by omega) (h.c1 k (by omega)) rfl (by have := hm k; omega) (RowOf.of_owns (h.row k (by omega)))

end Go.Proofs.Ytpiofcjkekpboaa
