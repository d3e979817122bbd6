/- Contracts of package attorneyref01: Kind, Number, Of, May, Find, Name, All. -/
import Derived.Test.YtdlafipcbmbkjaaAtE
namespace Go.Proofs.Ytdlafipcbmbkjaa
open Go.RowKit Go.Maps

set_option maxHeartbeats 400000 in
theorem rkind_any (a : Nat) (w : World) (h : a < 65536) :
    Calls Try.prog 23 #[.int .u16 a] w fun e w' => e = .returned (.int .i64 (a / 8192 : Nat)) ∧ w = w' := by
  have hq : ((a : Int) - (a : Int) % 8192) / 8192 = ((a / 8192 : Nat) : Int) := by omega
  have HQ := Lib.hid hq
  clear hq
  go_enter Try.func23, Try.ntmps23
  go_wp2
  go_ret
  exact ⟨ret_int HQ.out, rfl⟩

set_option maxHeartbeats 400000 in
theorem rnumber_any (a : Nat) (w : World) (h : a < 65536) :
    Calls Try.prog 25 #[.int .u16 a] w fun e w' => e = .returned (.int .i64 (a % 8192 : Nat)) ∧ w = w' := by
  go_enter Try.func25, Try.ntmps25
  go_wp2
  go_ret
  exact ⟨rfl, rfl⟩

set_option maxHeartbeats 400000 in
theorem rof_any (k n : Int) (w : World) (h0 : 0 ≤ k) (h5 : k ≤ 7) (h1 : 0 ≤ n) (h2 : n < 8192) :
    Calls Try.prog 31 #[.int .i64 k, .int .i64 n] w fun e w' => e = .returned (.int .u16 (8192 * k + n)) ∧ w = w' := by
  go_enter Try.func31, Try.ntmps31
  go_wp2
  go_ret
  exact ⟨ret_int (by omega), rfl⟩

set_option maxHeartbeats 1000000 in
theorem rmay_any (s : ByteArray) (w : World) (hs : s.size ≤ maxLen) :
    Calls Try.prog 27 #[.string s] w fun e w' => e = .returned (.bool (mayB s)) ∧ w = w' := by
  unfold maxLen at hs
  by_cases h1 : s.size < 1
  · have e : mayB s = false := by simp [mayB]; omega
    have E := Lib.hid e; clear e
    go_enter Try.func27, Try.ntmps27
    go_wp2
    go_ret
    exact ⟨ret_bool E.out.symm, rfl⟩
  · by_cases h2 : 24 < s.size
    · have e : mayB s = false := by simp [mayB]; omega
      have E := Lib.hid e; clear e
      go_enter Try.func27, Try.ntmps27
      go_wp2
      go_ret
      exact ⟨ret_bool E.out.symm, rfl⟩
    · have d1 : decide ((s.size : Int) < 1) = false := by simp; omega
      have d2 : decide (24 < (s.size : Int)) = false := by simp; omega
      go_enter Try.func27, Try.ntmps27
      go_wp2
      go_loop [3, 4, 5] (fun i _ _ => ∃ k : Nat, k ≤ s.size ∧ i = .int .i64 k ∧ Hid (∀ j, (h : j < s.size) → j < k → okAt j s[j].toNat = true)) (fun i _ _ => s.size - (intOf i).toNat)
      case atStart => exact ⟨0, Nat.zero_le _, rfl, fun j _ hj => by omega⟩
      case round =>
        obtain ⟨k, hk, rfl, hall⟩ := hrel
        by_cases hlt : k < s.size
        · go_wp2
          all_goals first
            | (go_round
               case rel => exact ⟨k + 1, by omega, by go_num, may_step hall.out (by intro _; clear hall; grind [okAt])⟩
               case measure => simp [intOf]; omega)
            | (go_ret
               exact ⟨ret_bool (may_no s k hlt (by clear hall; grind [okAt])).symm, rfl⟩)
        · go_wp2
          go_ret
          exact ⟨ret_bool (may_yes s k (by omega) (by omega) (by omega) hall.out).symm, rfl⟩

theorem ret_ib {k : IntKind} {a b : Int} {x y : Bool} (h : a = b) (h' : x = y) : Ending.returned (.tuple #[.int k a, .bool x]) = .returned (.tuple #[.int k b, .bool y]) := by rw [h, h']

/-- A table of the reference in memory. -/
structure RTabG (w : World) (b : Nat) (L : Nat → List ByteArray) (S : Nat → Prop) (a : Nat → Option Addr) (cap : Nat → Nat) : Prop where
  sb : S b
  lt : ∀ j, S j → j < w.heap.size
  c1 : ∀ k, k < 6 → w.cell? ⟨b, k, none⟩ = some (.slice (a k) (L k).length (cap k))
  fr : ∀ k, w.frozen? ⟨b, k, none⟩ = false
  row : ∀ k, k < 6 → RowOf w (a k) ((L k).map .string)
  nil : ∀ k, k < 6 → a k = none → cap k = 0
  rowS : ∀ k, k < 6 → ∀ ad, a k = some ad → S ad.block ∧ ad.block ≠ b
def RTab (w : World) (b : Nat) (L : Nat → List ByteArray) (S : Nat → Prop) : Prop := ∃ a cap, RTabG w b L S a cap

theorem RTab.lt {w : World} {b : Nat} {L : Nat → List ByteArray} {S : Nat → Prop} (h : RTab w b L S) : ∀ j, S j → j < w.heap.size := by
  obtain ⟨a, cap, h⟩ := h; exact h.lt
theorem RTab.kept {w w' : World} {b : Nat} {L : Nat → List ByteArray} {S S' : Nat → Prop} (h : RTab w b L S) (hc : Chg S' w w') (hd : ∀ j, S j → ¬ S' j) : RTab w' b L S := by
  obtain ⟨a, cap, h⟩ := h
  have hb : ∀ j, S j → w'.heap[j]? = w.heap[j]? := fun j hj => hc.block j (h.lt j hj) (hd j hj)
  refine ⟨a, cap, h.sb, fun j hj => Nat.lt_of_lt_of_le (h.lt j hj) hc.size, ?_, ?_, ?_, h.nil, h.rowS⟩
  · intro k hk; rw [World.cell?_of_block (w := w) (hb b h.sb)]; exact h.c1 k hk
  · intro k; rw [World.frozen?_of_block (w := w) (hb b h.sb)]; exact h.fr k
  · intro k hk; exact (h.row k hk).kept hc (fun ad e => hd _ (h.rowS k hk ad e).1)
theorem RTab.mono {w : World} {b : Nat} {L : Nat → List ByteArray} {S S' : Nat → Prop} (h : RTab w b L S) (hs : ∀ j, S j → S' j) (hl : ∀ j, S' j → j < w.heap.size) : RTab w b L S' := by
  obtain ⟨a, cap, h⟩ := h
  exact ⟨a, cap, hs _ h.sb, hl, h.c1, h.fr, h.row, h.nil, fun k hk ad e => ⟨hs _ (h.rowS k hk ad e).1, (h.rowS k hk ad e).2⟩⟩

set_option maxHeartbeats 1000000 in
theorem rfind_kind (b : Nat) (kd : Int) (s : ByteArray) (w : World) (h : kd < 1 ∨ 5 < kd) :
    Calls Try.prog 13 #[.pointer (some ⟨b, 0, none⟩), .int .i64 kd, .string s] w fun e w' =>
      e = .returned (.tuple #[.int .u16 0, .bool false]) ∧ w = w' := by
  by_cases h1 : kd < 1
  · clear h
    go_enter Try.func13, Try.ntmps13
    go_wp2
    go_ret2
    exact ⟨rfl, rfl⟩
  · have h2 : 5 < kd := by omega
    clear h
    go_enter Try.func13, Try.ntmps13
    go_wp2
    go_ret2
    exact ⟨rfl, rfl⟩

theorem posOf_at {s : ByteArray} {l : List ByteArray} {i : Nat} (h : l[i]? = some s) (hn : ∀ j, j < i → l[j]? ≠ some s) : posOf s l = i := posOf_of_get h hn

def posA (k : Nat) (s : ByteArray) (l : List ByteArray) : Int := if s ∈ l then 8192 * k + (posOf s l + 1) else 0
def memB (s : ByteArray) (l : List ByteArray) : Bool := decide (s ∈ l)

set_option maxHeartbeats 1000000 in
theorem rfind_in (b k n cap : Nat) (a : Option Addr) (s : ByteArray) (l : List ByteArray) (w : World) (h1 : 1 ≤ k) (h5 : k ≤ 5) (hl : Hid (l.length = n)) (hn : n ≤ 4000)
    (c1 : w.cell? ⟨b, k, none⟩ = some (.slice a n cap)) (hr : RowOf w a (l.map .string)) :
    Calls Try.prog 13 #[.pointer (some ⟨b, 0, none⟩), .int .i64 k, .string s] w fun e w' =>
      e = .returned (.tuple #[.int .u16 (posA k s l), .bool (memB s l)]) ∧ w = w' := by
  have d1 : decide ((k : Int) < 1) = false := by simp; omega
  have d2 : decide (5 < (k : Int)) = false := by simp; omega
  rcases hr with h0 | ⟨r, off, rfl, hcell⟩
  · have hl0 : l = [] := by simpa using h0
    subst hl0
    have hn0 : n = 0 := by have := hl.out; simp at this; omega
    subst hn0
    clear hl h0
    go_enter Try.func13, Try.ntmps13
    go_wp2
    refine wp_loop_rounds 1 ?_
    rw [rounds_succ]
    go_wp2
    go_ret2
    exact ⟨ret_ib (by simp [posA]) (by simp [memB]), rfl⟩
  · have HC := Lib.hid hcell
    clear hcell
    go_enter Try.func13, Try.ntmps13
    go_wp2
    go_loop [8] (fun t => ∃ i : Nat, i ≤ n ∧ t = .int .i64 i ∧ Hid (∀ j, j < i → l[j]? ≠ some s)) (fun t => n - (intOf t).toNat)
    case atStart => exact ⟨0, Nat.zero_le _, rfl, fun j hj => by omega⟩
    case round =>
      obtain ⟨i, hi, rfl, hall⟩ := hrel
      by_cases hlt : i < n
      · have hil : i < l.length := by have := hl.out; omega
        have hc : w.cell? ⟨r, off + i, none⟩ = some (.string l[i]) := HC.out i _ (by simp [hil])
        have hget : Hid (l[i]? = some l[i]) := by show _ = _; simp [hil]
        generalize l[i] = x at hc hget
        by_cases he : x = s
        · subst he
          have hin : Hid (x ∈ l) := List.mem_of_getElem? hget.out
          have hpos : Hid (posOf x l = i) := posOf_at hget.out hall.out
          go_wp2_with (go_at_call 31; refine (rof_any _ _ _ (by omega) (by omega) (by omega) (by omega)).mono ?_; rintro e w' ⟨rfl, rfl⟩)
          go_ret2
          exact ⟨ret_ib (by rw [posA, if_pos hin.out, hpos.out]) (by rw [memB, decide_eq_true hin.out]), rfl⟩
        · have he2 := str_ne he
          have He := Lib.hid he
          clear he
          go_wp2_with fail
          go_round
          case rel => exact ⟨i + 1, by omega, by go_num, fun j hj hjs => by
            by_cases e : j = i
            · subst e; rw [hget.out] at hjs; injection hjs with hjs; exact He.out hjs
            · exact hall.out j (by omega) hjs⟩
          case measure => simp [intOf]; omega
      · have hnin : Hid (s ∉ l) := by
          intro hin
          obtain ⟨j, hj, e⟩ := List.mem_iff_getElem.1 hin
          exact hall.out j (by have := hl.out; omega) (by simp [hj, e])
        go_wp2_with fail
        go_ret2
        exact ⟨ret_ib (by rw [posA, if_neg hnin.out]) (by rw [memB, decide_eq_false hnin.out]), rfl⟩

theorem rfind_any (b : Nat) (kd : Int) (s : ByteArray) (L : Nat → List ByteArray) (S : Nat → Prop) (w : World) (hT : RTab w b L S) (hm : ∀ k, (L k).length ≤ 4000) :
    Calls Try.prog 13 #[.pointer (some ⟨b, 0, none⟩), .int .i64 kd, .string s] w fun e w' =>
      e = .returned (.tuple #[.int .u16 (findA L kd s), .bool (findB L kd s)]) ∧ w = w' := by
  by_cases hk : kd < 1 ∨ 5 < kd
  · have e1 : findB L kd s = false := by simp [findB]; omega
    have e2 : findA L kd s = 0 := by simp [findA, e1]
    rw [e1, e2]
    exact rfind_kind b kd s w hk
  · obtain ⟨k, rfl⟩ := Int.eq_ofNat_of_zero_le (show 0 ≤ kd by omega)
    obtain ⟨a, cap, h⟩ := hT
    have e1 : findB L k s = memB s (L k) := by simp only [findB, memB, decide_eq_decide]; exact ⟨fun h => by simpa using h.2.2, fun h => ⟨by omega, by omega, by simpa using h⟩⟩
    have e2 : findA L k s = posA k s (L k) := by simp [findA, e1, posA, memB]
    rw [e1, e2]
    exact rfind_in b k _ _ _ s (L k) w (by omega) (by omega) rfl (hm k) (h.c1 k (by omega)) (h.row k (by omega))

set_option maxHeartbeats 1000000 in
theorem rname_D (b : Nat) (w : World) :
    Calls Try.prog 17 #[.pointer (some ⟨b, 0, none⟩), .int .u16 1] w fun e w' => e = .returned (.tuple #[.string ⟨#[68]⟩, .bool true]) ∧ w = w' := by
  go_enter Try.func17, Try.ntmps17
  go_wp2
  go_ret2
  exact ⟨rfl, rfl⟩

set_option maxHeartbeats 1000000 in
theorem rname_no (b x k m n cap : Nat) (a : Option Addr) (w : World) (hx : x < 65536) (h1 : ((x : Int) == 1) = false) (hk : Hid (x / 8192 = k)) (hm : Hid (x % 8192 = m))
    (c1 : w.cell? ⟨b, k, none⟩ = some (.slice a n cap)) (h : k < 1 ∨ 5 < k ∨ m < 1 ∨ n < m) :
    Calls Try.prog 17 #[.pointer (some ⟨b, 0, none⟩), .int .u16 x] w fun e w' => e = .returned (.tuple #[.string ⟨#[]⟩, .bool false]) ∧ w = w' := by
  by_cases q1 : k < 1
  · have d1 : decide ((k : Int) < 1) = true := by simp; omega
    clear h c1
    go_enter Try.func17, Try.ntmps17
    go_wp2_with (first
      | (go_at_call 23; refine (rkind_any _ _ hx).mono ?_; rintro e w' ⟨rfl, rfl⟩; rw [hk.out])
      | (go_at_call 25; refine (rnumber_any _ _ hx).mono ?_; rintro e w' ⟨rfl, rfl⟩; rw [hm.out]))
    go_ret2
    exact ⟨rfl, rfl⟩
  · by_cases q2 : 5 < k
    · have d1 : decide ((k : Int) < 1) = false := by simp; omega
      have d2 : decide (5 < (k : Int)) = true := by simp; omega
      clear h c1
      go_enter Try.func17, Try.ntmps17
      go_wp2_with (first
        | (go_at_call 23; refine (rkind_any _ _ hx).mono ?_; rintro e w' ⟨rfl, rfl⟩; rw [hk.out])
        | (go_at_call 25; refine (rnumber_any _ _ hx).mono ?_; rintro e w' ⟨rfl, rfl⟩; rw [hm.out]))
      go_ret2
      exact ⟨rfl, rfl⟩
    · have d1 : decide ((k : Int) < 1) = false := by simp; omega
      have d2 : decide (5 < (k : Int)) = false := by simp; omega
      by_cases q3 : m < 1
      · have d3 : decide ((m : Int) < 1) = true := by simp; omega
        clear h c1
        go_enter Try.func17, Try.ntmps17
        go_wp2_with (first
          | (go_at_call 23; refine (rkind_any _ _ hx).mono ?_; rintro e w' ⟨rfl, rfl⟩; rw [hk.out])
          | (go_at_call 25; refine (rnumber_any _ _ hx).mono ?_; rintro e w' ⟨rfl, rfl⟩; rw [hm.out]))
        go_ret2
        exact ⟨rfl, rfl⟩
      · have d3 : decide ((m : Int) < 1) = false := by simp; omega
        have d4 : n < m := by omega
        clear h
        go_enter Try.func17, Try.ntmps17
        go_wp2_with (first
          | (go_at_call 23; refine (rkind_any _ _ hx).mono ?_; rintro e w' ⟨rfl, rfl⟩; rw [hk.out])
          | (go_at_call 25; refine (rnumber_any _ _ hx).mono ?_; rintro e w' ⟨rfl, rfl⟩; rw [hm.out]))
        go_ret2
        exact ⟨rfl, rfl⟩

set_option maxHeartbeats 1000000 in
theorem rname_in (b x k m n cap r off : Nat) (s : ByteArray) (w : World) (hx : x < 65536) (h1 : ((x : Int) == 1) = false) (hk : Hid (x / 8192 = k)) (hm : Hid (x % 8192 = m))
    (q1 : 1 ≤ k) (q2 : k ≤ 5) (q3 : 1 ≤ m) (q4 : m ≤ n) (q5 : m < 8192) (c1 : w.cell? ⟨b, k, none⟩ = some (.slice (some ⟨r, off, none⟩) n cap))
    (c2 : w.cell? ⟨r, off + (m - 1), none⟩ = some (.string s)) :
    Calls Try.prog 17 #[.pointer (some ⟨b, 0, none⟩), .int .u16 x] w fun e w' => e = .returned (.tuple #[.string s, .bool true]) ∧ w = w' := by
  have d1 : decide ((k : Int) < 1) = false := by simp; omega
  have d2 : decide (5 < (k : Int)) = false := by simp; omega
  have d3 : decide ((m : Int) < 1) = false := by simp; omega
  go_enter Try.func17, Try.ntmps17
  go_wp2_with (first
    | (go_at_call 23; refine (rkind_any _ _ hx).mono ?_; rintro e w' ⟨rfl, rfl⟩; rw [hk.out])
    | (go_at_call 25; refine (rnumber_any _ _ hx).mono ?_; rintro e w' ⟨rfl, rfl⟩; rw [hm.out]))
  go_ret2
  exact ⟨rfl, rfl⟩

set_option maxHeartbeats 1000000 in
theorem rname_far (b x k m : Nat) (w : World) (hx : x < 65536) (h1 : ((x : Int) == 1) = false) (hk : Hid (x / 8192 = k)) (hm : Hid (x % 8192 = m)) (q2 : 5 < k) :
    Calls Try.prog 17 #[.pointer (some ⟨b, 0, none⟩), .int .u16 x] w fun e w' => e = .returned (.tuple #[.string ⟨#[]⟩, .bool false]) ∧ w = w' := by
  have d1 : decide ((k : Int) < 1) = false := by simp; omega
  have d2 : decide (5 < (k : Int)) = true := by simp; omega
  go_enter Try.func17, Try.ntmps17
  go_wp2_with (first
    | (go_at_call 23; refine (rkind_any _ _ hx).mono ?_; rintro e w' ⟨rfl, rfl⟩; rw [hk.out])
    | (go_at_call 25; refine (rnumber_any _ _ hx).mono ?_; rintro e w' ⟨rfl, rfl⟩; rw [hm.out]))
  go_ret2
  exact ⟨rfl, rfl⟩

theorem rname_any (b x : Nat) (L : Nat → List ByteArray) (S : Nat → Prop) (w : World) (hx : x < 65536) (hT : RTab w b L S) :
    Calls Try.prog 17 #[.pointer (some ⟨b, 0, none⟩), .int .u16 x] w fun e w' => e = .returned (.tuple #[.string (nameS L x), .bool (nameB L x)]) ∧ w = w' := by
  by_cases h1 : x = 1
  · subst h1
    have e1 : nameB L 1 = true := by simp [nameB]
    have e2 : nameS L 1 = ⟨#[68]⟩ := by simp [nameS]
    rw [e1, e2]
    exact rname_D b w
  · have h1' : ((x : Int) == 1) = false := by simp; omega
    obtain ⟨a, cap, h⟩ := hT
    by_cases hy : 1 ≤ x / 8192 ∧ x / 8192 ≤ 5 ∧ 1 ≤ x % 8192 ∧ x % 8192 ≤ (L (x / 8192)).length
    · have e1 : nameB L x = true := by simp only [nameB, decide_eq_true_eq]; exact .inr hy
      have hlt : x % 8192 - 1 < (L (x / 8192)).length := by omega
      have e2 : nameS L x = (L (x / 8192))[x % 8192 - 1] := by unfold nameS; rw [if_neg h1, e1]; simp [hlt]
      have hp : 0 < (L (x / 8192)).length := by omega
      have c1 := h.c1 (x / 8192) (by omega)
      rw [e1, e2]
      rcases h.row (x / 8192) (by omega) with h0 | ⟨r, off, ha, hc⟩
      · have := congrArg List.length h0; rw [List.length_map, List.length_nil] at this; omega
      · rw [ha] at c1
        exact rname_in b x _ _ _ _ r off _ w hx h1' rfl rfl hy.1 hy.2.1 hy.2.2.1 hy.2.2.2 (by omega) c1 (hc _ _ (by simp [hlt]))
    · have e1 : nameB L x = false := by simp only [nameB, decide_eq_false_iff_not]; rintro (h | h); exact h1 h; exact hy h
      have e2 : nameS L x = ⟨#[]⟩ := by unfold nameS; rw [if_neg h1, e1]; rfl
      rw [e1, e2]
      by_cases hk : x / 8192 < 6
      · exact rname_no b x _ _ _ _ _ w hx h1' rfl rfl (h.c1 (x / 8192) hk) (by omega)
      · exact rname_far b x _ _ w hx h1' rfl rfl (by omega)

set_option maxHeartbeats 1000000 in
theorem rall_kind (b : Nat) (kd : Int) (w : World) (h : kd < 1 ∨ 5 < kd) :
    Calls Try.prog 20 #[.pointer (some ⟨b, 0, none⟩), .int .i64 kd] w fun e w' => e = .returned (.slice none 0 0) ∧ w = w' := by
  by_cases h1 : kd < 1
  · clear h
    go_enter Try.func20, Try.ntmps20
    go_wp2
    go_ret
    exact ⟨rfl, rfl⟩
  · have h2 : 5 < kd := by omega
    clear h
    go_enter Try.func20, Try.ntmps20
    go_wp2
    go_ret
    exact ⟨rfl, rfl⟩

set_option maxHeartbeats 1000000 in
theorem rall_in (b k n cap : Nat) (a : Option Addr) (l : List ByteArray) (w : World) (h1 : 1 ≤ k) (h5 : k ≤ 5) (hl : Hid (l.length = n)) (hn : n ≤ 4000)
    (c1 : w.cell? ⟨b, k, none⟩ = some (.slice a n cap)) (hr : RowOf w a (l.map .string)) (hc : Hid (a = none → cap = 0)) :
    Calls Try.prog 20 #[.pointer (some ⟨b, 0, none⟩), .int .i64 k] w fun e w' => OwnRet w.heap.size 9 n (l.map .string) e w' ∧ Below w.heap.size w w' := by
  have HR := Lib.hid hr
  clear hr
  have d1 : decide ((k : Int) < 1) = false := by simp; omega
  have d2 : decide (5 < (k : Int)) = false := by simp; omega
  have q1 := fun o => cell_alloc c1 o
  obtain ⟨i0, hi, hz0, hz1, hz2⟩ := info_parts infoStr
  go_enter Try.func20, Try.ntmps20
  go_wp2_with (at_builtin; refine wpList_append_row _ rfl _ _ 30 rfl w.heap.size 9 i0 (.string ByteArray.empty) 1 16 Try.underlying30 hi hz0 hz1 hz2 rfl (by decide) (.slice (some ⟨w.heap.size, 0, none⟩) 0 0) 0 [] rfl (World.ownsRow_made w #[] 0 (Nat.le_refl _) (Nat.zero_le _) (by simp)) a n cap (l.map .string) rfl (by simp [hl.out]) (HR.out.ext ((Below.refl _ w).alloc (Nat.le_refl _) _)) hc.out (oneCell_strs l) (by unfold maxLen; omega) (by omega) (by simp) ?_; intro a' cap' w1 hown hgrow _ _)
  simp only [Nat.zero_add, List.nil_append] at hown
  go_wp2
  go_ret
  exact ⟨OwnRet.of hown, ((Below.refl _ w).alloc (Nat.le_refl _) _).grown hgrow (by simp) (by simp [Value.ownBlock])⟩

theorem rall_any (b : Nat) (kd : Int) (L : Nat → List ByteArray) (S : Nat → Prop) (w : World) (hT : RTab w b L S) (hm : ∀ k, (L k).length ≤ 4000) :
    Calls Try.prog 20 #[.pointer (some ⟨b, 0, none⟩), .int .i64 kd] w fun e w' => OwnRet w.heap.size 9 (allL L kd).length ((allL L kd).map .string) e w' ∧ Below w.heap.size w w' := by
  by_cases hk : kd < 1 ∨ 5 < kd
  · have e1 : allL L kd = [] := by unfold allL; rw [if_neg (by omega)]
    rw [e1]
    refine (rall_kind b kd w hk).mono ?_
    rintro e w' ⟨rfl, rfl⟩
    exact ⟨OwnRet.of (World.ownsRow_nil _ _ _ _), Below.refl _ _⟩
  · obtain ⟨k, rfl⟩ := Int.eq_ofNat_of_zero_le (show 0 ≤ kd by omega)
    obtain ⟨a, cap, h⟩ := hT
    have e1 : allL L k = L k := by unfold allL; rw [if_pos (by omega)]; simp
    rw [e1]
    exact rall_in b k _ _ _ (L k) w (by omega) (by omega) rfl (hm k) (h.c1 k (by omega)) (h.row k (by omega)) (h.nil k (by omega))

end Go.Proofs.Ytdlafipcbmbkjaa
