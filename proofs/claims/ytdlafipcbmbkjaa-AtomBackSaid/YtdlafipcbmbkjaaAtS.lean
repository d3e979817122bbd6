/- Contract of (*attorneyref01.Table).Put. -/
import Derived.Test.YtdlafipcbmbkjaaAtR
import Derived.Deep.RegionLaw
namespace Go.Proofs.Ytdlafipcbmbkjaa
open Go.RowKit Go.Maps

theorem own_empty {X : World} {g : Nat} {t : TypeId} (h : X.heap[g]? = some (.cells #[] t (0, 0))) : X.ownsRow 0 t 1 (.slice (some ⟨g, 0, none⟩) 0 0) 0 [] :=
  ⟨by simp, .inr ⟨g, 0, #[], rfl, Nat.zero_le _, h, Nat.le_refl _, Nat.zero_le _, by simp, by simp⟩⟩
theorem RowOf.later {w X : World} {a : Option Addr} {xs : List Value} (h : RowOf w a xs) (hX : ∀ j, j < w.heap.size → X.heap[j]? = w.heap[j]?) : RowOf X a xs := by
  rcases h with h | ⟨b, off, rfl, h⟩
  · exact .inl h
  · exact .inr ⟨b, off, rfl, fun j u hu => by rw [World.cell?_of_block (w := w) (hX b (World.block_lt_of_cell? w _ (h j u hu)))]; exact h j u hu⟩
theorem row_one {X : World} {g : Nat} {v : Value} (h : X.cell? ⟨g, 0, none⟩ = some v) : RowOf X (some ⟨g, 0, none⟩) [v] :=
  .inr ⟨g, 0, rfl, fun j u hu => by
    match j, hu with
    | 0, hu => simp at hu; subst hu; simpa using h
    | j + 1, hu => simp at hu⟩

theorem hp_new (w : World) (o : Obj) : (w.alloc o).heap[w.heap.size]? = some o := heap_alloc_new w o
theorem hp_new1 (w : World) (o o' : Obj) : ((w.alloc o).alloc o').heap[w.heap.size]? = some o := heap_alloc2_old w o o'
theorem hp_new2 (w : World) (o o' : Obj) : ((w.alloc o).alloc o').heap[w.heap.size + 1]? = some o' := heap_alloc2_new w o o'
theorem hp_old1 (w : World) (o : Obj) (j : Nat) (h : j < w.heap.size) : (w.alloc o).heap[j]? = w.heap[j]? := Below.heap_alloc w o j h
theorem hp_old2 (w : World) (o o' : Obj) (j : Nat) (h : j < w.heap.size) : ((w.alloc o).alloc o').heap[j]? = w.heap[j]? := by
  rw [Below.heap_alloc _ _ j (by simp; omega), Below.heap_alloc w o j h]

/-- What Put of a new name leaves of the reference's table. -/
structure RPutPost (w w' : World) (b k n : Nat) (xs : List Value) : Prop where
  rows : ∃ a cap, w'.cell? ⟨b, k, none⟩ = some (.slice a n cap) ∧ RowOf w' a xs ∧ (a = none → cap = 0) ∧ (∀ ad, a = some ad → w.heap.size ≤ ad.block ∧ ad.block < w'.heap.size)
  chg : Chg (fun j => j = b) w w'
  cells : ∀ o v, o ≠ k → w.cell? ⟨b, o, none⟩ = some v → w'.cell? ⟨b, o, none⟩ = some v
  frozen : ∀ o, w.frozen? ⟨b, o, none⟩ = false → w'.frozen? ⟨b, o, none⟩ = false

theorem cell_new1 (w : World) (v : Value) (t : TypeId) (o' : Obj) : ((w.alloc (.cells #[v] t)).alloc o').cell? ⟨w.heap.size, 0, none⟩ = some v := by
  rw [cell_of_row _ _ _ _ _ _ (hp_new1 w _ _)]; rfl
theorem cell_new2 (w : World) (v : Value) (t : TypeId) (o : Obj) : ((w.alloc o).alloc (.cells #[v] t)).cell? ⟨w.heap.size + 1, 0, none⟩ = some v := by
  rw [cell_of_row _ _ _ _ _ _ (hp_new2 w _ _)]; rfl
theorem own_ge {v : Value} {x y : Option Nat} {B : Nat} (h : v.ownBlock = x ∨ v.ownBlock = y) (h1 : ∀ k, x = some k → B ≤ k) (h2 : ∀ k, y = some k → B ≤ k) : ∀ k, v.ownBlock = some k → B ≤ k := by
  intro k hk
  rcases h with h | h
  · exact h1 k (h ▸ hk)
  · exact h2 k (h ▸ hk)
theorem bel1 (w : World) (o : Obj) : Below w.heap.size w (w.alloc o) := (Below.refl _ w).alloc (Nat.le_refl _) o
theorem bel2 (w : World) (o o' : Obj) : Below w.heap.size w ((w.alloc o).alloc o') := (bel1 w o).alloc (by simp) o'
theorem some_ge {B g : Nat} (h : B ≤ g) : ∀ k, some g = some k → B ≤ k := by intro k e; injection e with e; omega

theorem rputPost_of {w w8 : World} {b k n c8 : Nat} {a8 : Option Addr} {xs : List Value} {u : Value} (hB : Below w.heap.size w w8) (hc : w.cell? ⟨b, k, none⟩ = some u) (hown : w8.ownsRow 0 9 1 (.slice a8 n c8) n xs)
    (hge : ∀ k, (Value.slice a8 n c8).ownBlock = some k → w.heap.size ≤ k) (hc8 : a8 = none → c8 = 0) : RPutPost w (w8.setCell ⟨b, k, none⟩ (.slice a8 n c8)) b k n xs := by
  have hb : b < w.heap.size := World.block_lt_of_cell? w _ hc
  have hc' : w8.cell? ⟨b, k, none⟩ = some u := by rw [hB.cell hb]; exact hc
  refine ⟨⟨a8, c8, World.cell?_setCell_same _ _ _ hc', ?_, hc8, ?_⟩, ?_, ?_, ?_⟩
  · refine RowOf.of_owns (ownsRow_setCell_other hown (a := ⟨b, k, none⟩) ?_ _)
    intro e; have := hge _ e; simp at this; omega
  · intro ad e
    subst e
    refine ⟨hge _ rfl, ?_⟩
    have := (hown.lt _ rfl).2
    simpa [World.setCell] using this
  · exact (Chg.ext hB).setCell _ _ (fun _ => rfl)
  · intro o v ho hv
    rw [World.cell?_setCell_other _ _ _ _ (by intro e; injection e; omega), hB.cell hb]; exact hv
  · intro o hv
    rw [World.frozen?_setCell, hB.frozen hb]; exact hv

set_option maxHeartbeats 4000000 in
set_option maxRecDepth 100000 in
theorem rput_new (b k n cap : Nat) (a : Option Addr) (s : ByteArray) (l : List ByteArray) (w : World) (hs : s.size ≤ maxLen) (h1 : 1 ≤ k) (h5 : k ≤ 5) (hm : Hid (mayB s = true)) (hl : Hid (l.length = n)) (hn : n < 4000)
    (c1 : w.cell? ⟨b, k, none⟩ = some (.slice a n cap)) (f1 : w.frozen? ⟨b, k, none⟩ = false) (hr : Hid (RowOf w a (l.map .string))) (hc : Hid (a = none → cap = 0)) (hno : Hid (s ∉ l)) :
    Calls Try.prog 15 #[.pointer (some ⟨b, 0, none⟩), .int .i64 k, .string s] w fun e w' =>
      e = .returned (.tuple #[.int .u16 (8192 * k + (n + 1)), .int .i64 0]) ∧ RPutPost w w' b k (n + 1) (l.map .string ++ [.string s]) := by
  have d1 : decide ((k : Int) < 1) = false := by simp; omega
  have d2 : decide (5 < (k : Int)) = false := by simp; omega
  have h6 : ((k : Int) < 6) := by omega
  have h0 : ((0 : Int) ≤ k) := by omega
  have h6n : k < 6 := by omega
  have hb : b < w.heap.size := World.block_lt_of_cell? w _ c1
  have qa := fun o => cell_alloc c1 o
  have qb := fun o o' => cell_alloc (cell_alloc c1 o) o'
  have hmem : memB s l = false := by simp [memB, hno.out]
  obtain ⟨i0, hi, hz0, hz1, hz2⟩ := info_parts infoStr
  go_enter Try.func15, Try.ntmps15
  go_wp2_with (first
    | (go_at_call 27; refine (rmay_any _ _ hs).mono ?_; rintro e w' ⟨rfl, rfl⟩; rw [hm.out])
    | (go_at_call 13; refine (rfind_in b k n cap a s l _ h1 h5 hl (by omega) c1 hr.out).mono ?_; rintro e w' ⟨rfl, rfl⟩))
  have hl1 : Hid ((l.map Value.string).length = n * 1) := by have := hl.out; show _ = _; simp [this]
  have b1 : Hid (0 + n ≤ maxLen) := by show _ ≤ _; unfold maxLen; omega
  have b2 : Hid ((0 + n) * 16 ≤ 140737488355328) := by show _ ≤ _; omega
  have one1 : Hid (∀ u ∈ [Value.string s], u.oneCell' = true) := by intro u hu; simp at hu; subst hu; rfl
  have b3 : Hid (n + 1 ≤ maxLen) := by show _ ≤ _; unfold maxLen; omega
  have b4 : Hid ((n + 1) * 16 ≤ 140737488355328) := by show _ ≤ _; omega
  go_region_law (first
    | (refine step_append_row _ rfl (.tmp 38) (.tmp 44) 30 rfl 0 9 i0 (.string ByteArray.empty) 1 16 Try.underlying30 hi hz0 hz1 hz2 rfl (by decide) (.slice (some ⟨w.heap.size, 0, none⟩) 0 0) 0 [] ?_ ?_ a n cap (l.map .string) ?_ hl1.out ?_ hc.out (oneCell_strs l) b1.out b2.out (Nat.zero_le _) ?_; (· simp [Act.eval, Act.put]); (· first | exact own_empty (hp_new w _) | exact own_empty (hp_new1 w _ _) | exact own_empty (hp_new2 w _ _)); (· simp [Act.eval, Act.put]); (· first | exact hr.out.later (hp_old1 w _) | exact hr.out.later (hp_old2 w _ _)); intro a4 c4 w4 hown4 hgrow4 hat4 hc4; simp only [Nat.zero_add, List.nil_append] at hown4 hat4; have hB4 : Below w.heap.size w w4 := (by first | exact (bel1 w _).drew.grown hgrow4 (by simp) (some_ge (by first | exact Nat.le_refl _ | exact Nat.le_succ _)) | exact (bel2 w _ _).drew.grown hgrow4 (by simp; omega) (some_ge (by first | exact Nat.le_refl _ | exact Nat.le_succ _))); have hr4 : Hid (∀ k, (Value.slice a4 n c4).ownBlock = some k → w.heap.size ≤ k) := own_ge hat4 (some_ge (by first | exact Nat.le_refl _ | exact Nat.le_succ _)) (some_ge (by first | exact (bel1 w _).size | exact (bel2 w _ _).size)))
    | (refine step_append_row _ rfl (.tmp 38) (.tmp 44) 30 rfl 0 9 i0 (.string ByteArray.empty) 1 16 Try.underlying30 hi hz0 hz1 hz2 rfl (by decide) (.slice (some ⟨w.heap.size + 1, 0, none⟩) 0 0) 0 [] ?_ ?_ a n cap (l.map .string) ?_ hl1.out ?_ hc.out (oneCell_strs l) b1.out b2.out (Nat.zero_le _) ?_; (· simp [Act.eval, Act.put]); (· first | exact own_empty (hp_new w _) | exact own_empty (hp_new1 w _ _) | exact own_empty (hp_new2 w _ _)); (· simp [Act.eval, Act.put]); (· first | exact hr.out.later (hp_old1 w _) | exact hr.out.later (hp_old2 w _ _)); intro a4 c4 w4 hown4 hgrow4 hat4 hc4; simp only [Nat.zero_add, List.nil_append] at hown4 hat4; have hB4 : Below w.heap.size w w4 := (by first | exact (bel1 w _).drew.grown hgrow4 (by simp) (some_ge (by first | exact Nat.le_refl _ | exact Nat.le_succ _)) | exact (bel2 w _ _).drew.grown hgrow4 (by simp; omega) (some_ge (by first | exact Nat.le_refl _ | exact Nat.le_succ _))); have hr4 : Hid (∀ k, (Value.slice a4 n c4).ownBlock = some k → w.heap.size ≤ k) := own_ge hat4 (some_ge (by first | exact Nat.le_refl _ | exact Nat.le_succ _)) (some_ge (by first | exact (bel1 w _).size | exact (bel2 w _ _).size)))
    | (refine step_append_row _ rfl (.tmp 45) (.tmp 47) 30 rfl 0 9 i0 (.string ByteArray.empty) 1 16 Try.underlying30 hi hz0 hz1 hz2 rfl (by decide) (.slice a4 n c4) n (l.map .string) ?_ (hown4.alloc _) (some ⟨w4.heap.size, 0, none⟩) 1 1 [.string s] ?_ rfl ?_ (fun h => by cases h) one1.out b3.out b4.out (Nat.zero_le _) ?_; (· simp [Act.eval, Act.put]); (· simp [Act.eval, Act.put]); (· exact row_one (by simp)); intro a8 c8 w8 hown8 hgrow8 hat8 hc8; have hB8 : Below w.heap.size w w8 := (hB4.alloc hB4.size _).grown hgrow8 (by have := hB4.size; simp; omega) hr4.out; have hr8 : Hid (∀ k, (Value.slice a8 (n + 1) c8).ownBlock = some k → w.heap.size ≤ k) := own_ge hat8 hr4.out (some_ge (by first | exact hB4.size | exact (hB4.alloc hB4.size _).size)); have q1 : w8.cell? ⟨b, k, none⟩ = some (.slice a n cap) := (by rw [hB8.cell hb]; exact c1); have q2 : w8.frozen? ⟨b, k, none⟩ = false := (by rw [hB8.frozen hb]; exact f1))
    | (refine step_append_row _ rfl (.tmp 45) (.tmp 47) 30 rfl 0 9 i0 (.string ByteArray.empty) 1 16 Try.underlying30 hi hz0 hz1 hz2 rfl (by decide) (.slice a4 n c4) n (l.map .string) ?_ hown4 (some ⟨w.heap.size + 1, 0, none⟩) 1 1 [.string s] ?_ rfl ?_ (fun h => by cases h) one1.out b3.out b4.out (Nat.zero_le _) ?_; (· simp [Act.eval, Act.put]); (· simp [Act.eval, Act.put]); (· exact row_one (grow_cell hgrow4 (cell_new2 w _ _ _) (by simp [Value.ownBlock]))); intro a8 c8 w8 hown8 hgrow8 hat8 hc8; have hB8 : Below w.heap.size w w8 := hB4.grown hgrow8 hB4.size hr4.out; have hr8 : Hid (∀ k, (Value.slice a8 (n + 1) c8).ownBlock = some k → w.heap.size ≤ k) := own_ge hat8 hr4.out (some_ge (by first | exact hB4.size | exact (hB4.alloc hB4.size _).size)); have q1 : w8.cell? ⟨b, k, none⟩ = some (.slice a n cap) := (by rw [hB8.cell hb]; exact c1); have q2 : w8.frozen? ⟨b, k, none⟩ = false := (by rw [hB8.frozen hb]; exact f1))
    | (refine step_append_row _ rfl (.tmp 45) (.tmp 47) 30 rfl 0 9 i0 (.string ByteArray.empty) 1 16 Try.underlying30 hi hz0 hz1 hz2 rfl (by decide) (.slice a4 n c4) n (l.map .string) ?_ hown4 (some ⟨w.heap.size, 0, none⟩) 1 1 [.string s] ?_ rfl ?_ (fun h => by cases h) one1.out b3.out b4.out (Nat.zero_le _) ?_; (· simp [Act.eval, Act.put]); (· simp [Act.eval, Act.put]); (· exact row_one (grow_cell hgrow4 (cell_new1 w _ _ _) (by simp [Value.ownBlock]))); intro a8 c8 w8 hown8 hgrow8 hat8 hc8; have hB8 : Below w.heap.size w w8 := hB4.grown hgrow8 hB4.size hr4.out; have hr8 : Hid (∀ k, (Value.slice a8 (n + 1) c8).ownBlock = some k → w.heap.size ≤ k) := own_ge hat8 hr4.out (some_ge (by first | exact hB4.size | exact (hB4.alloc hB4.size _).size)); have q1 : w8.cell? ⟨b, k, none⟩ = some (.slice a n cap) := (by rw [hB8.cell hb]; exact c1); have q2 : w8.frozen? ⟨b, k, none⟩ = false := (by rw [hB8.frozen hb]; exact f1)))
  all_goals
    clear qa qb
    go_wp2_with (go_at_call 31; refine (rof_any _ _ _ (by omega) (by omega) (by omega) (by omega)).mono ?_; rintro e w' ⟨rfl, rfl⟩)
    go_ret2
    exact ⟨rfl, rputPost_of hB8 c1 hown8 hr8.out hc8⟩

set_option maxHeartbeats 1000000 in
set_option maxRecDepth 100000 in
theorem rput_kind (b : Nat) (kd : Int) (s : ByteArray) (w : World) (h : kd < 1 ∨ 5 < kd) :
    Calls Try.prog 15 #[.pointer (some ⟨b, 0, none⟩), .int .i64 kd, .string s] w fun e w' => e = .returned (.tuple #[.int .u16 0, .int .i64 1]) ∧ w = w' := by
  by_cases h1 : kd < 1
  · clear h
    go_enter Try.func15, Try.ntmps15
    go_wp2_with fail
    go_ret2
    exact ⟨rfl, rfl⟩
  · have h2 : 5 < kd := by omega
    clear h
    go_enter Try.func15, Try.ntmps15
    go_wp2_with fail
    go_ret2
    exact ⟨rfl, rfl⟩

set_option maxHeartbeats 1000000 in
set_option maxRecDepth 100000 in
theorem rput_form (b k : Nat) (s : ByteArray) (w : World) (hs : s.size ≤ maxLen) (h1 : 1 ≤ k) (h5 : k ≤ 5) (hm : Hid (mayB s = false)) :
    Calls Try.prog 15 #[.pointer (some ⟨b, 0, none⟩), .int .i64 k, .string s] w fun e w' => e = .returned (.tuple #[.int .u16 0, .int .i64 2]) ∧ w = w' := by
  have d1 : decide ((k : Int) < 1) = false := by simp; omega
  have d2 : decide (5 < (k : Int)) = false := by simp; omega
  go_enter Try.func15, Try.ntmps15
  go_wp2_with (go_at_call 27; refine (rmay_any _ _ hs).mono ?_; rintro e w' ⟨rfl, rfl⟩; rw [hm.out])
  go_ret2
  exact ⟨rfl, rfl⟩

set_option maxHeartbeats 1000000 in
set_option maxRecDepth 100000 in
theorem rput_found (b k n cap : Nat) (a : Option Addr) (s : ByteArray) (l : List ByteArray) (w : World) (hs : s.size ≤ maxLen) (h1 : 1 ≤ k) (h5 : k ≤ 5) (hm : Hid (mayB s = true)) (hl : Hid (l.length = n)) (hn : n ≤ 4000)
    (c1 : w.cell? ⟨b, k, none⟩ = some (.slice a n cap)) (hr : Hid (RowOf w a (l.map .string))) (hin : Hid (s ∈ l)) :
    Calls Try.prog 15 #[.pointer (some ⟨b, 0, none⟩), .int .i64 k, .string s] w fun e w' => e = .returned (.tuple #[.int .u16 (posA k s l), .int .i64 0]) ∧ w = w' := by
  have d1 : decide ((k : Int) < 1) = false := by simp; omega
  have d2 : decide (5 < (k : Int)) = false := by simp; omega
  have hmem : memB s l = true := by simp [memB, hin.out]
  go_enter Try.func15, Try.ntmps15
  go_wp2_with (first
    | (go_at_call 27; refine (rmay_any _ _ hs).mono ?_; rintro e w' ⟨rfl, rfl⟩; rw [hm.out])
    | (go_at_call 13; refine (rfind_in b k n cap a s l _ h1 h5 hl hn c1 hr.out).mono ?_; rintro e w' ⟨rfl, rfl⟩))
  go_ret2
  exact ⟨rfl, rfl⟩

set_option maxHeartbeats 1000000 in
set_option maxRecDepth 100000 in
theorem rput_full (b k n cap : Nat) (a : Option Addr) (s : ByteArray) (l : List ByteArray) (w : World) (hs : s.size ≤ maxLen) (h1 : 1 ≤ k) (h5 : k ≤ 5) (hm : Hid (mayB s = true)) (hl : Hid (l.length = n)) (hn : n ≤ 4000) (hn2 : 4000 ≤ n)
    (c1 : w.cell? ⟨b, k, none⟩ = some (.slice a n cap)) (hr : Hid (RowOf w a (l.map .string))) (hin : Hid (s ∉ l)) :
    Calls Try.prog 15 #[.pointer (some ⟨b, 0, none⟩), .int .i64 k, .string s] w fun e w' => e = .returned (.tuple #[.int .u16 0, .int .i64 3]) ∧ w = w' := by
  have d1 : decide ((k : Int) < 1) = false := by simp; omega
  have d2 : decide (5 < (k : Int)) = false := by simp; omega
  have hmem : memB s l = false := by simp [memB, hin.out]
  go_enter Try.func15, Try.ntmps15
  go_wp2_with (first
    | (go_at_call 27; refine (rmay_any _ _ hs).mono ?_; rintro e w' ⟨rfl, rfl⟩; rw [hm.out])
    | (go_at_call 13; refine (rfind_in b k n cap a s l _ h1 h5 hl hn c1 hr.out).mono ?_; rintro e w' ⟨rfl, rfl⟩))
  go_ret2
  exact ⟨rfl, rfl⟩

def RTabTurned (S : Nat → Prop) (b : Nat) (L' : Nat → List ByteArray) (w w' : World) : Prop := RTab w' b L' (Since S w w') ∧ Chg S w w'
theorem RTabTurned.same {S : Nat → Prop} {b : Nat} {L : Nat → List ByteArray} {w : World} (h : RTab w b L S) : RTabTurned S b L w w :=
  ⟨h.mono (fun _ hj => .inl hj) (by rintro j (hj | hj); exact h.lt j hj; omega), Chg.refl _ _⟩

theorem RTabG.put {w w' : World} {b : Nat} {L : Nat → List ByteArray} {S : Nat → Prop} {a : Nat → Option Addr} {cap : Nat → Nat} (h : RTabG w b L S a cap) {k : Nat} (_hk : k < 6) (s : ByteArray)
    (p : RPutPost w w' b k ((L k).length + 1) ((L k).map .string ++ [.string s])) : RTab w' b (upd L k (L k ++ [s])) (Since S w w') := by
  obtain ⟨a', c', e1, e2, e3, e4⟩ := p.rows
  have hbl : b < w.heap.size := h.lt b h.sb
  refine ⟨fun j => if j = k then a' else a j, fun j => if j = k then c' else cap j, .inl h.sb, ?_, ?_, fun j => p.frozen j (h.fr j), ?_, ?_, ?_⟩
  · rintro j (hj | hj)
    · exact Nat.lt_of_lt_of_le (h.lt j hj) p.chg.size
    · exact hj.2
  · intro j hj
    by_cases e : j = k
    · subst e; simp only [if_true, upd_same]; simpa using e1
    · simp only [if_neg e, upd_other _ _ e]; exact p.cells _ _ e (h.c1 j hj)
  · intro j hj
    by_cases e : j = k
    · subst e; simp only [if_true, upd_same]; simpa using e2
    · simp only [if_neg e, upd_other _ _ e]
      exact (h.row j hj).kept p.chg (fun ad he => (h.rowS j hj ad he).2)
  · intro j hj
    by_cases e : j = k
    · subst e; simpa using e3
    · simp only [if_neg e]; exact h.nil j hj
  · intro j hj ad
    by_cases e : j = k
    · subst e
      simp only [if_true]
      intro he
      have := e4 ad he
      exact ⟨.inr this, by omega⟩
    · simp only [if_neg e]; intro he; exact ⟨.inl (h.rowS j hj ad he).1, (h.rowS j hj ad he).2⟩

theorem rput_any (b : Nat) (kd : Int) (s : ByteArray) (L : Nat → List ByteArray) (S : Nat → Prop) (w : World) (hs : s.size ≤ maxLen) (hT : RTab w b L S) (hf : ∀ k, (L k).length ≤ 4000) :
    Calls Try.prog 15 #[.pointer (some ⟨b, 0, none⟩), .int .i64 kd, .string s] w fun e w' =>
      e = .returned (.tuple #[.int .u16 (putA L kd s), .int .i64 (putE L kd s)]) ∧ RTabTurned S b (putL L kd s) w w' := by
  by_cases hk : kd < 1 ∨ 5 < kd
  · have e1 : putE L kd s = 1 := by simp [putE, hk]
    have e2 : putA L kd s = 0 := by simp [putA, e1]
    have e3 : putL L kd s = L := by unfold putL; rw [if_neg (by omega)]
    rw [e1, e2, e3]
    refine (rput_kind b kd s w hk).mono ?_
    rintro e w' ⟨rfl, rfl⟩
    exact ⟨rfl, .same hT⟩
  · obtain ⟨k, rfl⟩ := Int.eq_ofNat_of_zero_le (show 0 ≤ kd by omega)
    have h1 : 1 ≤ k := by omega
    have h5 : k ≤ 5 := by omega
    by_cases hm : mayB s = true
    · obtain ⟨a, cap, h⟩ := hT
      have hT : RTab w b L S := ⟨a, cap, h⟩
      by_cases hin : s ∈ L k
      · have e1 : putE L k s = 0 := by simp [putE, hk, hm, hin]
        have e2 : putA L k s = posA k s (L k) := by simp [putA, e1, posA, hin]
        have e3 : putL L k s = L := by unfold putL; rw [if_neg (by simp [hin])]
        rw [e1, e2, e3]
        refine (rput_found b k _ _ _ s (L k) w hs h1 h5 hm rfl (hf k) (h.c1 k (by omega)) (h.row k (by omega)) hin).mono ?_
        rintro e w' ⟨rfl, rfl⟩
        exact ⟨rfl, .same hT⟩
      · by_cases hl : (L k).length < 4000
        · have e1 : putE L k s = 0 := by simp [putE, hk, hm, hin, hl]
          have e2 : putA L k s = 8192 * k + ((L k).length + 1) := by simp [putA, e1, posOf_none hin]
          have e3 : putL L k s = upd L k (L k ++ [s]) := by unfold putL; rw [if_pos ⟨by omega, by omega, hm, by simpa using hin, by simpa using hl⟩]; simp
          rw [e1, e2, e3]
          refine (rput_new b k _ _ _ s (L k) w hs h1 h5 hm rfl hl (h.c1 k (by omega)) (h.fr k) (h.row k (by omega)) (h.nil k (by omega)) hin).mono ?_
          rintro e w' ⟨rfl, p⟩
          exact ⟨rfl, h.put (k := k) (by omega) s p, p.chg.mono (fun j _ e => by rw [e]; exact h.sb)⟩
        · have e1 : putE L k s = 3 := by simp [putE, hk, hm, hin, hl]
          have e2 : putA L k s = 0 := by simp [putA, e1]
          have e3 : putL L k s = L := by unfold putL; rw [if_neg (by simp; omega)]
          rw [e1, e2, e3]
          refine (rput_full b k _ _ _ s (L k) w hs h1 h5 hm rfl (hf k) (by omega) (h.c1 k (by omega)) (h.row k (by omega)) hin).mono ?_
          rintro e w' ⟨rfl, rfl⟩
          exact ⟨rfl, .same hT⟩
    · have hm : mayB s = false := by simpa using hm
      have e1 : putE L k s = 2 := by simp [putE, hk, hm]
      have e2 : putA L k s = 0 := by simp [putA, e1]
      have e3 : putL L k s = L := by unfold putL; rw [if_neg (by simp [hm])]
      rw [e1, e2, e3]
      refine (rput_form b k s w hs h1 h5 hm).mono ?_
      rintro e w' ⟨rfl, rfl⟩
      exact ⟨rfl, .same hT⟩

end Go.Proofs.Ytdlafipcbmbkjaa
