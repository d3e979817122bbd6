/- The walk of (*atom.lists).Put where the name is new. -/
import Derived.Test.YtpiofcjkekpboaaAtA
import Derived.Test.YtpiofcjkekpboaaBase
import Derived.Deep.RegionLaw
import Derived.Maps.OwnOps
namespace Go.Proofs.Ytpiofcjkekpboaa
set_option linter.unusedSimpArgs false
set_option linter.unusedVariables false
open Go.RowKit Go.Maps
open Go.WideMaps Go.WideElems Go.MapKept Go.ChangeMaps

theorem strKey : Keyed Try.prog 9 := string_keyed Try.underlying9
theorem zeroAtom (w : World) : (zeroValue 32).run Try.prog w = .ok (.int .u16 0) w := by kernel_rfl
theorem infoStr : (Try.prog.info? 9).map (fun i => (i.zero, i.size, i.bytes)) = some (some (.string ByteArray.empty), 1, 16) := by kernel_rfl

/-- What Put of a new name leaves. -/
structure PutPost (w w' : World) (b k n mb : Nat) (row : Option Nat) (xs : List Value) (D : DataW Unit) : Prop where
  ex : ∃ g cap, w'.cell? ⟨b, k, none⟩ = some (.slice (some ⟨g, 0, none⟩) (n + 1) cap) ∧
    w'.ownsRow 0 9 1 (.slice (some ⟨g, 0, none⟩) (n + 1) cap) (n + 1) xs ∧ (row = some g ∨ w.heap.size ≤ g) ∧ g < w'.heap.size
  map : w'.ownsMap Try.prog 9 (plainElem Try.prog 32) mb (n + 1) D
  chg : Chg (fun j => j = b ∨ j = mb ∨ row = some j) w w'
  cells : ∀ o v, o ≠ k → w.cell? ⟨b, o, none⟩ = some v → w'.cell? ⟨b, o, none⟩ = some v
  frozen : ∀ o, w.frozen? ⟨b, o, none⟩ = false → w'.frozen? ⟨b, o, none⟩ = false

/-- What Put of a new name leaves, whether a map was there or not. -/
structure PutPost2 (w w' : World) (b k n : Nat) (mo row : Option Nat) (xs : List Value) (D : DataW Unit) : Prop where
  rows : ∃ g cap, w'.cell? ⟨b, k, none⟩ = some (.slice (some ⟨g, 0, none⟩) (n + 1) cap) ∧
    w'.ownsRow 0 9 1 (.slice (some ⟨g, 0, none⟩) (n + 1) cap) (n + 1) xs ∧ (row = some g ∨ w.heap.size ≤ g) ∧ g < w'.heap.size
  maps : ∃ mb, w'.cell? ⟨b, 6 + k, none⟩ = some (.map (some mb)) ∧ w'.ownsMap Try.prog 9 (plainElem Try.prog 32) mb (n + 1) D ∧ (mo = some mb ∨ w.heap.size ≤ mb)
  chg : Chg (fun j => j = b ∨ mo = some j ∨ row = some j) w w'
  cells : ∀ o v, o ≠ k → o ≠ 6 + k → w.cell? ⟨b, o, none⟩ = some v → w'.cell? ⟨b, o, none⟩ = some v
  frozen : ∀ o, w.frozen? ⟨b, o, none⟩ = false → w'.frozen? ⟨b, o, none⟩ = false

theorem PutPost.behind {w wa w' : World} {b k n mb : Nat} {mo row : Option Nat} {xs : List Value} {D : DataW Unit} (h : PutPost wa w' b k n mb row xs D)
    (ha : Chg (fun j => j = b) w wa) (hm : mo = some mb ∨ w.heap.size ≤ mb) (hc : wa.cell? ⟨b, 6 + k, none⟩ = some (.map (some mb)))
    (hcells : ∀ o v, o ≠ 6 + k → w.cell? ⟨b, o, none⟩ = some v → wa.cell? ⟨b, o, none⟩ = some v) (hfr : ∀ o, w.frozen? ⟨b, o, none⟩ = false → wa.frozen? ⟨b, o, none⟩ = false) :
    PutPost2 w w' b k n mo row xs D := by
  obtain ⟨g, cap, e1, e2, e3, e4⟩ := h.ex
  refine ⟨⟨g, cap, e1, e2, ?_, e4⟩, ⟨mb, h.cells _ _ (by omega) hc, h.map, hm⟩, ?_, fun o v h1 h2 hv => h.cells o v h1 (hcells o v h2 hv), fun o hv => h.frozen o (hfr o hv)⟩
  · rcases e3 with e3 | e3
    · exact .inl e3
    · exact .inr (by have := ha.size; omega)
  · refine (ha.mono (S' := fun j => j = b ∨ mo = some j ∨ row = some j) (fun k _ h => .inl h)).trans h.chg ?_
    rintro j hj (h1 | h1 | h1)
    · exact .inl h1
    · rcases hm with hm | hm
      · exact .inr (.inl (h1 ▸ hm))
      · omega
    · exact .inr (.inr h1)

theorem putPost_of {w X w1 w2 : World} {b k n mb g cap : Nat} {row : Option Nat} {xs : List Value} {D D0 : DataW Unit} {u0 : Value}
    (hX : Chg (fun _ => False) w X) (hgrow : X.grownBy w1 row) (hown : w1.ownsRow 0 9 1 (.slice (some ⟨g, 0, none⟩) (n + 1) cap) (n + 1) xs)
    (hat : row = some g ∨ g = X.heap.size) (hlt : g < w1.heap.size) (hc : w.cell? ⟨b, k, none⟩ = some u0) (hne : row ≠ some b) (hmb : mb ≠ b) (hmr : row ≠ some mb)
    (hmap0 : w.ownsMap Try.prog 9 (plainElem Try.prog 32) mb n D0)
    (hgrow2 : (w1.setCell ⟨b, k, none⟩ (.slice (some ⟨g, 0, none⟩) (n + 1) cap)).grownBy w2 (some mb)) (hmap : w2.ownsMap Try.prog 9 (plainElem Try.prog 32) mb (n + 1) D) :
    PutPost w w2 b k n mb row xs D := by
  have hb := World.block_lt_of_cell? w _ hc
  have hXb : ∀ j, j < w.heap.size → X.heap[j]? = w.heap[j]? := fun j hj => hX.block j hj (fun x => x)
  have h1b : ∀ j, j < w.heap.size → row ≠ some j → w1.heap[j]? = w.heap[j]? := fun j hj hr => (hgrow.block j (Nat.lt_of_lt_of_le hj hX.size) (fun e => hr e.symm)).trans (hXb j hj)
  have h2b : ∀ j, j ≠ mb → j < w1.heap.size → w2.heap[j]? = (w1.setCell ⟨b, k, none⟩ (.slice (some ⟨g, 0, none⟩) (n + 1) cap)).heap[j]? := fun j hj hj1 => hgrow2.block j (by simpa [World.setCell] using hj1) (fun e => hj (by injection e))
  have hs1 : w.heap.size ≤ w1.heap.size := Nat.le_trans hX.size hgrow.size
  have hbb := h2b b (Ne.symm hmb) (by simp at hb; omega)
  have hgb : g ≠ b := by
    rcases hat with h | h
    · exact fun e => hne (e ▸ h)
    · have := hX.size; simp at hb; omega
  have hgm : g ≠ mb := by
    rcases hat with h | h
    · exact fun e => hmr (e ▸ h)
    · have := hX.size; have := hmap0.lt; omega
  have hcw1 : w1.cell? ⟨b, k, none⟩ = some u0 := by rw [World.cell?_of_block (w := w) (h1b b hb hne)]; exact hc
  refine ⟨⟨g, cap, ?_, ?_, ?_, ?_⟩, hmap, ?_, ?_, ?_⟩
  · rw [World.cell?_of_block (w := w1.setCell ⟨b, k, none⟩ (.slice (some ⟨g, 0, none⟩) (n + 1) cap)) hbb]
    exact World.cell?_setCell_same _ _ _ hcw1
  · exact (ownsRow_setCell_other hown (a := ⟨b, k, none⟩) (by simpa [Value.ownBlock] using hgb) _).kept hgrow2 (Or.inr (by simpa [Value.ownBlock] using hgm))
  · rcases hat with h | h
    · exact .inl h
    · exact .inr (by have := hX.size; omega)
  · have := hgrow2.size; simp [World.setCell] at this; omega
  · refine ⟨?_, ?_, ?_, ?_, ?_⟩
    · rw [hgrow2.os]; exact hgrow.os.trans hX.os
    · rw [hgrow2.tape]; exact hgrow.tape.trans hX.tape
    · rw [hgrow2.output]; exact hgrow.output.trans hX.output
    · have := hgrow2.size; simp [World.setCell] at this; omega
    · intro j hj hn
      simp only [not_or] at hn
      rw [h2b j hn.2.1 (by omega), Below.heap_setCell _ _ _ _ (by exact hn.1)]
      exact h1b j hj hn.2.2
  · intro o v ho hv
    rw [World.cell?_of_block (w := w1.setCell ⟨b, k, none⟩ (.slice (some ⟨g, 0, none⟩) (n + 1) cap)) hbb, World.cell?_setCell_other _ _ _ _ (by intro e; injection e; omega), World.cell?_of_block (w := w) (h1b b hb hne)]
    exact hv
  · intro o hv
    rw [World.frozen?_of_block (w := w1.setCell ⟨b, k, none⟩ (.slice (some ⟨g, 0, none⟩) (n + 1) cap)) hbb, World.frozen?_setCell, World.frozen?_of_block (w := w) (h1b b hb hne)]
    exact hv

set_option maxHeartbeats 1000000 in
set_option maxRecDepth 100000 in
theorem put_core (b k n cap mb : Nat) (a : Option Addr) (s : ByteArray) (xs : List Value) (D : DataW Unit) (w : World) (hs : s.size ≤ maxLen)
    (hk : 1 ≤ k) (hk5 : k ≤ 5) (hmay : Hid (mayB s = true))
    (c1 : w.cell? ⟨b, k, none⟩ = some (.slice a n cap)) (f1 : w.frozen? ⟨b, k, none⟩ = false)
    (c2 : w.cell? ⟨b, 6 + k, none⟩ = some (.map (some mb)))
    (hrow : w.ownsRow 0 9 1 (.slice a n cap) n xs) (hne : (Value.slice a n cap).ownBlock ≠ some b)
    (hmap : w.ownsMap Try.prog 9 (plainElem Try.prog 32) mb n D)
    (hno : Maps.has D (.string s.data.toList) = false) (hn : n < 4000) (hmb : mb ≠ b) (hmr : (Value.slice a n cap).ownBlock ≠ some mb) :
    Calls Try.prog 9 #[.pointer (some ⟨b, 0, none⟩), .int .i64 k, .string s] w fun e w' =>
      e = .returned (.tuple #[.int .u16 (8192 * k + (n + 1)), .int .i64 0]) ∧
      PutPost2 w w' b k n (some mb) (Value.slice a n cap).ownBlock (xs ++ [.string s]) (D.put (.string s.data.toList) (.lit (.int .u16 (8192 * k + (n + 1))))) := by
  have h1 : ((1 : Int) ≤ k) := by omega
  have h6 : ((k : Int) < 6) := by omega
  have h0 : ((0 : Int) ≤ k) := by omega
  have h6n : k < 6 := by omega
  have hmn : ∀ (w : World) (r : Option Nat), (binOp .eql 38 (.map r) (.map none)).run Try.prog w = .ok (.bool r.isNone) w := fun w r => run_eql_map_nil w _ _ _ r Try.underlying38
  obtain ⟨i0, hi, hz0, hz1, hz2⟩ := info_parts infoStr
  have qa := fun o => cell_alloc c1 o
  go_enter Try.func9, Try.ntmps9
  go_wp2_with (first
    | (go_at_call 46; refine (named_yes _ _ (by omega) (by omega)).mono ?_; rintro e w' ⟨rfl, rfl⟩)
    | (go_at_call 45; refine (may_true _ _ hs hmay.out).mono ?_; rintro e w' ⟨rfl, rfl⟩)
    | (at_lookup; refine wpList_lookup_own_ok_int _ rfl _ _ 38 rfl 9 32 .u16 strKey Try.underlying38 Try.underlying32 (zeroAtom _) mb n D rfl hmap _ _ rfl (keyOf_string_mk Try.underlying9 hs) ?_; intro c hat hwc))
  go_region_law (refine step_append_lies _ rfl (.tmp 58) (.tmp 60) 36 rfl 0 9 i0 (.string ByteArray.empty) 1 16 Try.underlying36 hi hz0 hz1 hz2 rfl (by decide) (.slice a n cap) n xs (by simp [Act.eval]) (hrow.alloc _) ⟨w.heap.size, 0, none⟩ 1 1 [.string s] (by simp [Act.eval]) rfl (cell_one_new _ _ _) (by simp [Value.oneCell']) (by decide) (by unfold maxLen; omega) (by omega) (Nat.zero_le _) (w.heap.size + 1) (by simp) ?_; intro g cap' w1 hown hgrow hat hlt; have q1 := grow_cell hgrow (cell_alloc c1 _) hne; have q2 := grow_frozen hgrow (cell_alloc c1 _) (frozen_alloc c1 f1 _) hne; have q3 := grow_cell hgrow (cell_alloc c2 _) hne)
  all_goals
    have hmap2 := ((hmap.alloc (.cells #[.string s] 9)).drew.kept hgrow (fun e => hmr e.symm)).setCell (a := ⟨b, k, none⟩) hmb (.slice (some ⟨g, 0, none⟩) (n + 1) cap')
    go_wp2_with (at_mapUpdate; refine wpList_mapUpdate_own _ rfl _ _ _ 38 rfl 9 32 strKey Try.underlying38 _ mb n D rfl hmap2 (by unfold maxLen; omega) _ _ _ rfl rfl (keyOf_string_mk Try.underlying9 hs) _ [] (plainElem_int Try.underlying32 ?_) ?_; rotate_left; intro w2 hown2 hgrow2)
    · go_ret2
      exact ⟨rfl, (putPost_of (((Chg.refl _ w).alloc (.cells #[.string s] 9)).drew) hgrow hown (by simpa using hat) hlt c1 hne hmb hmr hmap hgrow2 hown2).behind (Chg.refl _ _) (.inl rfl) c2 (fun _ _ _ h => h) (fun _ h => h)⟩
    · exact WalkArith.wf_u16 (by omega)

set_option maxHeartbeats 1000000 in
set_option maxRecDepth 100000 in
theorem put_core_nil (b k : Nat) (s : ByteArray) (w : World) (hs : s.size ≤ maxLen)
    (hk : 1 ≤ k) (hk5 : k ≤ 5) (hmay : Hid (mayB s = true))
    (c1 : w.cell? ⟨b, k, none⟩ = some (.slice none 0 0)) (f1 : w.frozen? ⟨b, k, none⟩ = false)
    (c2 : w.cell? ⟨b, 6 + k, none⟩ = some (.map none)) (f2 : w.frozen? ⟨b, 6 + k, none⟩ = false) :
    Calls Try.prog 9 #[.pointer (some ⟨b, 0, none⟩), .int .i64 k, .string s] w fun e w' =>
      e = .returned (.tuple #[.int .u16 (8192 * k + (0 + 1)), .int .i64 0]) ∧
      PutPost2 w w' b k 0 none none [.string s] (DataW.put (.map []) (.string s.data.toList) (.lit (.int .u16 (8192 * k + (0 + 1))))) := by
  have h1 : ((1 : Int) ≤ k) := by omega
  have h6 : ((k : Int) < 6) := by omega
  have h0 : ((0 : Int) ≤ k) := by omega
  have h6n : k < 6 := by omega
  have hmn : ∀ (w : World) (r : Option Nat), (binOp .eql 38 (.map r) (.map none)).run Try.prog w = .ok (.bool r.isNone) w := fun w r => run_eql_map_nil w _ _ _ r Try.underlying38
  obtain ⟨i0, hi, hz0, hz1, hz2⟩ := info_parts infoStr
  have hb : b < w.heap.size := World.block_lt_of_cell? w _ c1
  obtain ⟨wa, hwa⟩ : ∃ wa, wa = (w.setCell ⟨b, 6 + k, none⟩ (.map (some w.heap.size))).alloc (.map #[] 0) := ⟨_, rfl⟩
  have hla : wa.heap.size = w.heap.size + 1 := by rw [hwa]; simp [World.setCell]
  have c1a : wa.cell? ⟨b, k, none⟩ = some (.slice none 0 0) := by
    rw [hwa]; exact cell_alloc (by rw [World.cell?_setCell_other _ _ _ _ (by intro e; injection e; omega)]; exact c1) _
  have c2a : wa.cell? ⟨b, 6 + k, none⟩ = some (.map (some w.heap.size)) := by
    rw [hwa]; exact cell_alloc (World.cell?_setCell_same _ _ _ c2) _
  have hmapa : wa.ownsMap Try.prog 9 (plainElem Try.prog 32) w.heap.size 0 (DataW.map [] : DataW Unit) := by
    have := World.ownsMap_made (H := Unit) (w.setCell ⟨b, 6 + k, none⟩ (.map (some w.heap.size))) Try.prog 9 (plainElem Try.prog 32)
    rw [hwa]; simpa using this
  have ha : Chg (fun j => j = b) w wa := by rw [hwa]; exact ((Chg.refl (fun j => j = b) w).setCell _ _ (fun _ => rfl)).alloc _
  have hcA : Hid (∀ o v, o ≠ 6 + k → w.cell? ⟨b, o, none⟩ = some v → wa.cell? ⟨b, o, none⟩ = some v) := by
    intro o v ho hv
    rw [hwa]; exact cell_alloc (by rw [World.cell?_setCell_other _ _ _ _ (by intro e; injection e; omega)]; exact hv) _
  have hfA : Hid (∀ o, w.frozen? ⟨b, o, none⟩ = false → wa.frozen? ⟨b, o, none⟩ = false) := by
    intro o hv
    rw [hwa, World.frozen?_of_block (w := w.setCell ⟨b, 6 + k, none⟩ (.map (some w.heap.size))) (Below.heap_alloc _ _ b (by simpa [World.setCell] using hb)), World.frozen?_setCell]; exact hv
  have f1a : wa.frozen? ⟨b, k, none⟩ = false := hfA.out k f1
  have WA := Lib.hid hwa
  have HA := Lib.hid ha
  clear hwa ha
  have qa := fun o => cell_alloc c1a o
  have hrow := World.ownsRow_nil wa 0 9 1
  have hmm := @run_makeMap Try.prog
  have hlk : ∀ w : World, (Instr.lookup 38 (.map none) (.string s) true).run Try.prog w = .ok (.tuple #[.int .u16 0, .bool false]) w := fun w => Maps.look_nil true strKey Try.underlying38 (zeroAtom w) (keyOf_string_mk Try.underlying9 hs)
  go_enter Try.func9, Try.ntmps9
  go_wp2_with (first
    | (go_at_call 46; refine (named_yes _ _ (by omega) (by omega)).mono ?_; rintro e w' ⟨rfl, rfl⟩)
    | (go_at_call 45; refine (may_true _ _ hs hmay.out).mono ?_; rintro e w' ⟨rfl, rfl⟩))
  rw [← WA.out]
  go_region_law (refine step_append_lies _ rfl (.tmp 58) (.tmp 60) 36 rfl 0 9 i0 (.string ByteArray.empty) 1 16 Try.underlying36 hi hz0 hz1 hz2 rfl (by decide) (.slice none 0 0) 0 [] (by simp [Act.eval]) (hrow.alloc _) ⟨wa.heap.size, 0, none⟩ 1 1 [.string s] (by simp [Act.eval]) rfl (cell_one_new _ _ _) (by simp [Value.oneCell']) (by decide) (by unfold maxLen; omega) (by omega) (Nat.zero_le _) (wa.heap.size + 1) (by simp) ?_; intro g cap' w1 hown hgrow hat hlt; have q1 := grow_cell hgrow (cell_alloc c1a _) (by simp [Value.ownBlock]); have q2 := grow_frozen hgrow (cell_alloc c1a _) (frozen_alloc c1a f1a _) (by simp [Value.ownBlock]); have q3 := grow_cell hgrow (cell_alloc c2a _) (by simp [Value.ownBlock]))
  all_goals
    have hmap2 := ((hmapa.alloc (.cells #[.string s] 9)).drew.kept hgrow (by simp [Value.ownBlock])).setCell (a := ⟨b, k, none⟩) (by show w.heap.size ≠ b; omega) (.slice (some ⟨g, 0, none⟩) (0 + 1) cap')
    go_wp2_with (at_mapUpdate; refine wpList_mapUpdate_own _ rfl _ _ _ 38 rfl 9 32 strKey Try.underlying38 _ w.heap.size 0 _ rfl hmap2 (by unfold maxLen; omega) _ _ _ rfl rfl (keyOf_string_mk Try.underlying9 hs) _ [] (plainElem_int Try.underlying32 ?_) ?_; rotate_left; intro w2 hown2 hgrow2)
    · go_ret2
      exact ⟨rfl, (putPost_of (((Chg.refl _ wa).alloc (.cells #[.string s] 9)).drew) hgrow hown (by simpa using hat) hlt c1a (by simp [Value.ownBlock]) (by omega) (by simp [Value.ownBlock]) hmapa hgrow2 hown2).behind HA.out (.inr (Nat.le_refl _)) c2a hcA.out hfA.out⟩
    · exact WalkArith.wf_u16 (by omega)

end Go.Proofs.Ytpiofcjkekpboaa
