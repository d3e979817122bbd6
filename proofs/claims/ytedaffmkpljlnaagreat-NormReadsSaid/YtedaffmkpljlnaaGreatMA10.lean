/- Texts of one proof, laid together: AtB AtC AtD AtE AtF AtG AtR AtS. -/
import Derived.Test.YtedaffmkpljlnaaGreatMA6
import Derived.Test.YtedaffmkpljlnaaGreatMA4
import Derived.Deep.RegionLaw
import Derived.Maps.OwnOps
set_option maxRecDepth 100000
set_option maxHeartbeats 16000000

set_option linter.unusedSimpArgs false
set_option linter.unusedVariables false
/- The walk of (*atom.lists).Put where the name is new. -/
namespace Go.Proofs.YtedaffmkpljlnaaGreat
open Go.RowKit Go.Maps
open Go.WideMaps Go.WideElems Go.MapKept Go.ChangeMaps

theorem strKey : Keyed Tryz.prog 9 := string_keyed Tryz.underlying9
theorem zeroAtom (w : World) : (zeroValue 57).run Tryz.prog w = .ok (.int .u16 0) w := by kernel_rfl
theorem infoStr : (Tryz.prog.info? 9).map (fun i => (i.zero, i.size, i.bytes)) = some (some (.string ByteArray.empty), 1, 16) := by kernel_rfl

structure PutPost (w w' : World) (b k n mb : Nat) (row : Option Nat) (xs : List Value) (D : DataW Unit) : Prop where
  ex : ∃ g cap, w'.cell? ⟨b, k, none⟩ = some (.slice (some ⟨g, 0, none⟩) (n + 1) cap) ∧
    w'.ownsRow 0 9 1 (.slice (some ⟨g, 0, none⟩) (n + 1) cap) (n + 1) xs ∧ (row = some g ∨ w.heap.size ≤ g) ∧ g < w'.heap.size
  map : w'.ownsMap Tryz.prog 9 (plainElem Tryz.prog 57) mb (n + 1) D
  chg : Chg (fun j => j = b ∨ j = mb ∨ row = some j) w w'
  cells : ∀ o v, o ≠ k → w.cell? ⟨b, o, none⟩ = some v → w'.cell? ⟨b, o, none⟩ = some v
  frozen : ∀ o, w.frozen? ⟨b, o, none⟩ = false → w'.frozen? ⟨b, o, none⟩ = false

structure PutPost2 (w w' : World) (b k n : Nat) (mo row : Option Nat) (xs : List Value) (D : DataW Unit) : Prop where
  rows : ∃ g cap, w'.cell? ⟨b, k, none⟩ = some (.slice (some ⟨g, 0, none⟩) (n + 1) cap) ∧
    w'.ownsRow 0 9 1 (.slice (some ⟨g, 0, none⟩) (n + 1) cap) (n + 1) xs ∧ (row = some g ∨ w.heap.size ≤ g) ∧ g < w'.heap.size
  maps : ∃ mb, w'.cell? ⟨b, 6 + k, none⟩ = some (.map (some mb)) ∧ w'.ownsMap Tryz.prog 9 (plainElem Tryz.prog 57) mb (n + 1) D ∧ (mo = some mb ∨ w.heap.size ≤ mb)
  chg : Chg (fun j => j = b ∨ mo = some j ∨ row = some j) w w'
  cells : ∀ o v, o ≠ k → o ≠ 6 + k → w.cell? ⟨b, o, none⟩ = some v → w'.cell? ⟨b, o, none⟩ = some v
  frozen : ∀ o, w.frozen? ⟨b, o, none⟩ = false → w'.frozen? ⟨b, o, none⟩ = false

theorem PutPost.behind {w wa w' : World} {b k n mb : Nat} {mo row : Option Nat} {xs : List Value} {D : DataW Unit} (h : PutPost wa w' b k n mb row xs D)
  (ha : Chg (fun j => j = b) w wa) (hm : mo = some mb ∨ w.heap.size ≤ mb) (hc : wa.cell? ⟨b, 6 + k, none⟩ = some (.map (some mb)))
  (hcells : ∀ o v, o ≠ 6 + k → w.cell? ⟨b, o, none⟩ = some v → wa.cell? ⟨b, o, none⟩ = some v) (hfr : ∀ o, w.frozen? ⟨b, o, none⟩ = false → wa.frozen? ⟨b, o, none⟩ = false) :
  PutPost2 w w' b k n mo row xs D := by
 obtain ⟨g, cap, e1, e2, e3, e4⟩ := h.ex
 refine ⟨⟨g, cap, e1, e2, ?_, e4⟩, ⟨mb, h.cells _ _ (by omega) hc, h.map, hm⟩, ?_, fun o v h1 h2 hv => h.cells o v h1 (hcells o v h2 hv), fun o hv => h.frozen o (hfr o hv)⟩
 ·rcases e3 with e3 | e3
  ·exact .inl e3
  ·exact .inr (by have := ha.size; omega)
 ·refine (ha.mono (S' := fun j => j = b ∨ mo = some j ∨ row = some j) (fun k _ h => .inl h)).trans h.chg ?_
  rintro j hj (h1 | h1 | h1)
  ·exact .inl h1
  ·rcases hm with hm | hm
   ·exact .inr (.inl (h1 ▸ hm))
   ·omega
  ·exact .inr (.inr h1)

theorem putPost_of {w X w1 w2 : World} {b k n mb g cap : Nat} {row : Option Nat} {xs : List Value} {D D0 : DataW Unit} {u0 : Value}
  (hX : Chg (fun _ => False) w X) (hgrow : X.grownBy w1 row) (hown : w1.ownsRow 0 9 1 (.slice (some ⟨g, 0, none⟩) (n + 1) cap) (n + 1) xs)
  (hat : row = some g ∨ g = X.heap.size) (hlt : g < w1.heap.size) (hc : w.cell? ⟨b, k, none⟩ = some u0) (hne : row ≠ some b) (hmb : mb ≠ b) (hmr : row ≠ some mb)
  (hmap0 : w.ownsMap Tryz.prog 9 (plainElem Tryz.prog 57) mb n D0)
  (hgrow2 : (w1.setCell ⟨b, k, none⟩ (.slice (some ⟨g, 0, none⟩) (n + 1) cap)).grownBy w2 (some mb)) (hmap : w2.ownsMap Tryz.prog 9 (plainElem Tryz.prog 57) mb (n + 1) D) :
  PutPost w w2 b k n mb row xs D := by
 have hb := World.block_lt_of_cell? w _ hc
 have hXb : ∀ j, j < w.heap.size → X.heap[j]? = w.heap[j]? := fun j hj => hX.block j hj (fun x => x)
 have h1b : ∀ j, j < w.heap.size → row ≠ some j → w1.heap[j]? = w.heap[j]? := fun j hj hr => (hgrow.block j (Nat.lt_of_lt_of_le hj hX.size) (fun e => hr e.symm)).trans (hXb j hj)
 have h2b : ∀ j, j ≠ mb → j < w1.heap.size → w2.heap[j]? = (w1.setCell ⟨b, k, none⟩ (.slice (some ⟨g, 0, none⟩) (n + 1) cap)).heap[j]? := fun j hj hj1 => hgrow2.block j (by simpa [World.setCell] using hj1) (fun e => hj (by injection e))
 have hs1 : w.heap.size ≤ w1.heap.size := Nat.le_trans hX.size hgrow.size
 have hbb := h2b b (Ne.symm hmb) (by simp at hb; omega)
 have hgb : g ≠ b := by
  rcases hat with h | h
  ·exact fun e => hne (e ▸ h)
  ·have := hX.size; simp at hb; omega
 have hgm : g ≠ mb := by
  rcases hat with h | h
  ·exact fun e => hmr (e ▸ h)
  ·have := hX.size; have := hmap0.lt; omega
 have hcw1 : w1.cell? ⟨b, k, none⟩ = some u0 := by rw [World.cell?_of_block (w := w) (h1b b hb hne)]; exact hc
 refine ⟨⟨g, cap, ?_, ?_, ?_, ?_⟩, hmap, ?_, ?_, ?_⟩
 ·rw [World.cell?_of_block (w := w1.setCell ⟨b, k, none⟩ (.slice (some ⟨g, 0, none⟩) (n + 1) cap)) hbb]
  exact World.cell?_setCell_same _ _ _ hcw1
 ·exact (ownsRow_setCell_other hown (a := ⟨b, k, none⟩) (by simpa [Value.ownBlock] using hgb) _).kept hgrow2 (Or.inr (by simpa [Value.ownBlock] using hgm))
 ·rcases hat with h | h
  ·exact .inl h
  ·exact .inr (by have := hX.size; omega)
 ·have := hgrow2.size; simp [World.setCell] at this; omega
 ·refine ⟨?_, ?_, ?_, ?_, ?_⟩
  ·rw [hgrow2.os]; exact hgrow.os.trans hX.os
  ·rw [hgrow2.tape]; exact hgrow.tape.trans hX.tape
  ·rw [hgrow2.output]; exact hgrow.output.trans hX.output
  ·have := hgrow2.size; simp [World.setCell] at this; omega
  ·intro j hj hn
   simp only [not_or] at hn
   rw [h2b j hn.2.1 (by omega), Below.heap_setCell _ _ _ _ (by exact hn.1)]
   exact h1b j hj hn.2.2
 ·intro o v ho hv
  rw [World.cell?_of_block (w := w1.setCell ⟨b, k, none⟩ (.slice (some ⟨g, 0, none⟩) (n + 1) cap)) hbb, World.cell?_setCell_other _ _ _ _ (by intro e; injection e; omega), World.cell?_of_block (w := w) (h1b b hb hne)]
  exact hv
 ·intro o hv
  rw [World.frozen?_of_block (w := w1.setCell ⟨b, k, none⟩ (.slice (some ⟨g, 0, none⟩) (n + 1) cap)) hbb, World.frozen?_setCell, World.frozen?_of_block (w := w) (h1b b hb hne)]
  exact hv

theorem put_core (b k n cap mb : Nat) (a : Option Addr) (s : ByteArray) (xs : List Value) (D : DataW Unit) (w : World) (hs : s.size ≤ maxLen)
  (hk : 1 ≤ k) (hk5 : k ≤ 5) (hmay : Hid (mayB s = true))
  (c1 : w.cell? ⟨b, k, none⟩ = some (.slice a n cap)) (f1 : w.frozen? ⟨b, k, none⟩ = false)
  (c2 : w.cell? ⟨b, 6 + k, none⟩ = some (.map (some mb)))
  (hrow : w.ownsRow 0 9 1 (.slice a n cap) n xs) (hne : (Value.slice a n cap).ownBlock ≠ some b)
  (hmap : w.ownsMap Tryz.prog 9 (plainElem Tryz.prog 57) mb n D)
  (hno : Maps.has D (.string s.data.toList) = false) (hn : n < 4000) (hmb : mb ≠ b) (hmr : (Value.slice a n cap).ownBlock ≠ some mb) :
  Calls Tryz.prog 49 #[.pointer (some ⟨b, 0, none⟩), .int .i64 k, .string s] w fun e w' =>
   e = .returned (.tuple #[.int .u16 (8192 * k + (n + 1)), .int .i64 0]) ∧
   PutPost2 w w' b k n (some mb) (Value.slice a n cap).ownBlock (xs ++ [.string s]) (D.put (.string s.data.toList) (.lit (.int .u16 (8192 * k + (n + 1))))) := by
 have h1 : ((1 : Int) ≤ k) := by omega
 have h6 : ((k : Int) < 6) := by omega
 have h0 : ((0 : Int) ≤ k) := by omega
 have h6n : k < 6 := by omega
 have hmn : ∀ (w : World) (r : Option Nat), (binOp .eql 95 (.map r) (.map none)).run Tryz.prog w = .ok (.bool r.isNone) w := fun w r => run_eql_map_nil w _ _ _ r Tryz.underlying95
 obtain ⟨i0, hi, hz0, hz1, hz2⟩ := info_parts infoStr
 have qa := fun o => cell_alloc c1 o
 go_enter Tryz.func49, Tryz.ntmps49
 go_wp2_with (first
  | (go_at_call 83; refine (named_yes _ _ (by omega) (by omega)).mono ?_; rintro e w' ⟨rfl, rfl⟩)
  | (go_at_call 84; refine (may_true _ _ hs hmay.out).mono ?_; rintro e w' ⟨rfl, rfl⟩)
  | (at_lookup; refine wpList_lookup_own_ok_int _ rfl _ _ 95 rfl 9 57 .u16 strKey Tryz.underlying95 Tryz.underlying57 (zeroAtom _) mb n D rfl hmap _ _ rfl (keyOf_string_mk Tryz.underlying9 hs) ?_; intro c hat hwc))
 go_region_law (refine step_append_lies _ rfl (.tmp 58) (.tmp 60) 22 rfl 0 9 i0 (.string ByteArray.empty) 1 16 Tryz.underlying22 hi hz0 hz1 hz2 rfl (by decide) (.slice a n cap) n xs (by simp [Act.eval]) (hrow.alloc _) ⟨w.heap.size, 0, none⟩ 1 1 [.string s] (by simp [Act.eval]) rfl (cell_one_new _ _ _) (by simp [Value.oneCell']) (by decide) (by unfold maxLen; omega) (by omega) (Nat.zero_le _) (w.heap.size + 1) (by simp) ?_; intro g cap' w1 hown hgrow hat hlt; have q1 := grow_cell hgrow (cell_alloc c1 _) hne; have q2 := grow_frozen hgrow (cell_alloc c1 _) (frozen_alloc c1 f1 _) hne; have q3 := grow_cell hgrow (cell_alloc c2 _) hne)
 all_goals
  have hmap2 := ((hmap.alloc (.cells #[.string s] 9)).drew.kept hgrow (fun e => hmr e.symm)).setCell (a := ⟨b, k, none⟩) hmb (.slice (some ⟨g, 0, none⟩) (n + 1) cap')
  go_wp2_with (at_mapUpdate; refine wpList_mapUpdate_own _ rfl _ _ _ 95 rfl 9 57 strKey Tryz.underlying95 _ mb n D rfl hmap2 (by unfold maxLen; omega) _ _ _ rfl rfl (keyOf_string_mk Tryz.underlying9 hs) _ [] (plainElem_int Tryz.underlying57 ?_) ?_; rotate_left; intro w2 hown2 hgrow2)
  ·go_ret2
   exact ⟨rfl, (putPost_of (((Chg.refl _ w).alloc (.cells #[.string s] 9)).drew) hgrow hown (by simpa using hat) hlt c1 hne hmb hmr hmap hgrow2 hown2).behind (Chg.refl _ _) (.inl rfl) c2 (fun _ _ _ h => h) (fun _ h => h)⟩
  ·exact WalkArith.wf_u16 (by omega)

theorem put_core_nil (b k : Nat) (s : ByteArray) (w : World) (hs : s.size ≤ maxLen)
  (hk : 1 ≤ k) (hk5 : k ≤ 5) (hmay : Hid (mayB s = true))
  (c1 : w.cell? ⟨b, k, none⟩ = some (.slice none 0 0)) (f1 : w.frozen? ⟨b, k, none⟩ = false)
  (c2 : w.cell? ⟨b, 6 + k, none⟩ = some (.map none)) (f2 : w.frozen? ⟨b, 6 + k, none⟩ = false) :
  Calls Tryz.prog 49 #[.pointer (some ⟨b, 0, none⟩), .int .i64 k, .string s] w fun e w' =>
   e = .returned (.tuple #[.int .u16 (8192 * k + (0 + 1)), .int .i64 0]) ∧
   PutPost2 w w' b k 0 none none [.string s] (DataW.put (.map []) (.string s.data.toList) (.lit (.int .u16 (8192 * k + (0 + 1))))) := by
 have h1 : ((1 : Int) ≤ k) := by omega
 have h6 : ((k : Int) < 6) := by omega
 have h0 : ((0 : Int) ≤ k) := by omega
 have h6n : k < 6 := by omega
 have hmn : ∀ (w : World) (r : Option Nat), (binOp .eql 95 (.map r) (.map none)).run Tryz.prog w = .ok (.bool r.isNone) w := fun w r => run_eql_map_nil w _ _ _ r Tryz.underlying95
 obtain ⟨i0, hi, hz0, hz1, hz2⟩ := info_parts infoStr
 have hb : b < w.heap.size := World.block_lt_of_cell? w _ c1
 obtain ⟨wa, hwa⟩ : ∃ wa, wa = (w.setCell ⟨b, 6 + k, none⟩ (.map (some w.heap.size))).alloc (.map #[] 0) := ⟨_, rfl⟩
 have hla : wa.heap.size = w.heap.size + 1 := by rw [hwa]; simp [World.setCell]
 have c1a : wa.cell? ⟨b, k, none⟩ = some (.slice none 0 0) := by
  rw [hwa]; exact cell_alloc (by rw [World.cell?_setCell_other _ _ _ _ (by intro e; injection e; omega)]; exact c1) _
 have c2a : wa.cell? ⟨b, 6 + k, none⟩ = some (.map (some w.heap.size)) := by
  rw [hwa]; exact cell_alloc (World.cell?_setCell_same _ _ _ c2) _
 have hmapa : wa.ownsMap Tryz.prog 9 (plainElem Tryz.prog 57) w.heap.size 0 (DataW.map [] : DataW Unit) := by
  have := World.ownsMap_made (H := Unit) (w.setCell ⟨b, 6 + k, none⟩ (.map (some w.heap.size))) Tryz.prog 9 (plainElem Tryz.prog 57)
  rw [hwa]; simpa using this
 have ha : Chg (fun j => j = b) w wa := by rw [hwa]; exact ((Chg.refl (fun j => j = b) w).setCell _ _ (fun _ => rfl)).alloc _
 have hcA : Hid (∀ o v, o ≠ 6 + k → w.cell? ⟨b, o, none⟩ = some v → wa.cell? ⟨b, o, none⟩ = some v) := by
  intro o v ho hv
  rw [hwa]; exact cell_alloc (by rw [World.cell?_setCell_other _ _ _ _ (by intro e; injection e; omega)]; exact hv) _
 have hfA : Hid (∀ o, w.frozen? ⟨b, o, none⟩ = false → wa.frozen? ⟨b, o, none⟩ = false) := by
  intro o hv
  rw [hwa, World.frozen?_of_block (w := w.setCell ⟨b, 6 + k, none⟩ (.map (some w.heap.size))) (Below.heap_alloc _ _ b (by simpa [World.setCell] using hb)), World.frozen?_setCell]; exact hv
 have f1a : wa.frozen? ⟨b, k, none⟩ = false := hfA.out k f1
 have WA := Lib.hid hwa
 have HA := Lib.hid ha
 clear hwa ha
 have qa := fun o => cell_alloc c1a o
 have hrow := World.ownsRow_nil wa 0 9 1
 have hmm := @run_makeMap Tryz.prog
 have hlk : ∀ w : World, (Instr.lookup 95 (.map none) (.string s) true).run Tryz.prog w = .ok (.tuple #[.int .u16 0, .bool false]) w := fun w => Maps.look_nil true strKey Tryz.underlying95 (zeroAtom w) (keyOf_string_mk Tryz.underlying9 hs)
 go_enter Tryz.func49, Tryz.ntmps49
 go_wp2_with (first
  | (go_at_call 83; refine (named_yes _ _ (by omega) (by omega)).mono ?_; rintro e w' ⟨rfl, rfl⟩)
  | (go_at_call 84; refine (may_true _ _ hs hmay.out).mono ?_; rintro e w' ⟨rfl, rfl⟩))
 rw [← WA.out]
 go_region_law (refine step_append_lies _ rfl (.tmp 58) (.tmp 60) 22 rfl 0 9 i0 (.string ByteArray.empty) 1 16 Tryz.underlying22 hi hz0 hz1 hz2 rfl (by decide) (.slice none 0 0) 0 [] (by simp [Act.eval]) (hrow.alloc _) ⟨wa.heap.size, 0, none⟩ 1 1 [.string s] (by simp [Act.eval]) rfl (cell_one_new _ _ _) (by simp [Value.oneCell']) (by decide) (by unfold maxLen; omega) (by omega) (Nat.zero_le _) (wa.heap.size + 1) (by simp) ?_; intro g cap' w1 hown hgrow hat hlt; have q1 := grow_cell hgrow (cell_alloc c1a _) (by simp [Value.ownBlock]); have q2 := grow_frozen hgrow (cell_alloc c1a _) (frozen_alloc c1a f1a _) (by simp [Value.ownBlock]); have q3 := grow_cell hgrow (cell_alloc c2a _) (by simp [Value.ownBlock]))
 all_goals
  have hmap2 := ((hmapa.alloc (.cells #[.string s] 9)).drew.kept hgrow (by simp [Value.ownBlock])).setCell (a := ⟨b, k, none⟩) (by show w.heap.size ≠ b; omega) (.slice (some ⟨g, 0, none⟩) (0 + 1) cap')
  go_wp2_with (at_mapUpdate; refine wpList_mapUpdate_own _ rfl _ _ _ 95 rfl 9 57 strKey Tryz.underlying95 _ w.heap.size 0 _ rfl hmap2 (by unfold maxLen; omega) _ _ _ rfl rfl (keyOf_string_mk Tryz.underlying9 hs) _ [] (plainElem_int Tryz.underlying57 ?_) ?_; rotate_left; intro w2 hown2 hgrow2)
  ·go_ret2
   exact ⟨rfl, (putPost_of (((Chg.refl _ wa).alloc (.cells #[.string s] 9)).drew) hgrow hown (by simpa using hat) hlt c1a (by simp [Value.ownBlock]) (by omega) (by simp [Value.ownBlock]) hmapa hgrow2 hown2).behind HA.out (.inr (Nat.le_refl _)) c2a hcA.out hfA.out⟩
  ·exact WalkArith.wf_u16 (by omega)
def ownB (a : Option Addr) : Option Nat := a.map (·.block)
theorem ownBlock_slice (a : Option Addr) (n c : Nat) : (Value.slice a n c).ownBlock = ownB a := by cases a <;> rfl

structure TabG (w : World) (b : Nat) (L : Nat → List ByteArray) (S : Nat → Prop) (a : Nat → Option Addr) (cap : Nat → Nat) (m : Nat → Option Nat) : Prop where
  sb : S b
  lt : ∀ j, S j → j < w.heap.size
  c1 : ∀ k, k < 6 → w.cell? ⟨b, k, none⟩ = some (.slice (a k) (L k).length (cap k))
  c2 : ∀ k, k < 6 → w.cell? ⟨b, 6 + k, none⟩ = some (.map (m k))
  fr : ∀ k, w.frozen? ⟨b, k, none⟩ = false
  row : ∀ k, k < 6 → w.ownsRow 0 9 1 (.slice (a k) (L k).length (cap k)) (L k).length ((L k).map .string)
  rowS : ∀ k, k < 6 → ∀ j, ownB (a k) = some j → S j ∧ j ≠ b
  rowD : ∀ j k, j < 6 → k < 6 → j ≠ k → ∀ r, ownB (a j) = some r → ownB (a k) ≠ some r
  mapS : ∀ k, k < 6 → ∀ j, m k = some j → S j ∧ j ≠ b
  mapD : ∀ j k, j < 6 → k < 6 → j ≠ k → ∀ r, m j = some r → m k ≠ some r
  mapR : ∀ j k, j < 6 → k < 6 → ∀ r, m j = some r → ownB (a k) ≠ some r
  nils : ∀ k, k < 6 → m k = none → a k = none ∧ cap k = 0 ∧ L k = []
  dict : ∀ k, k < 6 → ∀ mb, m k = some mb → ∃ D, w.ownsMap Tryz.prog 9 (plainElem Tryz.prog 57) mb (L k).length D ∧ DictOf k (L k) D

def Tab (w : World) (b : Nat) (L : Nat → List ByteArray) (S : Nat → Prop) : Prop := ∃ a cap m, TabG w b L S a cap m

theorem Tab.lt {w : World} {b : Nat} {L : Nat → List ByteArray} {S : Nat → Prop} (h : Tab w b L S) : ∀ j, S j → j < w.heap.size := by
 obtain ⟨a, cap, m, h⟩ := h; exact h.lt

theorem Tab.mono {w : World} {b : Nat} {L : Nat → List ByteArray} {S S' : Nat → Prop} (h : Tab w b L S) (hs : ∀ j, S j → S' j) (hl : ∀ j, S' j → j < w.heap.size) : Tab w b L S' := by
 obtain ⟨a, cap, m, h⟩ := h
 exact ⟨a, cap, m, hs _ h.sb, hl, h.c1, h.c2, h.fr, h.row, fun k hk j e => ⟨hs _ (h.rowS k hk j e).1, (h.rowS k hk j e).2⟩, h.rowD, fun k hk j e => ⟨hs _ (h.mapS k hk j e).1, (h.mapS k hk j e).2⟩, h.mapD, h.mapR, h.nils, h.dict⟩

def Since (S : Nat → Prop) (w w' : World) : Nat → Prop := fun j => S j ∨ (w.heap.size ≤ j ∧ j < w'.heap.size)

theorem TabG.put {w w' : World} {b : Nat} {L : Nat → List ByteArray} {S : Nat → Prop} {a : Nat → Option Addr} {cap : Nat → Nat} {m : Nat → Option Nat} (h : TabG w b L S a cap m)
    {k : Nat} (hk : k < 6) (s : ByteArray) (D : DataW Unit) (hD : DictOf k (L k ++ [s]) D)
    (p : PutPost2 w w' b k (L k).length (m k) (ownB (a k)) ((L k).map .string ++ [.string s]) D) : Tab w' b (upd L k (L k ++ [s])) (Since S w w') := by
  obtain ⟨g, c, e1, e2, e3, e4⟩ := p.rows
  obtain ⟨mb, d1, d2, d3⟩ := p.maps
  have hbl : b < w.heap.size := h.lt b h.sb
  have hgb : g ≠ b := by
    rcases e3 with e | e
    · exact (h.rowS k hk g e).2
    · omega
  have hmbb : mb ≠ b := by
    rcases d3 with e | e
    · exact (h.mapS k hk mb e).2
    · omega
  have hrS : ∀ j, j < 6 → ∀ r, ownB (a j) = some r → r < w.heap.size := fun j hj r e => h.lt _ (h.rowS j hj r e).1
  have hmS : ∀ j, j < 6 → ∀ r, m j = some r → r < w.heap.size := fun j hj r e => h.lt _ (h.mapS j hj r e).1
  have hmbl : mb < w'.heap.size := d2.lt
  have hgrow := p.chg
  -- a row, a map of another kind is as it was
  have hother : ∀ j, j < 6 → j ≠ k → ∀ r, ownB (a j) = some r → w'.heap[r]? = w.heap[r]? := fun j hj hjk r e =>
    hgrow.block r (hrS j hj r e) (by
      rintro (h1 | h1 | h1)
      · exact (h.rowS j hj r e).2 h1
      · exact h.mapR k j hk hj r h1 e
      · exact h.rowD j k hj hk hjk r e h1)
  have hmother : ∀ j, j < 6 → j ≠ k → ∀ r, m j = some r → w'.heap[r]? = w.heap[r]? := fun j hj hjk r e =>
    hgrow.block r (hmS j hj r e) (by
      rintro (h1 | h1 | h1)
      · exact (h.mapS j hj r e).2 h1
      · exact h.mapD j k hj hk hjk r e h1
      · exact h.mapR j k hj hk r e h1)
  refine ⟨fun j => if j = k then some ⟨g, 0, none⟩ else a j, fun j => if j = k then c else cap j, fun j => if j = k then some mb else m j, .inl h.sb, ?_, ?_, ?_, ?_, ?_, ?_, ?_, ?_, ?_, ?_, ?_, ?_⟩
  · rintro j (hj | hj)
    · exact Nat.lt_of_lt_of_le (h.lt j hj) p.chg.size
    · exact hj.2
  · intro j hj
    by_cases e : j = k
    · subst e; simp only [if_true, upd_same]; simpa using e1
    · simp only [if_neg e, upd_other _ _ e]; exact p.cells _ _ e (by omega) (h.c1 j hj)
  · intro j hj
    by_cases e : j = k
    · subst e; simpa using d1
    · simp only [if_neg e]; exact p.cells _ _ (by omega) (by omega) (h.c2 j hj)
  · intro j; exact p.frozen j (h.fr j)
  · intro j hj
    by_cases e : j = k
    · subst e; simp only [if_true, upd_same]; simpa using e2
    · simp only [if_neg e, upd_other _ _ e]
      obtain ⟨h1, h2⟩ := h.row j hj
      refine ⟨h1, ?_⟩
      rcases h2 with h2 | ⟨g', c', cur, hv, hg, hh, r⟩
      · exact .inl h2
      · refine .inr ⟨g', c', cur, hv, hg, ?_, r⟩
        rw [hother j hj e g' (by rw [← ownBlock_slice (a j) (L j).length (cap j), hv]; rfl)]; exact hh
  · intro j hj r
    by_cases e : j = k
    · subst e
      simp only [if_true, ownB, Option.map_some, Option.some.injEq]
      rintro rfl
      refine ⟨?_, hgb⟩
      rcases e3 with e | e
      · exact .inl (h.rowS j hj g e).1
      · exact .inr ⟨e, e4⟩
    · simp only [if_neg e]; intro hr; exact ⟨.inl (h.rowS j hj r hr).1, (h.rowS j hj r hr).2⟩
  · intro i j hi hj hij r
    by_cases ei : i = k
    · subst ei
      simp only [if_true, if_neg (Ne.symm hij), ownB, Option.map_some, Option.some.injEq]
      rintro rfl hr
      rcases e3 with e | e
      · exact h.rowD i j hi hj hij g e hr
      · have := hrS j hj g hr; omega
    · by_cases ej : j = k
      · subst ej
        simp only [if_true, if_neg ei]
        intro hr
        simp only [ownB, Option.map_some, ne_eq, Option.some.injEq]
        rintro rfl
        rcases e3 with e | e
        · exact h.rowD i j hi hj hij g hr e
        · have := hrS i hi g hr; omega
      · simp only [if_neg ei, if_neg ej]; exact h.rowD i j hi hj hij r
  · intro j hj r
    by_cases e : j = k
    · subst e
      simp only [if_true, Option.some.injEq]
      rintro rfl
      refine ⟨?_, hmbb⟩
      rcases d3 with e | e
      · exact .inl (h.mapS j hj mb e).1
      · exact .inr ⟨e, hmbl⟩
    · simp only [if_neg e]; intro hr; exact ⟨.inl (h.mapS j hj r hr).1, (h.mapS j hj r hr).2⟩
  · intro i j hi hj hij r
    by_cases ei : i = k
    · subst ei
      simp only [if_true, if_neg (Ne.symm hij), Option.some.injEq]
      rintro rfl hr
      rcases d3 with e | e
      · exact h.mapD i j hi hj hij mb e hr
      · have := hmS j hj mb hr; omega
    · by_cases ej : j = k
      · subst ej
        simp only [if_true, if_neg ei, ne_eq, Option.some.injEq]
        rintro hr rfl
        rcases d3 with e | e
        · exact h.mapD i j hi hj hij mb hr e
        · have := hmS i hi mb hr; omega
      · simp only [if_neg ei, if_neg ej]; exact h.mapD i j hi hj hij r
  · -- a map's block is no row's: the one is a map, the other has cells
    intro i j hi hj r hr hr2
    have hrow : ∃ cur, w'.heap[r]? = some (.cells cur 9 (0, 0)) := by
      by_cases ej : j = k
      · subst ej
        simp only [if_true, ownB, Option.map_some, Option.some.injEq] at hr2
        subst hr2
        rcases e2.2 with ⟨h0, _⟩ | ⟨g', c', cur, hv, _, hh, _⟩
        · cases h0
        · injection hv with hv _ _; injection hv with hv; injection hv with hv; subst hv; exact ⟨cur, hh⟩
      · simp only [if_neg ej] at hr2
        rcases (h.row j hj).2 with ⟨h0, _⟩ | ⟨g', c', cur, hv, _, hh, _⟩
        · injection h0 with h0 _ _; rw [h0] at hr2; cases hr2
        · injection hv with hv _ _; rw [hv] at hr2; simp [ownB] at hr2; subst hr2
          exact ⟨cur, by rw [hother j hj ej g' (by rw [hv]; rfl)]; exact hh⟩
    have hmap : ∃ es cl, w'.heap[r]? = some (.map es cl) := by
      by_cases ei : i = k
      · subst ei
        simp only [if_true, Option.some.injEq] at hr
        subst hr
        obtain ⟨es, cl, hh, _⟩ := d2
        exact ⟨es, cl, hh⟩
      · simp only [if_neg ei] at hr
        obtain ⟨D', ⟨es, cl, hh, _⟩, _⟩ := h.dict i hi r hr
        exact ⟨es, cl, by rw [hmother i hi ei r hr]; exact hh⟩
    obtain ⟨cur, h1⟩ := hrow
    obtain ⟨es, cl, h2⟩ := hmap
    rw [h1] at h2; cases h2
  · intro j hj
    by_cases e : j = k
    · subst e; simp
    · simp only [if_neg e, upd_other _ _ e]; exact h.nils j hj
  · intro j hj r
    by_cases e : j = k
    · subst e
      simp only [if_true, upd_same, Option.some.injEq]
      rintro rfl
      exact ⟨D, by simpa using d2, hD⟩
    · simp only [if_neg e, upd_other _ _ e]
      intro hr
      obtain ⟨D', ⟨es, clock, he, r'⟩, hD'⟩ := h.dict j hj r hr
      exact ⟨D', ⟨es, clock, by rw [hmother j hj e r hr]; exact he, r'⟩, hD'⟩
def TabTurned (S : Nat → Prop) (b : Nat) (L' : Nat → List ByteArray) (w w' : World) : Prop := Tab w' b L' (Since S w w') ∧ Chg S w w'

theorem TabTurned.same {S : Nat → Prop} {b : Nat} {L : Nat → List ByteArray} {w : World} (h : Tab w b L S) : TabTurned S b L w w :=
 ⟨h.mono (fun _ hj => .inl hj) (by rintro j (hj | hj); exact h.lt j hj; omega), Chg.refl _ _⟩

theorem put_kind (b : Nat) (kd : Int) (s : ByteArray) (w : World) (h : kd < 1 ∨ 5 < kd) :
  Calls Tryz.prog 49 #[.pointer (some ⟨b, 0, none⟩), .int .i64 kd, .string s] w fun e w' =>
   e = .returned (.tuple #[.int .u16 0, .int .i64 1]) ∧ w = w' := by
 have H := Lib.hid h; clear h
 go_enter Tryz.func49, Tryz.ntmps49
 go_wp2_with (go_at_call 83; refine (named_no _ _ H.out).mono ?_; rintro e w' ⟨rfl, rfl⟩)
 go_ret2
 exact ⟨rfl, rfl⟩

theorem put_form (b k : Nat) (s : ByteArray) (w : World) (hs : s.size ≤ maxLen) (h1 : 1 ≤ k) (h5 : k ≤ 5) (hm : Hid (mayB s = false)) :
  Calls Tryz.prog 49 #[.pointer (some ⟨b, 0, none⟩), .int .i64 k, .string s] w fun e w' =>
   e = .returned (.tuple #[.int .u16 0, .int .i64 2]) ∧ w = w' := by
 go_enter Tryz.func49, Tryz.ntmps49
 go_wp2_with (first
  | (go_at_call 83; refine (named_yes _ _ (by omega) (by omega)).mono ?_; rintro e w' ⟨rfl, rfl⟩)
  | (go_at_call 84; refine (may_false _ _ hs hm.out).mono ?_; rintro e w' ⟨rfl, rfl⟩))
 go_ret2
 exact ⟨rfl, rfl⟩

theorem put_found (b k n mb : Nat) (A : Int) (s : ByteArray) (D : DataW Unit) (w : World) (hs : s.size ≤ maxLen) (h1 : 1 ≤ k) (h5 : k ≤ 5) (hm : Hid (mayB s = true))
  (c2 : w.cell? ⟨b, 6 + k, none⟩ = some (.map (some mb)))
  (hmap : w.ownsMap Tryz.prog 9 (plainElem Tryz.prog 57) mb n D)
  (hyes : Maps.has D (.string s.data.toList) = true) (hat : Hid (D.atKey (.string s.data.toList) (.lit (.int .u16 0)) = .lit (.int .u16 A))) :
  Calls Tryz.prog 49 #[.pointer (some ⟨b, 0, none⟩), .int .i64 k, .string s] w fun e w' =>
   e = .returned (.tuple #[.int .u16 A, .int .i64 0]) ∧ w = w' := by
 go_enter Tryz.func49, Tryz.ntmps49
 go_wp2_with (first
  | (go_at_call 83; refine (named_yes _ _ (by omega) (by omega)).mono ?_; rintro e w' ⟨rfl, rfl⟩)
  | (go_at_call 84; refine (may_true _ _ hs hm.out).mono ?_; rintro e w' ⟨rfl, rfl⟩)
  | (at_lookup; refine wpList_lookup_own_ok_int _ rfl _ _ 95 rfl 9 57 .u16 strKey Tryz.underlying95 Tryz.underlying57 (zeroAtom _) mb n D rfl hmap _ _ rfl (keyOf_string_mk Tryz.underlying9 hs) ?_; intro c hc hwc; rw [hat.out] at hc; injection hc with hc; injection hc with _ hc; subst hc))
 go_ret2
 exact ⟨rfl, rfl⟩

theorem put_full (b k n cap mb : Nat) (a : Option Addr) (s : ByteArray) (D : DataW Unit) (w : World) (hs : s.size ≤ maxLen) (h1 : 1 ≤ k) (h5 : k ≤ 5) (hm : Hid (mayB s = true))
  (c1 : w.cell? ⟨b, k, none⟩ = some (.slice a n cap))
  (c2 : w.cell? ⟨b, 6 + k, none⟩ = some (.map (some mb)))
  (hmap : w.ownsMap Tryz.prog 9 (plainElem Tryz.prog 57) mb n D)
  (hno : Maps.has D (.string s.data.toList) = false) (hn : 4000 ≤ n) :
  Calls Tryz.prog 49 #[.pointer (some ⟨b, 0, none⟩), .int .i64 k, .string s] w fun e w' =>
   e = .returned (.tuple #[.int .u16 0, .int .i64 3]) ∧ w = w' := by
 go_enter Tryz.func49, Tryz.ntmps49
 go_wp2_with (first
  | (go_at_call 83; refine (named_yes _ _ (by omega) (by omega)).mono ?_; rintro e w' ⟨rfl, rfl⟩)
  | (go_at_call 84; refine (may_true _ _ hs hm.out).mono ?_; rintro e w' ⟨rfl, rfl⟩)
  | (at_lookup; refine wpList_lookup_own_ok_int _ rfl _ _ 95 rfl 9 57 .u16 strKey Tryz.underlying95 Tryz.underlying57 (zeroAtom _) mb n D rfl hmap _ _ rfl (keyOf_string_mk Tryz.underlying9 hs) ?_; intro c hc hwc))
 go_ret2
 exact ⟨rfl, rfl⟩

theorem put_any (b : Nat) (kd : Int) (s : ByteArray) (L : Nat → List ByteArray) (S : Nat → Prop) (w : World) (hs : s.size ≤ maxLen) (hT : Tab w b L S) :
  Calls Tryz.prog 49 #[.pointer (some ⟨b, 0, none⟩), .int .i64 kd, .string s] w fun e w' =>
   e = .returned (.tuple #[.int .u16 (putA L kd s), .int .i64 (putE L kd s)]) ∧ TabTurned S b (putL L kd s) w w' := by
 by_cases hk : kd < 1 ∨ 5 < kd
 ·have e1 : putE L kd s = 1 := by simp [putE, hk]
  have e2 : putA L kd s = 0 := by simp [putA, e1]
  have e3 : putL L kd s = L := by unfold putL; rw [if_neg (by omega)]
  rw [e1, e2, e3]
  refine (put_kind b kd s w hk).mono ?_
  rintro e w' ⟨rfl, rfl⟩
  exact ⟨rfl, .same hT⟩
 ·obtain ⟨k, rfl⟩ := Int.eq_ofNat_of_zero_le (show 0 ≤ kd by omega)
  have h1 : 1 ≤ k := by omega
  have h5 : k ≤ 5 := by omega
  by_cases hm : mayB s = true
  ·obtain ⟨a, cap, m, h⟩ := hT
   have hT : Tab w b L S := ⟨a, cap, m, h⟩
   by_cases hin : s ∈ L k
   ·have e1 : putE L k s = 0 := by simp [putE, hk, hm, hin]
    have e2 : putA L k s = 8192 * k + (posOf s (L k) + 1) := by simp [putA, e1]
    have e3 : putL L k s = L := by unfold putL; rw [if_neg (by simp [hin])]
    rw [e1, e2, e3]
    cases hmk : m k with
    | none => rw [(h.nils k (by omega) hmk).2.2] at hin; cases hin
    | some mb =>
     obtain ⟨D, hD, hd⟩ := h.dict k (by omega) mb hmk
     refine (put_found b k (L k).length mb _ s D w hs h1 h5 hm (by rw [h.c2 k (by omega), hmk]) hD (by rw [hd.has]; simp [hin]) (hd.at_ s hin)).mono ?_
     rintro e w' ⟨rfl, rfl⟩
     exact ⟨rfl, .same hT⟩
   ·by_cases hl : (L k).length < 4000
    ·have e1 : putE L k s = 0 := by simp [putE, hk, hm, hin, hl]
     have e2 : putA L k s = 8192 * k + ((L k).length + 1) := by simp [putA, e1, posOf_none hin]
     have e3 : putL L k s = upd L k (L k ++ [s]) := by unfold putL; rw [if_pos ⟨by omega, by omega, hm, by simpa using hin, by simpa using hl⟩]; simp
     rw [e1, e2, e3]
     cases hmk : m k with
     | none =>
      obtain ⟨n1, n2, n3⟩ := h.nils k (by omega) hmk
      have c1 := h.c1 k (by omega)
      rw [n1, n2, n3] at c1
      refine (put_core_nil b k s w hs h1 h5 hm c1 (h.fr k) (by rw [h.c2 k (by omega), hmk]) (h.fr _)).mono ?_
      rintro e w' ⟨rfl, p⟩
      refine ⟨by rw [n3]; rfl, h.put (k := k) (by omega) s (DataW.put (.map []) (.string s.data.toList) (.lit (.int .u16 (8192 * k + (0 + 1))))) ?_ ?_, ?_⟩
      ·rw [n3]; exact dict_snoc (dict_nil k) s (by simp)
      ·rw [n3, n1, hmk]; exact p
      ·refine p.chg.mono ?_
       rintro j hj (e | e | e)
       ·rw [e]; exact h.sb
       ·cases e
       ·cases e
     | some mb =>
      obtain ⟨D, hD, hd⟩ := h.dict k (by omega) mb hmk
      refine (put_core b k (L k).length (cap k) mb (a k) s _ D w hs h1 h5 hm (h.c1 k (by omega)) (h.fr k) (by rw [h.c2 k (by omega), hmk]) (h.row k (by omega)) ?_ hD (by rw [hd.has]; simp [hin]) hl (h.mapS k (by omega) mb hmk).2 ?_).mono ?_
      ·rw [ownBlock_slice]; exact fun e => (h.rowS k (by omega) b e).2 rfl
      ·rw [ownBlock_slice]; exact h.mapR k k (by omega) (by omega) mb hmk
      ·rintro e w' ⟨rfl, p⟩
       rw [ownBlock_slice] at p
       refine ⟨rfl, h.put (k := k) (by omega) s _ (dict_snoc hd s hin) (by rw [hmk]; exact p), ?_⟩
       refine p.chg.mono ?_
       rintro j hj (e | e | e)
       ·rw [e]; exact h.sb
       ·injection e with e; subst e; exact (h.mapS k (by omega) mb hmk).1
       ·exact (h.rowS k (by omega) j e).1
    ·have e1 : putE L k s = 3 := by simp [putE, hk, hm, hin, hl]
     have e2 : putA L k s = 0 := by simp [putA, e1]
     have e3 : putL L k s = L := by unfold putL; rw [if_neg (by simp; omega)]
     rw [e1, e2, e3]
     cases hmk : m k with
     | none => rw [(h.nils k (by omega) hmk).2.2] at hl; simp at hl
     | some mb =>
      obtain ⟨D, hD, hd⟩ := h.dict k (by omega) mb hmk
      refine (put_full b k (L k).length (cap k) mb (a k) s D w hs h1 h5 hm (h.c1 k (by omega)) (by rw [h.c2 k (by omega), hmk]) hD (by rw [hd.has]; simp [hin]) (by omega)).mono ?_
      rintro e w' ⟨rfl, rfl⟩
      exact ⟨rfl, .same hT⟩
  ·have hm : mayB s = false := by simpa using hm
   have e1 : putE L k s = 2 := by simp [putE, hk, hm]
   have e2 : putA L k s = 0 := by simp [putA, e1]
   have e3 : putL L k s = L := by unfold putL; rw [if_neg (by simp [hm])]
   rw [e1, e2, e3]
   refine (put_form b k s w hs h1 h5 hm).mono ?_
   rintro e w' ⟨rfl, rfl⟩
   exact ⟨rfl, .same hT⟩
theorem new_any (w : World) : Calls Tryz.prog 47 #[] w fun e w' =>
  e = .returned (.pointer (some ⟨w.heap.size, 0, none⟩)) ∧ Below w.heap.size w w' ∧ w'.heap.size = w.heap.size + 1 ∧ Tab w' w.heap.size (fun _ => []) (fun j => j = w.heap.size) := by
 go_enter Tryz.func47, Tryz.ntmps47
 go_wp2
 go_ret
 refine ⟨rfl, (Below.refl _ _).alloc (Nat.le_refl _) _, by simp, fun _ => none, fun _ => 0, fun _ => none, rfl, by rintro j rfl; simp, ?_, ?_, ?_, ?_, ?_, ?_, ?_, ?_, ?_, ?_, ?_⟩
 ·intro k hk
  have : k = 0 ∨ k = 1 ∨ k = 2 ∨ k = 3 ∨ k = 4 ∨ k = 5 := by omega
  rcases this with rfl | rfl | rfl | rfl | rfl | rfl <;> simp
 ·intro k hk
  have : k = 0 ∨ k = 1 ∨ k = 2 ∨ k = 3 ∨ k = 4 ∨ k = 5 := by omega
  rcases this with rfl | rfl | rfl | rfl | rfl | rfl <;> simp
 ·intro k; simp
 ·intro k hk; exact World.ownsRow_nil _ _ _ _
 all_goals simp [ownB]

theorem find_kind (b : Nat) (kd : Int) (s : ByteArray) (w : World) (h : Hid (kd < 1 ∨ 5 < kd)) :
  Calls Tryz.prog 48 #[.pointer (some ⟨b, 0, none⟩), .int .i64 kd, .string s] w fun e w' =>
   e = .returned (.tuple #[.int .u16 0, .bool false]) ∧ w = w' := by
 go_enter Tryz.func48, Tryz.ntmps48
 go_wp2_with (go_at_call 83; refine (named_no _ _ h.out).mono ?_; rintro e w' ⟨rfl, rfl⟩)
 go_ret2
 exact ⟨rfl, rfl⟩

theorem find_nil (b k : Nat) (s : ByteArray) (w : World) (hs : s.size ≤ maxLen) (h1 : 1 ≤ k) (h5 : k ≤ 5) (c2 : w.cell? ⟨b, 6 + k, none⟩ = some (.map none)) :
  Calls Tryz.prog 48 #[.pointer (some ⟨b, 0, none⟩), .int .i64 k, .string s] w fun e w' =>
   e = .returned (.tuple #[.int .u16 0, .bool false]) ∧ w = w' := by
 have hlk : ∀ w : World, (Instr.lookup 95 (.map none) (.string s) true).run Tryz.prog w = .ok (.tuple #[.int .u16 0, .bool false]) w := fun w => Maps.look_nil true strKey Tryz.underlying95 (zeroAtom w) (keyOf_string_mk Tryz.underlying9 hs)
 go_enter Tryz.func48, Tryz.ntmps48
 go_wp2_with (go_at_call 83; refine (named_yes _ _ (by omega) (by omega)).mono ?_; rintro e w' ⟨rfl, rfl⟩)
 go_ret2
 exact ⟨rfl, rfl⟩

theorem find_map (b k n mb : Nat) (A : Int) (s : ByteArray) (B : Bool) (D : DataW Unit) (w : World) (hs : s.size ≤ maxLen) (h1 : 1 ≤ k) (h5 : k ≤ 5)
  (c2 : w.cell? ⟨b, 6 + k, none⟩ = some (.map (some mb)))
  (hmap : w.ownsMap Tryz.prog 9 (plainElem Tryz.prog 57) mb n D)
  (hyes : Maps.has D (.string s.data.toList) = B) (hat : Hid (D.atKey (.string s.data.toList) (.lit (.int .u16 0)) = .lit (.int .u16 A))) :
  Calls Tryz.prog 48 #[.pointer (some ⟨b, 0, none⟩), .int .i64 k, .string s] w fun e w' =>
   e = .returned (.tuple #[.int .u16 A, .bool B]) ∧ w = w' := by
 go_enter Tryz.func48, Tryz.ntmps48
 go_wp2_with (first
  | (go_at_call 83; refine (named_yes _ _ (by omega) (by omega)).mono ?_; rintro e w' ⟨rfl, rfl⟩)
  | (at_lookup; refine wpList_lookup_own_ok_int _ rfl _ _ 95 rfl 9 57 .u16 strKey Tryz.underlying95 Tryz.underlying57 (zeroAtom _) mb n D rfl hmap _ _ rfl (keyOf_string_mk Tryz.underlying9 hs) ?_; intro c hc hwc; rw [hat.out] at hc; injection hc with hc; injection hc with _ hc; subst hc))
 go_ret2
 exact ⟨rfl, rfl⟩

theorem find_any (b : Nat) (kd : Int) (s : ByteArray) (L : Nat → List ByteArray) (S : Nat → Prop) (w : World) (hs : s.size ≤ maxLen) (hT : Tab w b L S) :
  Calls Tryz.prog 48 #[.pointer (some ⟨b, 0, none⟩), .int .i64 kd, .string s] w fun e w' =>
   e = .returned (.tuple #[.int .u16 (findA L kd s), .bool (findB L kd s)]) ∧ w = w' := by
 by_cases hk : kd < 1 ∨ 5 < kd
 ·have e1 : findB L kd s = false := by simp [findB]; omega
  have e2 : findA L kd s = 0 := by simp [findA, e1]
  rw [e1, e2]
  exact find_kind b kd s w hk
 ·obtain ⟨k, rfl⟩ := Int.eq_ofNat_of_zero_le (show 0 ≤ kd by omega)
  have h1 : 1 ≤ k := by omega
  have h5 : k ≤ 5 := by omega
  obtain ⟨a, cap, m, h⟩ := hT
  cases hmk : m k with
  | none =>
   have e1 : findB L k s = false := by simp [findB, (h.nils k (by omega) hmk).2.2]
   have e2 : findA L k s = 0 := by simp [findA, e1]
   rw [e1, e2]
   exact find_nil b k s w hs h1 h5 (by rw [h.c2 k (by omega), hmk])
  | some mb =>
   obtain ⟨D, hD, hd⟩ := h.dict k (by omega) mb hmk
   refine find_map b k (L k).length mb _ s _ D w hs h1 h5 (by rw [h.c2 k (by omega), hmk]) hD ?_ ?_
   ·rw [hd.has]; simp only [findB, decide_eq_decide]; exact ⟨fun h => ⟨by omega, by omega, by simpa using h⟩, fun h => by simpa using h.2.2⟩
   ·show D.atKey _ _ = _
    by_cases hin : s ∈ L k
    ·rw [hd.at_ s hin]
     have e1 : findB L k s = true := by simp [findB, hin]; omega
     simp [findA, e1]
    ·have e1 : findB L k s = false := by simp [findB, hin]
     rw [atKey_of_not_has (by rw [hd.has]; simp [hin])]
     simp [findA, e1]

theorem name_D (b : Nat) (w : World) :
  Calls Tryz.prog 68 #[.pointer (some ⟨b, 0, none⟩), .int .u16 1] w fun e w' => e = .returned (.tuple #[.string ⟨#[68]⟩, .bool true]) ∧ w = w' := by
 go_enter Tryz.func68, Tryz.ntmps68
 go_wp2
 go_ret2
 exact ⟨rfl, rfl⟩

theorem name_kind (b x : Nat) (w : World) (hx : x < 65536) (h1 : ((x : Int) == 1) = false) (h : Hid (x / 8192 < 1 ∨ 5 < x / 8192)) :
  Calls Tryz.prog 68 #[.pointer (some ⟨b, 0, none⟩), .int .u16 x] w fun e w' => e = .returned (.tuple #[.string ⟨#[]⟩, .bool false]) ∧ w = w' := by
 have H : Hid (((x / 8192 : Nat) : Int) < 1 ∨ 5 < ((x / 8192 : Nat) : Int)) := by have := h.out; show _ ∨ _; omega
 go_enter Tryz.func68, Tryz.ntmps68
 go_wp2_with (first
  | (go_at_call 70; refine (kind_any _ _ hx).mono ?_; rintro e w' ⟨rfl, rfl⟩)
  | (go_at_call 105; refine (number_any _ _ hx).mono ?_; rintro e w' ⟨rfl, rfl⟩)
  | (go_at_call 83; refine (named_no _ _ H.out).mono ?_; rintro e w' ⟨rfl, rfl⟩))
 go_ret2
 exact ⟨rfl, rfl⟩

theorem name_number (b x n cap : Nat) (a : Option Addr) (w : World) (hx : x < 65536) (h1 : ((x : Int) == 1) = false) (hk1 : 1 ≤ x / 8192) (hk5 : x / 8192 ≤ 5) (c1 : w.cell? ⟨b, x / 8192, none⟩ = some (.slice a n cap))
  (h : x % 8192 < 1 ∨ n < x % 8192) :
  Calls Tryz.prog 68 #[.pointer (some ⟨b, 0, none⟩), .int .u16 x] w fun e w' => e = .returned (.tuple #[.string ⟨#[]⟩, .bool false]) ∧ w = w' := by
 go_enter Tryz.func68, Tryz.ntmps68
 go_wp2_with (first
  | (go_at_call 70; refine (kind_any _ _ hx).mono ?_; rintro e w' ⟨rfl, rfl⟩)
  | (go_at_call 105; refine (number_any _ _ hx).mono ?_; rintro e w' ⟨rfl, rfl⟩)
  | (go_at_call 83; refine (named_yes _ _ (by omega) (by omega)).mono ?_; rintro e w' ⟨rfl, rfl⟩))
 all_goals (go_ret2; exact ⟨rfl, rfl⟩)

theorem name_in (b x n cap r off : Nat) (s : ByteArray) (w : World) (hx : x < 65536) (h1 : ((x : Int) == 1) = false) (hk1 : 1 ≤ x / 8192) (hk5 : x / 8192 ≤ 5) (c1 : w.cell? ⟨b, x / 8192, none⟩ = some (.slice (some ⟨r, off, none⟩) n cap))
  (hn1 : 1 ≤ x % 8192) (hn2 : x % 8192 ≤ n) (c2 : w.cell? ⟨r, off + (x % 8192 - 1), none⟩ = some (.string s)) :
  Calls Tryz.prog 68 #[.pointer (some ⟨b, 0, none⟩), .int .u16 x] w fun e w' => e = .returned (.tuple #[.string s, .bool true]) ∧ w = w' := by
 go_enter Tryz.func68, Tryz.ntmps68
 go_wp2_with (first
  | (go_at_call 70; refine (kind_any _ _ hx).mono ?_; rintro e w' ⟨rfl, rfl⟩)
  | (go_at_call 105; refine (number_any _ _ hx).mono ?_; rintro e w' ⟨rfl, rfl⟩)
  | (go_at_call 83; refine (named_yes _ _ (by omega) (by omega)).mono ?_; rintro e w' ⟨rfl, rfl⟩))
 go_ret2
 exact ⟨rfl, rfl⟩

theorem name_any (b x : Nat) (L : Nat → List ByteArray) (S : Nat → Prop) (w : World) (hx : x < 65536) (hT : Tab w b L S) :
  Calls Tryz.prog 68 #[.pointer (some ⟨b, 0, none⟩), .int .u16 x] w fun e w' => e = .returned (.tuple #[.string (nameS L x), .bool (nameB L x)]) ∧ w = w' := by
 by_cases h1 : x = 1
 ·subst h1
  have e1 : nameB L 1 = true := by simp [nameB]
  have e2 : nameS L 1 = ⟨#[68]⟩ := by simp [nameS]
  rw [e1, e2]
  exact name_D b w
 ·have h1' : ((x : Int) == 1) = false := by simp; omega
  obtain ⟨a, cap, m, h⟩ := hT
  by_cases hk : x / 8192 < 1 ∨ 5 < x / 8192
  ·have e1 : nameB L x = false := by simp [nameB, h1]; omega
   have e2 : nameS L x = ⟨#[]⟩ := by unfold nameS; rw [if_neg h1, e1]; rfl
   rw [e1, e2]
   exact name_kind b x w hx h1' hk
  ·have c1 := h.c1 (x / 8192) (by omega)
   by_cases hn : x % 8192 < 1 ∨ (L (x / 8192)).length < x % 8192
   ·have e1 : nameB L x = false := by simp only [nameB, decide_eq_false_iff_not]; omega
    have e2 : nameS L x = ⟨#[]⟩ := by unfold nameS; rw [if_neg h1, e1]; rfl
    rw [e1, e2]
    exact name_number b x _ _ _ w hx h1' (by omega) (by omega) c1 hn
   ·have e1 : nameB L x = true := by simp only [nameB, decide_eq_true_eq]; omega
    have hlt : x % 8192 - 1 < (L (x / 8192)).length := by omega
    have e2 : nameS L x = (L (x / 8192))[x % 8192 - 1] := by unfold nameS; rw [if_neg h1, e1]; simp [hlt]
    have hp : 0 < (L (x / 8192)).length := by omega
    rw [e1, e2]
    rcases RowOf.of_owns (h.row (x / 8192) (by omega)) with h0 | ⟨r, off, ha, hc⟩
    ·have := congrArg List.length h0; rw [List.length_map, List.length_nil] at this; omega
    ·rw [ha] at c1
     exact name_in b x _ _ r off _ w hx h1' (by omega) (by omega) c1 (by omega) (by omega) (hc _ _ (by simp [hlt]))

theorem oneCell_strs (l : List ByteArray) : ∀ u ∈ l.map Value.string, u.oneCell' = true := by
 intro u hu; obtain ⟨s, _, rfl⟩ := List.mem_map.1 hu; rfl

end Go.Proofs.YtedaffmkpljlnaaGreat
/- Contract of atom.Load. -/
namespace Go.Proofs.YtedaffmkpljlnaaGreat
open Go.RowKit Go.Maps

def TabFrom (w : World) (B b : Nat) (L : Nat → List ByteArray) : Prop := Tab w b L (fun j => B ≤ j ∧ j < w.heap.size)

theorem TabFrom.put {w w' : World} {B b : Nat} {L' : Nat → List ByteArray} (hB : B ≤ w.heap.size) (h : TabTurned (fun j => B ≤ j ∧ j < w.heap.size) b L' w w') : TabFrom w' B b L' ∧ Below B w w' := by
 refine ⟨h.1.mono ?_ (fun j hj => hj.2), h.2.toBelow hB (fun k hk => hk.1)⟩
 rintro j (hj | hj)
 ·exact ⟨hj.1, Nat.lt_of_lt_of_le hj.2 h.2.size⟩
 ·exact ⟨by omega, hj.2⟩

def LoadPost (ls : Nat → List ByteArray) (w : World) (e : Ending) (w' : World) : Prop :=
 Below w.heap.size w w' ∧ ((loadTo ls 5).2 = 0 → e = .returned (.tuple #[.pointer (some ⟨w.heap.size + 1, 0, none⟩), .int .i64 0]) ∧ TabFrom w' (w.heap.size + 1) (w.heap.size + 1) (loadTo ls 5).1) ∧
 ((loadTo ls 5).2 ≠ 0 → e = .returned (.tuple #[.pointer none, .int .i64 (loadTo ls 5).2]))

theorem ret_err {x y : Int} (h : x = y) : Ending.returned (.tuple #[.pointer none, .int .i64 x]) = .returned (.tuple #[.pointer none, .int .i64 y]) := by rw [h]

def listsVal (a : Nat → Option Addr) (ls : Nat → List ByteArray) (c : Nat → Nat) : Value :=
 .agg #[.slice (a 0) (ls 0).length (c 0), .slice (a 1) (ls 1).length (c 1), .slice (a 2) (ls 2).length (c 2), .slice (a 3) (ls 3).length (c 3), .slice (a 4) (ls 4).length (c 4), .slice (a 5) (ls 5).length (c 5)]

theorem load_any (a : Nat → Option Addr) (ls : Nat → List ByteArray) (c : Nat → Nat) (w : World) (hr : ∀ k, k < 6 → RowOf w (a k) ((ls k).map .string)) (hn : ∀ k, k < 6 → (ls k).length ≤ 9223372036854775807)
  (hs : ∀ k, k < 6 → ∀ s ∈ ls k, s.size ≤ maxLen) :
  Calls Tryz.prog 26 #[listsVal a ls c] w (LoadPost ls w) := by
 have HR := Lib.hid hr
 have HN := Lib.hid hn
 have HS := Lib.hid hs
 clear hr hn hs
 unfold listsVal
 go_enter Tryz.func26, Tryz.ntmps26
 go_wp2_with fail
 refine (new_any _).mono ?_
 rintro e w1 ⟨rfl, hb1, hz1, hT1⟩
 have hB1 : Below (w.heap.size + 1) (w.alloc (.cells #[.slice (a 0) (ls 0).length (c 0), .slice (a 1) (ls 1).length (c 1), .slice (a 2) (ls 2).length (c 2), .slice (a 3) (ls 3).length (c 3), .slice (a 4) (ls 4).length (c 4), .slice (a 5) (ls 5).length (c 5)] 23)) w1 := by simpa using hb1
 have hT2 : TabFrom w1 (w.heap.size + 1) (w.heap.size + 1) (fun _ => []) := by
  refine (show Tab w1 (w.heap.size + 1) (fun _ => []) (fun j => j = w.heap.size + 1) by simpa using hT1).mono ?_ (fun j hj => hj.2)
  rintro j rfl
  exact ⟨Nat.le_refl _, by have := hT1.lt _ rfl; simpa using this⟩
 have hz2 : w1.heap.size = w.heap.size + 1 + 1 := by simpa using hz1
 clear hT1 hz1 hb1
 have hbox : ∀ k, k < 6 → ∀ wr, Below (w.heap.size + 1) w1 wr → wr.cell? ⟨w.heap.size, k, none⟩ = some (.slice (a k) (ls k).length (c k)) := by
  intro k hk wr hb
  rw [hb.cell (by simp), hB1.cell (by simp)]
  have : k = 0 ∨ k = 1 ∨ k = 2 ∨ k = 3 ∨ k = 4 ∨ k = 5 := by omega
  rcases this with rfl | rfl | rfl | rfl | rfl | rfl <;> simp
 have hW : Below w.heap.size w w1 := ((Below.refl w.heap.size w).alloc (Nat.le_refl _) _).trans (hB1.mono (Nat.le_succ _))
 have HB := Lib.hid hbox
 have HW := Lib.hid hW
 have HZ := Lib.hid hz2
 clear hbox hW hz2 hB1
 go_wp2_with fail
 go_loopw [5] (fun i wr => ∃ j : Nat, j ≤ 5 ∧ i = .int .i64 (j + 1) ∧ Hid ((loadTo ls j).2 = 0) ∧ TabFrom wr (w.heap.size + 1) (w.heap.size + 1) (loadTo ls j).1 ∧ Below (w.heap.size + 1) w1 wr) (fun i _ => 7 - (intOf i).toNat)
 case atStart => exact ⟨0, by omega, rfl, rfl, hT2, Below.refl _ _⟩
 case round =>
  obtain ⟨j, hj, rfl, he0, hT, hb⟩ := hrel
  by_cases hlt : j < 5
  ·have hd : decide (((j : Int) + 1) ≤ 5) = true := by simp; omega
   have cB := HB.out (j + 1) (by omega) wr hb
   have hrow := HR.out (j + 1) (by omega)
   have hlen := HN.out (j + 1) (by omega)
   generalize a (j + 1) = aj at cB hrow
   rcases hrow with hnil | ⟨rb, off, rfl, hcell⟩
   ·have hl0 : ls (j + 1) = [] := by simpa using hnil
    have hst : loadTo ls (j + 1) = loadTo ls j := by show (ls (j + 1)).foldl _ _ = _; rw [hl0]; rfl
    have Hst := Lib.hid hst
    clear hst hnil
    rw [hl0] at cB
    clear hl0 hlen
    simp only [List.length_nil] at cB
    go_wp2_with fail
    refine wp_loop_rounds 1 ?_
    rw [rounds_succ]
    go_wp2_with fail
    go_roundw
    case rel => exact ⟨j + 1, by omega, by go_num, by rw [Hst.out]; exact he0, by rw [Hst.out]; exact hT, hb⟩
    case measure => simp [intOf]; omega
   ·have HCell := Lib.hid hcell
    clear hcell
    obtain ⟨wo, rfl⟩ : ∃ wo : World, wo = wr := ⟨_, rfl⟩
    go_wp2_with fail
    go_loopw [21] (fun t wr => ∃ i : Nat, i ≤ (ls (j + 1)).length ∧ t = .int .i64 i ∧ Hid ((((ls (j + 1)).take i).foldl (loadStep (j + 1)) (loadTo ls j)).2 = 0) ∧ TabFrom wr (w.heap.size + 1) (w.heap.size + 1) (((ls (j + 1)).take i).foldl (loadStep (j + 1)) (loadTo ls j)).1 ∧ Below (w.heap.size + 1) w1 wr) (fun t _ => (ls (j + 1)).length - (intOf t).toNat)
    case atStart => exact ⟨0, by omega, rfl, he0, hT, hb⟩
    case round =>
     obtain ⟨i, hi, rfl, hi0, hTi, hbi⟩ := hrel
     by_cases hil : i < (ls (j + 1)).length
     ·have hget : (ls (j + 1))[i]? = some (ls (j + 1))[i] := by simp [hil]
      have hsz : (ls (j + 1))[i].size ≤ maxLen := HS.out (j + 1) (by omega) _ (List.getElem_mem hil)
      have hc : wr.cell? ⟨rb, off + i, none⟩ = some (.string (ls (j + 1))[i]) := by
       have h0 := HCell.out i (.string (ls (j + 1))[i]) (by simp [hil])
       rw [(HW.out.trans (hbi.mono (Nat.le_succ _))).cell (World.block_lt_of_cell? w _ h0)]; exact h0
      have hzr : w.heap.size + 1 ≤ wr.heap.size := by have := hbi.size; have := HZ.out; omega
      have hfail := fun st h => @loadTo_fails ls j i st _ hlt h hget
      have hnext := take_foldl (loadStep (j + 1)) (ls (j + 1)) (loadTo ls j) i _ hget
      generalize (ls (j + 1))[i] = s at hsz hc hfail hnext
      generalize hst : ((ls (j + 1)).take i).foldl (loadStep (j + 1)) (loadTo ls j) = st at hi0 hTi hnext
      have HF := Lib.hid (hfail st hst)
      have HNx := Lib.hid hnext
      clear hfail hnext hst hget
      by_cases hin : s ∈ st.1 (j + 1)
      ·have hf : findB st.1 ((j : Int) + 1) s = true := by simp only [findB, decide_eq_true_eq]; exact ⟨by omega, by omega, by rw [show ((j : Int) + 1).toNat = j + 1 by omega]; exact hin⟩
       have hst : (loadStep (j + 1) st s).2 = 11 := by unfold loadStep; rw [if_neg (by simpa using hi0.out), if_pos hin]
       have Hst := Lib.hid hst
       clear hst hin
       go_wp2_with (go_at_call 48; refine (find_any _ _ _ st.1 _ _ hsz hTi).mono ?_; rintro e w' ⟨rfl, rfl⟩)
       go_ret2
       have h5 := HF.out (by rw [Hst.out]; decide)
       rw [Hst.out] at h5
       exact ⟨HW.out.trans (hbi.mono (Nat.le_succ _)), fun h => by rw [h5] at h; simp at h, fun _ => ret_err h5.symm⟩
      ·have hf : findB st.1 ((j : Int) + 1) s = false := by simp only [findB, decide_eq_false_iff_not]; rintro ⟨_, _, h3⟩; rw [show ((j : Int) + 1).toNat = j + 1 by omega] at h3; exact hin h3
       have Hin := Lib.hid hin
       clear hin
       by_cases hpe : putE st.1 ((j : Int) + 1) s = 0
       ·have hp0 : (putE st.1 ((j : Int) + 1) s != 0) = false := by simp [hpe]
        have Hpe := Lib.hid hpe
        clear hpe
        go_wp2_with (first
         | (go_at_call 48; refine (find_any _ _ _ st.1 _ _ hsz hTi).mono ?_; rintro e w' ⟨rfl, rfl⟩)
         | (go_at_call 49; refine (put_any _ _ _ st.1 _ _ hsz hTi).mono ?_; rintro e w2 ⟨rfl, ht2⟩))
        obtain ⟨ht3, hb3⟩ := TabFrom.put hzr ht2
        have hst : loadStep (j + 1) st s = (putL st.1 ((j : Int) + 1) s, 0) := by unfold loadStep; rw [if_neg (by simpa using hi0.out), if_neg Hin.out, if_neg (by simpa using Hpe.out)]; rfl
        go_roundw
        case rel =>
         refine ⟨i + 1, by omega, by go_num, ?_, ?_, hbi.trans hb3⟩
         ·rw [HNx.out, hst]; rfl
         ·rw [HNx.out, hst]; exact ht3
        case measure => simp [intOf]; omega
       ·have hp0 : (putE st.1 ((j : Int) + 1) s != 0) = true := by simp [hpe]
        have hst : (loadStep (j + 1) st s).2 = putE st.1 ((j : Int) + 1) s := by unfold loadStep; rw [if_neg (by simpa using hi0.out), if_neg Hin.out, if_pos (by simpa using hpe)]; rfl
        have Hpe := Lib.hid hpe
        have Hst := Lib.hid hst
        clear hpe hst
        go_wp2_with (first
         | (go_at_call 48; refine (find_any _ _ _ st.1 _ _ hsz hTi).mono ?_; rintro e w' ⟨rfl, rfl⟩)
         | (go_at_call 49; refine (put_any _ _ _ st.1 _ _ hsz hTi).mono ?_; rintro e w2 ⟨rfl, ht2⟩))
        obtain ⟨ht3, hb3⟩ := TabFrom.put hzr ht2
        go_ret2
        have h5 := HF.out (by rw [Hst.out]; exact Hpe.out)
        rw [Hst.out] at h5
        exact ⟨HW.out.trans ((hbi.trans hb3).mono (Nat.le_succ _)), fun h => absurd (h5 ▸ h) Hpe.out, fun _ => ret_err h5.symm⟩
     ·have hii : i = (ls (j + 1)).length := by omega
      have hst : loadTo ls (j + 1) = ((ls (j + 1)).take i).foldl (loadStep (j + 1)) (loadTo ls j) := by rw [hii, List.take_length]; rfl
      have Hst := Lib.hid hst
      clear hst
      have Hii := Lib.hid hii
      clear hii
      go_wp2_with fail
      go_roundw
      case rel => exact ⟨j + 1, by omega, by go_num, by rw [Hst.out]; exact hi0, by rw [Hst.out]; exact hTi, hbi⟩
      case measure => simp [intOf]; omega
  ·obtain rfl : j = 5 := by omega
   have hzr : w.heap.size + 1 ≤ wr.heap.size := by have := hb.size; have := HZ.out; omega
   go_wp2_with fail
   go_ret2
   exact ⟨HW.out.trans (hb.mono (Nat.le_succ _)), fun _ => ⟨rfl, hT⟩, fun h => absurd he0.out h⟩
abbrev k1 : ByteArray := ⟨#[107, 49]⟩
abbrev k2 : ByteArray := ⟨#[107, 50]⟩
def Few (L : Nat → List ByteArray) : Prop := ∀ k, (L k).length ≤ 4000
theorem few_nil : Few (fun _ => []) := fun _ => by simp
theorem few_put {L : Nat → List ByteArray} (h : Few L) (kd : Int) (s : ByteArray) : Few (putL L kd s) := by
 intro k
 unfold putL
 split
 ·next hc =>
  by_cases e : k = kd.toNat
  ·subst e; rw [upd_same]; simp; omega
  ·rw [upd_other _ _ e]; exact h k
 ·exact h k
theorem rof_any (k n : Int) (w : World) (h0 : 0 ≤ k) (h5 : k ≤ 7) (h1 : 0 ≤ n) (h2 : n < 8192) :
  Calls Tryz.prog 60 #[.int .i64 k, .int .i64 n] w fun e w' => e = .returned (.int .u16 (8192 * k + n)) ∧ w = w' := by
 go_enter Tryz.func60, Tryz.ntmps60
 go_wp2
 go_ret
 exact ⟨ret_int (by omega), rfl⟩

theorem rmay_any (s : ByteArray) (w : World) (hs : s.size ≤ maxLen) :
    Calls Tryz.prog 77 #[.string s] w fun e w' => e = .returned (.bool (mayB s)) ∧ w = w' := by
  unfold maxLen at hs
  by_cases h1 : s.size < 1
  · have e : mayB s = false := by simp [mayB]; omega
    have E := Lib.hid e; clear e
    go_enter Tryz.func77, Tryz.ntmps77
    go_wp2
    go_ret
    exact ⟨ret_bool E.out.symm, rfl⟩
  · by_cases h2 : 24 < s.size
    · have e : mayB s = false := by simp [mayB]; omega
      have E := Lib.hid e; clear e
      go_enter Tryz.func77, Tryz.ntmps77
      go_wp2
      go_ret
      exact ⟨ret_bool E.out.symm, rfl⟩
    · have d1 : decide ((s.size : Int) < 1) = false := by simp; omega
      have d2 : decide (24 < (s.size : Int)) = false := by simp; omega
      go_enter Tryz.func77, Tryz.ntmps77
      go_wp2
      go_loop [3, 4, 5] (fun i _ _ => ∃ k : Nat, k ≤ s.size ∧ i = .int .i64 k ∧ Hid (∀ j, (h : j < s.size) → j < k → okAt j s[j].toNat = true)) (fun i _ _ => s.size - (intOf i).toNat)
      case atStart => exact ⟨0, Nat.zero_le _, rfl, fun j _ hj => by omega⟩
      case round =>
        obtain ⟨k, hk, rfl, hall⟩ := hrel
        by_cases hlt : k < s.size
        · go_wp2
          all_goals first
            | (go_round
               case rel => exact ⟨k + 1, by omega, by go_num, may_step hall.out (by intro _; clear hall; grind [okAt])⟩
               case measure => simp [intOf]; omega)
            | (go_ret
               exact ⟨ret_bool (may_no s k hlt (by clear hall; grind [okAt])).symm, rfl⟩)
        · go_wp2
          go_ret
          exact ⟨ret_bool (may_yes s k (by omega) (by omega) (by omega) hall.out).symm, rfl⟩

theorem ret_ib {k : IntKind} {a b : Int} {x y : Bool} (h : a = b) (h' : x = y) : Ending.returned (.tuple #[.int k a, .bool x]) = .returned (.tuple #[.int k b, .bool y]) := by rw [h, h']

structure RTabG (w : World) (b : Nat) (L : Nat → List ByteArray) (S : Nat → Prop) (a : Nat → Option Addr) (cap : Nat → Nat) : Prop where
  sb : S b
  lt : ∀ j, S j → j < w.heap.size
  c1 : ∀ k, k < 6 → w.cell? ⟨b, k, none⟩ = some (.slice (a k) (L k).length (cap k))
  fr : ∀ k, w.frozen? ⟨b, k, none⟩ = false
  row : ∀ k, k < 6 → RowOf w (a k) ((L k).map .string)
  nil : ∀ k, k < 6 → a k = none → cap k = 0
  rowS : ∀ k, k < 6 → ∀ ad, a k = some ad → S ad.block ∧ ad.block ≠ b
def RTab (w : World) (b : Nat) (L : Nat → List ByteArray) (S : Nat → Prop) : Prop := ∃ a cap, RTabG w b L S a cap

theorem RTab.lt {w : World} {b : Nat} {L : Nat → List ByteArray} {S : Nat → Prop} (h : RTab w b L S) : ∀ j, S j → j < w.heap.size := by
 obtain ⟨a, cap, h⟩ := h; exact h.lt
theorem RTab.mono {w : World} {b : Nat} {L : Nat → List ByteArray} {S S' : Nat → Prop} (h : RTab w b L S) (hs : ∀ j, S j → S' j) (hl : ∀ j, S' j → j < w.heap.size) : RTab w b L S' := by
 obtain ⟨a, cap, h⟩ := h
 exact ⟨a, cap, hs _ h.sb, hl, h.c1, h.fr, h.row, h.nil, fun k hk ad e => ⟨hs _ (h.rowS k hk ad e).1, (h.rowS k hk ad e).2⟩⟩

theorem rfind_kind (b : Nat) (kd : Int) (s : ByteArray) (w : World) (h : kd < 1 ∨ 5 < kd) :
  Calls Tryz.prog 31 #[.pointer (some ⟨b, 0, none⟩), .int .i64 kd, .string s] w fun e w' =>
   e = .returned (.tuple #[.int .u16 0, .bool false]) ∧ w = w' := by
 by_cases h1 : kd < 1
 ·clear h
  go_enter Tryz.func31, Tryz.ntmps31
  go_wp2
  go_ret2
  exact ⟨rfl, rfl⟩
 ·have h2 : 5 < kd := by omega
  clear h
  go_enter Tryz.func31, Tryz.ntmps31
  go_wp2
  go_ret2
  exact ⟨rfl, rfl⟩

theorem posOf_at {s : ByteArray} {l : List ByteArray} {i : Nat} (h : l[i]? = some s) (hn : ∀ j, j < i → l[j]? ≠ some s) : posOf s l = i := posOf_of_get h hn

def posA (k : Nat) (s : ByteArray) (l : List ByteArray) : Int := if s ∈ l then 8192 * k + (posOf s l + 1) else 0
def memB (s : ByteArray) (l : List ByteArray) : Bool := decide (s ∈ l)

theorem rfind_in (b k n cap : Nat) (a : Option Addr) (s : ByteArray) (l : List ByteArray) (w : World) (h1 : 1 ≤ k) (h5 : k ≤ 5) (hl : Hid (l.length = n)) (hn : n ≤ 4000)
  (c1 : w.cell? ⟨b, k, none⟩ = some (.slice a n cap)) (hr : RowOf w a (l.map .string)) :
  Calls Tryz.prog 31 #[.pointer (some ⟨b, 0, none⟩), .int .i64 k, .string s] w fun e w' =>
   e = .returned (.tuple #[.int .u16 (posA k s l), .bool (memB s l)]) ∧ w = w' := by
 have d1 : decide ((k : Int) < 1) = false := by simp; omega
 have d2 : decide (5 < (k : Int)) = false := by simp; omega
 rcases hr with h0 | ⟨r, off, rfl, hcell⟩
 ·have hl0 : l = [] := by simpa using h0
  subst hl0
  have hn0 : n = 0 := by have := hl.out; simp at this; omega
  subst hn0
  clear hl h0
  go_enter Tryz.func31, Tryz.ntmps31
  go_wp2
  refine wp_loop_rounds 1 ?_
  rw [rounds_succ]
  go_wp2
  go_ret2
  exact ⟨ret_ib (by simp [posA]) (by simp [memB]), rfl⟩
 ·have HC := Lib.hid hcell
  clear hcell
  go_enter Tryz.func31, Tryz.ntmps31
  go_wp2
  go_loop [8] (fun t => ∃ i : Nat, i ≤ n ∧ t = .int .i64 i ∧ Hid (∀ j, j < i → l[j]? ≠ some s)) (fun t => n - (intOf t).toNat)
  case atStart => exact ⟨0, Nat.zero_le _, rfl, fun j hj => by omega⟩
  case round =>
   obtain ⟨i, hi, rfl, hall⟩ := hrel
   by_cases hlt : i < n
   ·have hil : i < l.length := by have := hl.out; omega
    have hc : w.cell? ⟨r, off + i, none⟩ = some (.string l[i]) := HC.out i _ (by simp [hil])
    have hget : Hid (l[i]? = some l[i]) := by show _ = _; simp [hil]
    generalize l[i] = x at hc hget
    by_cases he : x = s
    ·subst he
     have hin : Hid (x ∈ l) := List.mem_of_getElem? hget.out
     have hpos : Hid (posOf x l = i) := posOf_at hget.out hall.out
     go_wp2_with (go_at_call 60; refine (rof_any _ _ _ (by omega) (by omega) (by omega) (by omega)).mono ?_; rintro e w' ⟨rfl, rfl⟩)
     go_ret2
     exact ⟨ret_ib (by rw [posA, if_pos hin.out, hpos.out]) (by rw [memB, decide_eq_true hin.out]), rfl⟩
    ·have he2 := str_ne he
     have He := Lib.hid he
     clear he
     go_wp2_with fail
     go_round
     case rel => exact ⟨i + 1, by omega, by go_num, fun j hj hjs => by
      by_cases e : j = i
      ·subst e; rw [hget.out] at hjs; injection hjs with hjs; exact He.out hjs
      ·exact hall.out j (by omega) hjs⟩
     case measure => simp [intOf]; omega
   ·have hnin : Hid (s ∉ l) := by
     intro hin
     obtain ⟨j, hj, e⟩ := List.mem_iff_getElem.1 hin
     exact hall.out j (by have := hl.out; omega) (by simp [hj, e])
    go_wp2_with fail
    go_ret2
    exact ⟨ret_ib (by rw [posA, if_neg hnin.out]) (by rw [memB, decide_eq_false hnin.out]), rfl⟩

theorem rfind_any (b : Nat) (kd : Int) (s : ByteArray) (L : Nat → List ByteArray) (S : Nat → Prop) (w : World) (hT : RTab w b L S) (hm : ∀ k, (L k).length ≤ 4000) :
  Calls Tryz.prog 31 #[.pointer (some ⟨b, 0, none⟩), .int .i64 kd, .string s] w fun e w' =>
   e = .returned (.tuple #[.int .u16 (findA L kd s), .bool (findB L kd s)]) ∧ w = w' := by
 by_cases hk : kd < 1 ∨ 5 < kd
 ·have e1 : findB L kd s = false := by simp [findB]; omega
  have e2 : findA L kd s = 0 := by simp [findA, e1]
  rw [e1, e2]
  exact rfind_kind b kd s w hk
 ·obtain ⟨k, rfl⟩ := Int.eq_ofNat_of_zero_le (show 0 ≤ kd by omega)
  obtain ⟨a, cap, h⟩ := hT
  have e1 : findB L k s = memB s (L k) := by simp only [findB, memB, decide_eq_decide]; exact ⟨fun h => by simpa using h.2.2, fun h => ⟨by omega, by omega, by simpa using h⟩⟩
  have e2 : findA L k s = posA k s (L k) := by simp [findA, e1, posA, memB]
  rw [e1, e2]
  exact rfind_in b k _ _ _ s (L k) w (by omega) (by omega) rfl (hm k) (h.c1 k (by omega)) (h.row k (by omega))
structure RPutPost (w w' : World) (b k n : Nat) (xs : List Value) : Prop where
  rows : ∃ a cap, w'.cell? ⟨b, k, none⟩ = some (.slice a n cap) ∧ RowOf w' a xs ∧ (a = none → cap = 0) ∧ (∀ ad, a = some ad → w.heap.size ≤ ad.block ∧ ad.block < w'.heap.size)
  chg : Chg (fun j => j = b) w w'
  cells : ∀ o v, o ≠ k → w.cell? ⟨b, o, none⟩ = some v → w'.cell? ⟨b, o, none⟩ = some v
  frozen : ∀ o, w.frozen? ⟨b, o, none⟩ = false → w'.frozen? ⟨b, o, none⟩ = false

theorem rputPost_of {w w8 : World} {b k n c8 : Nat} {a8 : Option Addr} {xs : List Value} {u : Value} (hB : Below w.heap.size w w8) (hc : w.cell? ⟨b, k, none⟩ = some u) (hown : w8.ownsRow 0 9 1 (.slice a8 n c8) n xs)
  (hge : ∀ k, (Value.slice a8 n c8).ownBlock = some k → w.heap.size ≤ k) (hc8 : a8 = none → c8 = 0) : RPutPost w (w8.setCell ⟨b, k, none⟩ (.slice a8 n c8)) b k n xs := by
 have hb : b < w.heap.size := World.block_lt_of_cell? w _ hc
 have hc' : w8.cell? ⟨b, k, none⟩ = some u := by rw [hB.cell hb]; exact hc
 refine ⟨⟨a8, c8, World.cell?_setCell_same _ _ _ hc', ?_, hc8, ?_⟩, ?_, ?_, ?_⟩
 ·refine RowOf.of_owns (ownsRow_setCell_other hown (a := ⟨b, k, none⟩) ?_ _)
  intro e; have := hge _ e; simp at this; omega
 ·intro ad e
  subst e
  refine ⟨hge _ rfl, ?_⟩
  have := (hown.lt _ rfl).2
  simpa [World.setCell] using this
 ·exact (Chg.ext hB).setCell _ _ (fun _ => rfl)
 ·intro o v ho hv
  rw [World.cell?_setCell_other _ _ _ _ (by intro e; injection e; omega), hB.cell hb]; exact hv
 ·intro o hv
  rw [World.frozen?_setCell, hB.frozen hb]; exact hv

theorem rput_new (b k n cap : Nat) (a : Option Addr) (s : ByteArray) (l : List ByteArray) (w : World) (hs : s.size ≤ maxLen) (h1 : 1 ≤ k) (h5 : k ≤ 5) (hm : Hid (mayB s = true)) (hl : Hid (l.length = n)) (hn : n < 4000)
  (c1 : w.cell? ⟨b, k, none⟩ = some (.slice a n cap)) (f1 : w.frozen? ⟨b, k, none⟩ = false) (hr : Hid (RowOf w a (l.map .string))) (hc : Hid (a = none → cap = 0)) (hno : Hid (s ∉ l)) :
  Calls Tryz.prog 50 #[.pointer (some ⟨b, 0, none⟩), .int .i64 k, .string s] w fun e w' =>
   e = .returned (.tuple #[.int .u16 (8192 * k + (n + 1)), .int .i64 0]) ∧ RPutPost w w' b k (n + 1) (l.map .string ++ [.string s]) := by
 have d1 : decide ((k : Int) < 1) = false := by simp; omega
 have d2 : decide (5 < (k : Int)) = false := by simp; omega
 have h6 : ((k : Int) < 6) := by omega
 have h0 : ((0 : Int) ≤ k) := by omega
 have h6n : k < 6 := by omega
 have hb : b < w.heap.size := World.block_lt_of_cell? w _ c1
 have qa := fun o => cell_alloc c1 o
 have qb := fun o o' => cell_alloc (cell_alloc c1 o) o'
 have hmem : memB s l = false := by simp [memB, hno.out]
 obtain ⟨i0, hi, hz0, hz1, hz2⟩ := info_parts infoStr
 go_enter Tryz.func50, Tryz.ntmps50
 go_wp2_with (first
  | (go_at_call 77; refine (rmay_any _ _ hs).mono ?_; rintro e w' ⟨rfl, rfl⟩; rw [hm.out])
  | (go_at_call 31; refine (rfind_in b k n cap a s l _ h1 h5 hl (by omega) c1 hr.out).mono ?_; rintro e w' ⟨rfl, rfl⟩))
 have hl1 : Hid ((l.map Value.string).length = n * 1) := by have := hl.out; show _ = _; simp [this]
 have b1 : Hid (0 + n ≤ maxLen) := by show _ ≤ _; unfold maxLen; omega
 have b2 : Hid ((0 + n) * 16 ≤ 140737488355328) := by show _ ≤ _; omega
 have one1 : Hid (∀ u ∈ [Value.string s], u.oneCell' = true) := by intro u hu; simp at hu; subst hu; rfl
 have b3 : Hid (n + 1 ≤ maxLen) := by show _ ≤ _; unfold maxLen; omega
 have b4 : Hid ((n + 1) * 16 ≤ 140737488355328) := by show _ ≤ _; omega
 go_region_law (first
  | (refine step_append_row _ rfl (.tmp 38) (.tmp 44) 22 rfl 0 9 i0 (.string ByteArray.empty) 1 16 Tryz.underlying22 hi hz0 hz1 hz2 rfl (by decide) (.slice (some ⟨w.heap.size, 0, none⟩) 0 0) 0 [] ?_ ?_ a n cap (l.map .string) ?_ hl1.out ?_ hc.out (oneCell_strs l) b1.out b2.out (Nat.zero_le _) ?_; (· simp [Act.eval]); (· first | exact own_empty (hp_new w _) | exact own_empty (hp_new1 w _ _) | exact own_empty (hp_new2 w _ _)); (· simp [Act.eval]); (· first | exact hr.out.later (hp_old1 w _) | exact hr.out.later (hp_old2 w _ _)); intro a4 c4 w4 hown4 hgrow4 hat4 hc4; simp only [Nat.zero_add, List.nil_append] at hown4 hat4; have hB4 : Below w.heap.size w w4 := (by first | exact (bel1 w _).drew.grown hgrow4 (by simp) (some_ge (by first | exact Nat.le_refl _ | exact Nat.le_succ _)) | exact (bel2 w _ _).drew.grown hgrow4 (by simp; omega) (some_ge (by first | exact Nat.le_refl _ | exact Nat.le_succ _))); have hr4 : Hid (∀ k, (Value.slice a4 n c4).ownBlock = some k → w.heap.size ≤ k) := own_ge hat4 (some_ge (by first | exact Nat.le_refl _ | exact Nat.le_succ _)) (some_ge (by first | exact (bel1 w _).size | exact (bel2 w _ _).size)))
  | (refine step_append_row _ rfl (.tmp 38) (.tmp 44) 22 rfl 0 9 i0 (.string ByteArray.empty) 1 16 Tryz.underlying22 hi hz0 hz1 hz2 rfl (by decide) (.slice (some ⟨w.heap.size + 1, 0, none⟩) 0 0) 0 [] ?_ ?_ a n cap (l.map .string) ?_ hl1.out ?_ hc.out (oneCell_strs l) b1.out b2.out (Nat.zero_le _) ?_; (· simp [Act.eval]); (· first | exact own_empty (hp_new w _) | exact own_empty (hp_new1 w _ _) | exact own_empty (hp_new2 w _ _)); (· simp [Act.eval]); (· first | exact hr.out.later (hp_old1 w _) | exact hr.out.later (hp_old2 w _ _)); intro a4 c4 w4 hown4 hgrow4 hat4 hc4; simp only [Nat.zero_add, List.nil_append] at hown4 hat4; have hB4 : Below w.heap.size w w4 := (by first | exact (bel1 w _).drew.grown hgrow4 (by simp) (some_ge (by first | exact Nat.le_refl _ | exact Nat.le_succ _)) | exact (bel2 w _ _).drew.grown hgrow4 (by simp; omega) (some_ge (by first | exact Nat.le_refl _ | exact Nat.le_succ _))); have hr4 : Hid (∀ k, (Value.slice a4 n c4).ownBlock = some k → w.heap.size ≤ k) := own_ge hat4 (some_ge (by first | exact Nat.le_refl _ | exact Nat.le_succ _)) (some_ge (by first | exact (bel1 w _).size | exact (bel2 w _ _).size)))
  | (refine step_append_row _ rfl (.tmp 45) (.tmp 47) 22 rfl 0 9 i0 (.string ByteArray.empty) 1 16 Tryz.underlying22 hi hz0 hz1 hz2 rfl (by decide) (.slice a4 n c4) n (l.map .string) ?_ (hown4.alloc _) (some ⟨w4.heap.size, 0, none⟩) 1 1 [.string s] ?_ rfl ?_ (fun h => by cases h) one1.out b3.out b4.out (Nat.zero_le _) ?_; (· simp [Act.eval]); (· simp [Act.eval]); (· exact row_one (by simp)); intro a8 c8 w8 hown8 hgrow8 hat8 hc8; have hB8 : Below w.heap.size w w8 := (hB4.alloc hB4.size _).grown hgrow8 (by have := hB4.size; simp; omega) hr4.out; have hr8 : Hid (∀ k, (Value.slice a8 (n + 1) c8).ownBlock = some k → w.heap.size ≤ k) := own_ge hat8 hr4.out (some_ge (by first | exact hB4.size | exact (hB4.alloc hB4.size _).size)); have q1 : w8.cell? ⟨b, k, none⟩ = some (.slice a n cap) := (by rw [hB8.cell hb]; exact c1); have q2 : w8.frozen? ⟨b, k, none⟩ = false := (by rw [hB8.frozen hb]; exact f1))
  | (refine step_append_row _ rfl (.tmp 45) (.tmp 47) 22 rfl 0 9 i0 (.string ByteArray.empty) 1 16 Tryz.underlying22 hi hz0 hz1 hz2 rfl (by decide) (.slice a4 n c4) n (l.map .string) ?_ hown4 (some ⟨w.heap.size + 1, 0, none⟩) 1 1 [.string s] ?_ rfl ?_ (fun h => by cases h) one1.out b3.out b4.out (Nat.zero_le _) ?_; (· simp [Act.eval]); (· simp [Act.eval]); (· exact row_one (grow_cell hgrow4 (cell_new2 w _ _ _) (by simp [Value.ownBlock]))); intro a8 c8 w8 hown8 hgrow8 hat8 hc8; have hB8 : Below w.heap.size w w8 := hB4.grown hgrow8 hB4.size hr4.out; have hr8 : Hid (∀ k, (Value.slice a8 (n + 1) c8).ownBlock = some k → w.heap.size ≤ k) := own_ge hat8 hr4.out (some_ge (by first | exact hB4.size | exact (hB4.alloc hB4.size _).size)); have q1 : w8.cell? ⟨b, k, none⟩ = some (.slice a n cap) := (by rw [hB8.cell hb]; exact c1); have q2 : w8.frozen? ⟨b, k, none⟩ = false := (by rw [hB8.frozen hb]; exact f1))
  | (refine step_append_row _ rfl (.tmp 45) (.tmp 47) 22 rfl 0 9 i0 (.string ByteArray.empty) 1 16 Tryz.underlying22 hi hz0 hz1 hz2 rfl (by decide) (.slice a4 n c4) n (l.map .string) ?_ hown4 (some ⟨w.heap.size, 0, none⟩) 1 1 [.string s] ?_ rfl ?_ (fun h => by cases h) one1.out b3.out b4.out (Nat.zero_le _) ?_; (· simp [Act.eval]); (· simp [Act.eval]); (· exact row_one (grow_cell hgrow4 (cell_new1 w _ _ _) (by simp [Value.ownBlock]))); intro a8 c8 w8 hown8 hgrow8 hat8 hc8; have hB8 : Below w.heap.size w w8 := hB4.grown hgrow8 hB4.size hr4.out; have hr8 : Hid (∀ k, (Value.slice a8 (n + 1) c8).ownBlock = some k → w.heap.size ≤ k) := own_ge hat8 hr4.out (some_ge (by first | exact hB4.size | exact (hB4.alloc hB4.size _).size)); have q1 : w8.cell? ⟨b, k, none⟩ = some (.slice a n cap) := (by rw [hB8.cell hb]; exact c1); have q2 : w8.frozen? ⟨b, k, none⟩ = false := (by rw [hB8.frozen hb]; exact f1)))
 all_goals
  clear qa qb
  go_wp2_with (go_at_call 60; refine (rof_any _ _ _ (by omega) (by omega) (by omega) (by omega)).mono ?_; rintro e w' ⟨rfl, rfl⟩)
  go_ret2
  exact ⟨rfl, rputPost_of hB8 c1 hown8 hr8.out hc8⟩

theorem rput_kind (b : Nat) (kd : Int) (s : ByteArray) (w : World) (h : kd < 1 ∨ 5 < kd) :
  Calls Tryz.prog 50 #[.pointer (some ⟨b, 0, none⟩), .int .i64 kd, .string s] w fun e w' => e = .returned (.tuple #[.int .u16 0, .int .i64 1]) ∧ w = w' := by
 by_cases h1 : kd < 1
 ·clear h
  go_enter Tryz.func50, Tryz.ntmps50
  go_wp2_with fail
  go_ret2
  exact ⟨rfl, rfl⟩
 ·have h2 : 5 < kd := by omega
  clear h
  go_enter Tryz.func50, Tryz.ntmps50
  go_wp2_with fail
  go_ret2
  exact ⟨rfl, rfl⟩

theorem rput_form (b k : Nat) (s : ByteArray) (w : World) (hs : s.size ≤ maxLen) (h1 : 1 ≤ k) (h5 : k ≤ 5) (hm : Hid (mayB s = false)) :
  Calls Tryz.prog 50 #[.pointer (some ⟨b, 0, none⟩), .int .i64 k, .string s] w fun e w' => e = .returned (.tuple #[.int .u16 0, .int .i64 2]) ∧ w = w' := by
 have d1 : decide ((k : Int) < 1) = false := by simp; omega
 have d2 : decide (5 < (k : Int)) = false := by simp; omega
 go_enter Tryz.func50, Tryz.ntmps50
 go_wp2_with (go_at_call 77; refine (rmay_any _ _ hs).mono ?_; rintro e w' ⟨rfl, rfl⟩; rw [hm.out])
 go_ret2
 exact ⟨rfl, rfl⟩

theorem rput_found (b k n cap : Nat) (a : Option Addr) (s : ByteArray) (l : List ByteArray) (w : World) (hs : s.size ≤ maxLen) (h1 : 1 ≤ k) (h5 : k ≤ 5) (hm : Hid (mayB s = true)) (hl : Hid (l.length = n)) (hn : n ≤ 4000)
  (c1 : w.cell? ⟨b, k, none⟩ = some (.slice a n cap)) (hr : Hid (RowOf w a (l.map .string))) (hin : Hid (s ∈ l)) :
  Calls Tryz.prog 50 #[.pointer (some ⟨b, 0, none⟩), .int .i64 k, .string s] w fun e w' => e = .returned (.tuple #[.int .u16 (posA k s l), .int .i64 0]) ∧ w = w' := by
 have d1 : decide ((k : Int) < 1) = false := by simp; omega
 have d2 : decide (5 < (k : Int)) = false := by simp; omega
 have hmem : memB s l = true := by simp [memB, hin.out]
 go_enter Tryz.func50, Tryz.ntmps50
 go_wp2_with (first
  | (go_at_call 77; refine (rmay_any _ _ hs).mono ?_; rintro e w' ⟨rfl, rfl⟩; rw [hm.out])
  | (go_at_call 31; refine (rfind_in b k n cap a s l _ h1 h5 hl hn c1 hr.out).mono ?_; rintro e w' ⟨rfl, rfl⟩))
 go_ret2
 exact ⟨rfl, rfl⟩

theorem rput_full (b k n cap : Nat) (a : Option Addr) (s : ByteArray) (l : List ByteArray) (w : World) (hs : s.size ≤ maxLen) (h1 : 1 ≤ k) (h5 : k ≤ 5) (hm : Hid (mayB s = true)) (hl : Hid (l.length = n)) (hn : n ≤ 4000) (hn2 : 4000 ≤ n)
  (c1 : w.cell? ⟨b, k, none⟩ = some (.slice a n cap)) (hr : Hid (RowOf w a (l.map .string))) (hin : Hid (s ∉ l)) :
  Calls Tryz.prog 50 #[.pointer (some ⟨b, 0, none⟩), .int .i64 k, .string s] w fun e w' => e = .returned (.tuple #[.int .u16 0, .int .i64 3]) ∧ w = w' := by
 have d1 : decide ((k : Int) < 1) = false := by simp; omega
 have d2 : decide (5 < (k : Int)) = false := by simp; omega
 have hmem : memB s l = false := by simp [memB, hin.out]
 go_enter Tryz.func50, Tryz.ntmps50
 go_wp2_with (first
  | (go_at_call 77; refine (rmay_any _ _ hs).mono ?_; rintro e w' ⟨rfl, rfl⟩; rw [hm.out])
  | (go_at_call 31; refine (rfind_in b k n cap a s l _ h1 h5 hl hn c1 hr.out).mono ?_; rintro e w' ⟨rfl, rfl⟩))
 go_ret2
 exact ⟨rfl, rfl⟩

def RTabTurned (S : Nat → Prop) (b : Nat) (L' : Nat → List ByteArray) (w w' : World) : Prop := RTab w' b L' (Since S w w') ∧ Chg S w w'
theorem RTabTurned.same {S : Nat → Prop} {b : Nat} {L : Nat → List ByteArray} {w : World} (h : RTab w b L S) : RTabTurned S b L w w :=
 ⟨h.mono (fun _ hj => .inl hj) (by rintro j (hj | hj); exact h.lt j hj; omega), Chg.refl _ _⟩

theorem RTabG.put {w w' : World} {b : Nat} {L : Nat → List ByteArray} {S : Nat → Prop} {a : Nat → Option Addr} {cap : Nat → Nat} (h : RTabG w b L S a cap) {k : Nat} (_hk : k < 6) (s : ByteArray)
  (p : RPutPost w w' b k ((L k).length + 1) ((L k).map .string ++ [.string s])) : RTab w' b (upd L k (L k ++ [s])) (Since S w w') := by
 obtain ⟨a', c', e1, e2, e3, e4⟩ := p.rows
 have hbl : b < w.heap.size := h.lt b h.sb
 refine ⟨fun j => if j = k then a' else a j, fun j => if j = k then c' else cap j, .inl h.sb, ?_, ?_, fun j => p.frozen j (h.fr j), ?_, ?_, ?_⟩
 ·rintro j (hj | hj)
  ·exact Nat.lt_of_lt_of_le (h.lt j hj) p.chg.size
  ·exact hj.2
 ·intro j hj
  by_cases e : j = k
  ·subst e; simp only [if_true, upd_same]; simpa using e1
  ·simp only [if_neg e, upd_other _ _ e]; exact p.cells _ _ e (h.c1 j hj)
 ·intro j hj
  by_cases e : j = k
  ·subst e; simp only [if_true, upd_same]; simpa using e2
  ·simp only [if_neg e, upd_other _ _ e]
   exact (h.row j hj).kept p.chg (fun ad he => (h.rowS j hj ad he).2)
 ·intro j hj
  by_cases e : j = k
  ·subst e; simpa using e3
  ·simp only [if_neg e]; exact h.nil j hj
 ·intro j hj ad
  by_cases e : j = k
  ·subst e
   simp only [if_true]
   intro he
   have := e4 ad he
   exact ⟨.inr this, by omega⟩
  ·simp only [if_neg e]; intro he; exact ⟨.inl (h.rowS j hj ad he).1, (h.rowS j hj ad he).2⟩

theorem rput_any (b : Nat) (kd : Int) (s : ByteArray) (L : Nat → List ByteArray) (S : Nat → Prop) (w : World) (hs : s.size ≤ maxLen) (hT : RTab w b L S) (hf : ∀ k, (L k).length ≤ 4000) :
  Calls Tryz.prog 50 #[.pointer (some ⟨b, 0, none⟩), .int .i64 kd, .string s] w fun e w' =>
   e = .returned (.tuple #[.int .u16 (putA L kd s), .int .i64 (putE L kd s)]) ∧ RTabTurned S b (putL L kd s) w w' := by
 by_cases hk : kd < 1 ∨ 5 < kd
 ·have e1 : putE L kd s = 1 := by simp [putE, hk]
  have e2 : putA L kd s = 0 := by simp [putA, e1]
  have e3 : putL L kd s = L := by unfold putL; rw [if_neg (by omega)]
  rw [e1, e2, e3]
  refine (rput_kind b kd s w hk).mono ?_
  rintro e w' ⟨rfl, rfl⟩
  exact ⟨rfl, .same hT⟩
 ·obtain ⟨k, rfl⟩ := Int.eq_ofNat_of_zero_le (show 0 ≤ kd by omega)
  have h1 : 1 ≤ k := by omega
  have h5 : k ≤ 5 := by omega
  by_cases hm : mayB s = true
  ·obtain ⟨a, cap, h⟩ := hT
   have hT : RTab w b L S := ⟨a, cap, h⟩
   by_cases hin : s ∈ L k
   ·have e1 : putE L k s = 0 := by simp [putE, hk, hm, hin]
    have e2 : putA L k s = posA k s (L k) := by simp [putA, e1, posA, hin]
    have e3 : putL L k s = L := by unfold putL; rw [if_neg (by simp [hin])]
    rw [e1, e2, e3]
    refine (rput_found b k _ _ _ s (L k) w hs h1 h5 hm rfl (hf k) (h.c1 k (by omega)) (h.row k (by omega)) hin).mono ?_
    rintro e w' ⟨rfl, rfl⟩
    exact ⟨rfl, .same hT⟩
   ·by_cases hl : (L k).length < 4000
    ·have e1 : putE L k s = 0 := by simp [putE, hk, hm, hin, hl]
     have e2 : putA L k s = 8192 * k + ((L k).length + 1) := by simp [putA, e1, posOf_none hin]
     have e3 : putL L k s = upd L k (L k ++ [s]) := by unfold putL; rw [if_pos ⟨by omega, by omega, hm, by simpa using hin, by simpa using hl⟩]; simp
     rw [e1, e2, e3]
     refine (rput_new b k _ _ _ s (L k) w hs h1 h5 hm rfl hl (h.c1 k (by omega)) (h.fr k) (h.row k (by omega)) (h.nil k (by omega)) hin).mono ?_
     rintro e w' ⟨rfl, p⟩
     exact ⟨rfl, h.put (k := k) (by omega) s p, p.chg.mono (fun j _ e => by rw [e]; exact h.sb)⟩
    ·have e1 : putE L k s = 3 := by simp [putE, hk, hm, hin, hl]
     have e2 : putA L k s = 0 := by simp [putA, e1]
     have e3 : putL L k s = L := by unfold putL; rw [if_neg (by simp; omega)]
     rw [e1, e2, e3]
     refine (rput_full b k _ _ _ s (L k) w hs h1 h5 hm rfl (hf k) (by omega) (h.c1 k (by omega)) (h.row k (by omega)) hin).mono ?_
     rintro e w' ⟨rfl, rfl⟩
     exact ⟨rfl, .same hT⟩
  ·have hm : mayB s = false := by simpa using hm
   have e1 : putE L k s = 2 := by simp [putE, hk, hm]
   have e2 : putA L k s = 0 := by simp [putA, e1]
   have e3 : putL L k s = L := by unfold putL; rw [if_neg (by simp [hm])]
   rw [e1, e2, e3]
   refine (rput_form b k s w hs h1 h5 hm).mono ?_
   rintro e w' ⟨rfl, rfl⟩
   exact ⟨rfl, .same hT⟩

end Go.Proofs.YtedaffmkpljlnaaGreat
