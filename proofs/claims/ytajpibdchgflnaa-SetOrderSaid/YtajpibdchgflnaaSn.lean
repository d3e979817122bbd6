/- slices.Concat of two sets. -/
import Derived.Test.YtajpibdchgflnaaSl
import Derived.Test.YtajpibdchgflnaaLgG
namespace Go.Proofs.Ytajpibdchgflnaa
set_option linter.unusedSimpArgs false
set_option linter.unusedVariables false
open Go.RowKit Go.Lib Go.Sort Go.Shelf

theorem grow_any (m : Nat) (w : World) (hm : m ≤ 1000000) : Calls Try.prog 101 #[.slice none 0 0, .int .i64 m] w fun e w' => ∃ a c, e = .returned (.slice a 0 c) ∧ w'.ownsRow w.heap.size 36 1 (.slice a 0 c) 0 [] ∧ Below w.heap.size w w' := by
  by_cases h0 : m = 0
  · subst h0
    refine (Any8.slices_Grow_room lGrow none 0 0 0 w (Nat.le_refl _) (by decide) (by decide) (by decide)).mono ?_
    rintro e w' ⟨rfl, rfl⟩
    exact ⟨none, 0, rfl, ⟨rfl, .inl ⟨rfl, rfl⟩⟩, Below.refl _ _⟩
  · obtain ⟨i0, z, hi0, hz, hz1, hz2, hzs, _⟩ := elem_of (P := Try.prog) (e := 36) (sz := 1) (bytes := 16) (by kernel_rfl)
    refine (Any8.slices_Grow_grow lGrow i0 z hi0 hz (by omega) none 0 0 m [] w (Nat.le_refl _) (by omega) (by rw [hz2]; omega) (by omega) (by simp) (fun _ => rfl) (fun _ h => nomatch h)).mono ?_
    rintro e w' ⟨rfl, rfl⟩
    refine ⟨_, _, rfl, ⟨rfl, .inr ⟨w.heap.size, grownCap w (0 + m) 0 36, ([] : List Value).toArray ++ Builtin.zeroCells z.cells (0 + m - 0) ++ Builtin.zeroCells z.cells (grownCap w (0 + m) 0 36 - (0 + m)), rfl, Nat.le_refl _, ?_, Nat.zero_le _, grownCap_le_maxLen _ _ _ _ (by unfold maxLen; omega), ?_, by simp⟩⟩, ?_⟩
    · simp only [World.alloc, World.drew]
      rw [Array.getElem?_push_size]
      rfl
    · have := grownCap_ge w (0 + m) 0 36
      simp only [Array.size_append, List.size_toArray, size_zeroCells, hzs, List.length_nil]
      omega
    · exact (show Below w.heap.size w w.drew from ⟨rfl, rfl, rfl, Nat.le_refl _, fun _ _ => rfl⟩).alloc (Nat.le_refl _) _
theorem ownr_ge {w : World} {B e n : Nat} {v : Value} {xs : List Value} (h : w.ownsRow B e 1 v n xs) : ∀ k, v.ownBlock = some k → B ≤ k := by
  intro k hk
  rcases h.2 with ⟨rfl, _⟩ | ⟨g, c, cur, rfl, hg, _⟩
  · cases hk
  · cases hk; exact hg
set_option maxRecDepth 100000 in
set_option maxHeartbeats 2000000 in
theorem concat_any (rb off cap n1 n2 c1 c2 m b1 b2 o1 o2 : Nat) (l1 l2 : List ByteArray) (w : World) (hm : Hid (m = n1 + n2)) (h1 : n1 ≤ 1000) (h2 : n2 ≤ 1000) (hl1 : Hid (l1.length = n1)) (hl2 : Hid (l2.length = n2))
    (q1 : w.cell? ⟨rb, off, none⟩ = some (.slice (some ⟨b1, o1, none⟩) n1 c1)) (q2 : w.cell? ⟨rb, off + 1, none⟩ = some (.slice (some ⟨b2, o2, none⟩) n2 c2)) (r1 : Hid (RowOf w (some ⟨b1, o1, none⟩) (l1.map .string))) (r2 : Hid (RowOf w (some ⟨b2, o2, none⟩) (l2.map .string))) :
    Calls Try.prog 66 #[.slice (some ⟨rb, off, none⟩) 2 cap] w fun e w' => ∃ a c, e = .returned (.slice a m c) ∧ w'.ownsRow w.heap.size 36 1 (.slice a m c) m ((l1 ++ l2).map .string) ∧ Below w.heap.size w w' := by
  have s1 : wrap64 ((n1 : Int) + (n2 : Int)) = (m : Int) := by have := hm.out; unfold wrap64; omega
  have s0 : wrap64 (0 + (n1 : Int)) = (n1 : Int) := by unfold wrap64; omega
  have g1 : decide ((n1 : Int) < 0) = false := by simp
  have g2 : decide ((m : Int) < 0) = false := by simp
  obtain ⟨i0, z, hi, hz0, hz1, hz2, hzs, _⟩ := elem_of (P := Try.prog) (e := 36) (sz := 1) (bytes := 16) (by kernel_rfl)
  go_enter Try.func66, Try.ntmps66
  go_wp2_with fail
  go_loopw [3, 11] (fun t u wr => w = wr ∧ ((u = .int .i64 0 ∧ t = .int .i64 0) ∨ (u = .int .i64 1 ∧ t = .int .i64 n1) ∨ (u = .int .i64 2 ∧ t = .int .i64 m))) (fun _ u _ => 2 - (intOf u).toNat)
  case atStart => exact ⟨rfl, .inl ⟨rfl, rfl⟩⟩
  case round =>
    obtain ⟨rfl, ⟨rfl, rfl⟩ | ⟨rfl, rfl⟩ | ⟨rfl, rfl⟩⟩ := hrel
    · go_wp2_with fail
      exact ⟨⟨by simp, .inr (.inl ⟨rfl, rfl⟩)⟩, by decide⟩
    · go_wp2_with fail
      exact ⟨⟨by simp, .inr (.inr ⟨rfl, by rw [show (m : Int) = n1 + n2 by have := hm.out; omega]⟩)⟩, by decide⟩
    · go_wp2_with fail
      refine (grow_any m _ (by have := hm.out; omega)).mono ?_
      rintro e w1 ⟨a, c, rfl, hown, hb⟩
      have HO := Lib.hid hown
      have HB := Lib.hid hb
      clear hown hb
      go_wp2_with fail
      go_loopw [6, 27] (fun t u wr' => Hid (Below w.heap.size w wr') ∧ ((u = .int .i64 0 ∧ ∃ a c, t = .slice a 0 c ∧ Hid (wr'.ownsRow w.heap.size 36 1 (.slice a 0 c) 0 [])) ∨ (u = .int .i64 1 ∧ ∃ a c, t = .slice a n1 c ∧ Hid (wr'.ownsRow w.heap.size 36 1 (.slice a n1 c) n1 (l1.map .string))) ∨ (u = .int .i64 2 ∧ ∃ a c, t = .slice a m c ∧ Hid (wr'.ownsRow w.heap.size 36 1 (.slice a m c) m ((l1 ++ l2).map .string))))) (fun _ u _ => 2 - (intOf u).toNat)
      case atStart => exact ⟨HB, .inl ⟨rfl, a, c, rfl, HO⟩⟩
      case round =>
        clear HO HB
        obtain ⟨HB, ⟨rfl, a, c, rfl, HO⟩ | ⟨rfl, a, c, rfl, HO⟩ | ⟨rfl, a, c, rfl, HO⟩⟩ := hrel
        · have p1 : wr.cell? ⟨rb, off, none⟩ = some (.slice (some ⟨b1, o1, none⟩) n1 c1) := by rw [HB.out.cell (World.block_lt_of_cell? w _ q1)]; exact q1
          go_wp2_with (at_builtin; refine wpList_append_row _ rfl _ _ 23 rfl w.heap.size 36 i0 z 1 16 Try.underlying23 hi hz0 hz1 hz2 hzs (by decide) (.slice a 0 c) 0 ([]) rfl HO.out (some ⟨b1, o1, none⟩) n1 c1 (l1.map .string) rfl (by rw [List.length_map, hl1.out, Nat.mul_one]) (r1.out.ext HB.out) (fun h => nomatch h) (fun u hu => by obtain ⟨s, _, rfl⟩ := List.mem_map.1 hu; rfl) (by unfold maxLen; omega) (by omega) HB.out.size ?_; intro a' cap' w2 hown hgrow _ _; have HO2 := Lib.hid hown; have HB2 := Lib.hid (HB.out.grown hgrow HB.out.size (ownr_ge HO.out)); clear hown hgrow)
          exact ⟨⟨HB2, .inr (.inl ⟨rfl, a', cap', rfl, by have := HO2.out; rw [Nat.zero_add, List.nil_append] at this; exact this⟩)⟩, by decide⟩
        · have p1 : wr.cell? ⟨rb, off + 1, none⟩ = some (.slice (some ⟨b2, o2, none⟩) n2 c2) := by rw [HB.out.cell (World.block_lt_of_cell? w _ q2)]; exact q2
          go_wp2_with (at_builtin; refine wpList_append_row _ rfl _ _ 23 rfl w.heap.size 36 i0 z 1 16 Try.underlying23 hi hz0 hz1 hz2 hzs (by decide) (.slice a n1 c) n1 (l1.map .string) rfl HO.out (some ⟨b2, o2, none⟩) n2 c2 (l2.map .string) rfl (by rw [List.length_map, hl2.out, Nat.mul_one]) (r2.out.ext HB.out) (fun h => nomatch h) (fun u hu => by obtain ⟨s, _, rfl⟩ := List.mem_map.1 hu; rfl) (by unfold maxLen; omega) (by omega) HB.out.size ?_; intro a' cap' w2 hown hgrow _ _; have HO2 := Lib.hid hown; have HB2 := Lib.hid (HB.out.grown hgrow HB.out.size (ownr_ge HO.out)); clear hown hgrow)
          exact ⟨⟨HB2, .inr (.inr ⟨rfl, a', cap', by rw [hm.out], by have := HO2.out; rw [← hm.out, ← List.map_append] at this; exact this⟩)⟩, by decide⟩
        · go_wp2_with fail
          go_ret
          exact ⟨a, c, rfl, HO.out, HB.out⟩
theorem rep_some {g : Gh} {v : Value} {f : Fl} {n : Nat} {x : AV} {l : List AV} (h : Rep g v (.lst f n (x :: l))) : ∃ b off c vs, v = .slice (some ⟨b, off, none⟩) n c ∧ CellsAt g b off vs ∧ n ≤ c ∧ RepL g vs (x :: l) := by
  cases h with
  | lst b off n c f vs l h1 h2 h3 h4 h5 => exact ⟨b, off, c, vs, rfl, h1, h3, h5⟩
theorem rep_somes {P : Program} {g : Gh} {h : Hp} {w : World} {v : Value} {f : Fl} {l : List ByteArray} (hs : Sim P g h w) (hl : l ≠ []) (hr : Rep g v (.lst f l.length (l.map .str))) :
    ∃ b off c, v = .slice (some ⟨b, off, none⟩) l.length c ∧ RowOf w (some ⟨b, off, none⟩) (l.map .string) := by
  obtain ⟨a, c, rfl, h2⟩ := rep_strs hs hr
  cases l with
  | nil => exact absurd rfl hl
  | cons x l =>
    obtain ⟨b, off, c', vs, h3, _⟩ := rep_some hr
    cases h3
    exact ⟨b, off, c, rfl, h2⟩
theorem p_concat (l1 l2 : List ByteArray) (h1 : l1 ≠ []) (h2 : l2 ≠ []) (k1 : l1.length ≤ 1000) (k2 : l2.length ≤ 1000) :
    PCalls Try.prog 66 [.lst .ro 2 [.lst .ro l1.length (l1.map .str), .lst .ro l2.length (l2.map .str)]] (.lst .ro (l1 ++ l2).length ((l1 ++ l2).map .str)) := by
  refine pcalls_calls (by simp [free, free.frees, frees_str]) (by simp only [free]; exact frees_str _) (by simp [plain]) (by kernel_rfl) ?_
  intro g w vargs hsim hr
  obtain ⟨v, vs, rfl, hv, hvs⟩ : ∃ v vs, vargs = v :: vs ∧ Rep g v (.lst .ro 2 [.lst .ro l1.length (l1.map .str), .lst .ro l2.length (l2.map .str)]) ∧ RepL g vs [] := by
    cases hr with
    | cons h1 h2 => exact ⟨_, _, rfl, h1, h2⟩
  cases hvs
  obtain ⟨rb, off, cap, cs, rfl, hcs, hcap, hcr⟩ := rep_some hv
  obtain ⟨x1, x2, rfl, hx1, hx2⟩ : ∃ x1 x2, cs = [x1, x2] ∧ Rep g x1 (.lst .ro l1.length (l1.map .str)) ∧ Rep g x2 (.lst .ro l2.length (l2.map .str)) := by
    cases hcr with
    | cons q1 q2 =>
      cases q2 with
      | cons q3 q4 => cases q4; exact ⟨_, _, rfl, q1, q3⟩
  obtain ⟨b1, o1, c1, rfl, r1⟩ := rep_somes hsim h1 hx1
  obtain ⟨b2, o2, c2, rfl, r2⟩ := rep_somes hsim h2 hx2
  obtain ⟨hc, _⟩ := hsim.cellsAt hcs
  refine (concat_any rb off cap l1.length l2.length c1 c2 (l1 ++ l2).length b1 b2 o1 o2 l1 l2 w (by show _ = _; simp) k1 k2 rfl rfl (hc 0 _ rfl) (hc 1 _ rfl) r1 r2).mono ?_
  rintro e w' ⟨a, c, rfl, hown, hb⟩
  refine ⟨_, rfl, hb, ?_⟩
  obtain ⟨hlen, ⟨_, h0⟩ | ⟨gb, cap', cur, hv', hge, hblk, hnc, _, _, htake⟩⟩ := hown
  · simp at h0; exact absurd h0.1 h1
  · cases hv'
    refine rep_new hge hnc (fun h => nomatch h) (fun i s hi => ?_)
    have hil : i < (l1 ++ l2).length := (List.getElem?_eq_some_iff.1 hi).1
    have ht : (cur.toList.take ((l1 ++ l2).length * 1))[i]? = ((l1 ++ l2).map Value.string)[i]? := by rw [htake]
    rw [Nat.mul_one, List.getElem?_take_of_lt hil, List.getElem?_map, hi] at ht
    rw [cell_of_row w' gb i cur _ (0, 0) hblk]
    simpa using ht
end Go.Proofs.Ytajpibdchgflnaa
