/- Texts of one proof, laid together: Sn Su Sv Sx. -/
import Derived.Test.YtpiofcjkekpboaaMA18
import Derived.Test.YtpiofcjkekpboaaMA1
import Derived.Test.YtpiofcjkekpboaaMA15

/- slices.Concat of two sets. -/
namespace Go.Proofs.Ytpiofcjkekpboaa
set_option linter.unusedSimpArgs false
set_option linter.unusedVariables false
open Go.RowKit Go.Lib Go.Sort Go.Shelf

theorem grow_any (m : Nat) (w : World) (hm : m ≤ 1000000) : Calls Try.prog 104 #[.slice none 0 0, .int .i64 m] w fun e w' => ∃ a c, e = .returned (.slice a 0 c) ∧ w'.ownsRow w.heap.size 72 1 (.slice a 0 c) 0 [] ∧ Below w.heap.size w w' := by
  by_cases h0 : m = 0
  · subst h0
    refine (Any8.slices_Grow_room lGrow none 0 0 0 w (Nat.le_refl _) (by decide) (by decide) (by decide)).mono ?_
    rintro e w' ⟨rfl, rfl⟩
    exact ⟨none, 0, rfl, ⟨rfl, .inl ⟨rfl, rfl⟩⟩, Below.refl _ _⟩
  · obtain ⟨i0, z, hi0, hz, hz1, hz2, hzs, _⟩ := elem_of (P := Try.prog) (e := 72) (sz := 1) (bytes := 16) (by kernel_rfl)
    refine (Any8.slices_Grow_grow lGrow i0 z hi0 hz (by omega) none 0 0 m [] w (Nat.le_refl _) (by omega) (by rw [hz2]; omega) (by omega) (by simp) (fun _ => rfl) (fun _ h => nomatch h)).mono ?_
    rintro e w' ⟨rfl, rfl⟩
    refine ⟨_, _, rfl, ⟨rfl, .inr ⟨w.heap.size, grownCap w (0 + m) 0 72, ([] : List Value).toArray ++ Builtin.zeroCells z.cells (0 + m - 0) ++ Builtin.zeroCells z.cells (grownCap w (0 + m) 0 72 - (0 + m)), rfl, Nat.le_refl _, ?_, Nat.zero_le _, grownCap_le_maxLen _ _ _ _ (by unfold maxLen; omega), ?_, by simp⟩⟩, ?_⟩
    · simp only [World.alloc, World.drew]
      rw [Array.getElem?_push_size]
      rfl
    · have := grownCap_ge w (0 + m) 0 72
      simp only [Array.size_append, List.size_toArray, size_zeroCells, hzs, List.length_nil]
      omega
    · exact (show Below w.heap.size w w.drew from ⟨rfl, rfl, rfl, Nat.le_refl _, fun _ _ => rfl⟩).alloc (Nat.le_refl _) _
theorem ownr_ge {w : World} {B e n : Nat} {v : Value} {xs : List Value} (h : w.ownsRow B e 1 v n xs) : ∀ k, v.ownBlock = some k → B ≤ k := by
  intro k hk
  rcases h.2 with ⟨rfl, _⟩ | ⟨g, c, cur, rfl, hg, _⟩
  · cases hk
  · cases hk; exact hg
set_option maxRecDepth 100000 in
set_option maxHeartbeats 2000000 in
theorem concat_any (rb off cap n1 n2 c1 c2 m b1 b2 o1 o2 : Nat) (l1 l2 : List ByteArray) (w : World) (hm : Hid (m = n1 + n2)) (h1 : n1 ≤ 1000) (h2 : n2 ≤ 1000) (hl1 : Hid (l1.length = n1)) (hl2 : Hid (l2.length = n2))
    (q1 : w.cell? ⟨rb, off, none⟩ = some (.slice (some ⟨b1, o1, none⟩) n1 c1)) (q2 : w.cell? ⟨rb, off + 1, none⟩ = some (.slice (some ⟨b2, o2, none⟩) n2 c2)) (r1 : Hid (RowOf w (some ⟨b1, o1, none⟩) (l1.map .string))) (r2 : Hid (RowOf w (some ⟨b2, o2, none⟩) (l2.map .string))) :
    Calls Try.prog 77 #[.slice (some ⟨rb, off, none⟩) 2 cap] w fun e w' => ∃ a c, e = .returned (.slice a m c) ∧ w'.ownsRow w.heap.size 72 1 (.slice a m c) m ((l1 ++ l2).map .string) ∧ Below w.heap.size w w' := by
  have s1 : wrap64 ((n1 : Int) + (n2 : Int)) = (m : Int) := by have := hm.out; unfold wrap64; omega
  have s0 : wrap64 (0 + (n1 : Int)) = (n1 : Int) := by unfold wrap64; omega
  have g1 : decide ((n1 : Int) < 0) = false := by simp
  have g2 : decide ((m : Int) < 0) = false := by simp
  obtain ⟨i0, z, hi, hz0, hz1, hz2, hzs, _⟩ := elem_of (P := Try.prog) (e := 72) (sz := 1) (bytes := 16) (by kernel_rfl)
  go_enter Try.func77, Try.ntmps77
  go_wp2_with fail
  go_loopw [3, 11] (fun t u wr => w = wr ∧ ((u = .int .i64 0 ∧ t = .int .i64 0) ∨ (u = .int .i64 1 ∧ t = .int .i64 n1) ∨ (u = .int .i64 2 ∧ t = .int .i64 m))) (fun _ u _ => 2 - (intOf u).toNat)
  case atStart => exact ⟨rfl, .inl ⟨rfl, rfl⟩⟩
  case round =>
    obtain ⟨rfl, ⟨rfl, rfl⟩ | ⟨rfl, rfl⟩ | ⟨rfl, rfl⟩⟩ := hrel
    · go_wp2_with fail
      exact ⟨⟨by simp, .inr (.inl ⟨rfl, rfl⟩)⟩, by decide⟩
    · go_wp2_with fail
      exact ⟨⟨by simp, .inr (.inr ⟨rfl, by rw [show (m : Int) = n1 + n2 by have := hm.out; omega]⟩)⟩, by decide⟩
    · go_wp2_with fail
      refine (grow_any m _ (by have := hm.out; omega)).mono ?_
      rintro e w1 ⟨a, c, rfl, hown, hb⟩
      have HO := Lib.hid hown
      have HB := Lib.hid hb
      clear hown hb
      go_wp2_with fail
      go_loopw [6, 27] (fun t u wr' => Hid (Below w.heap.size w wr') ∧ ((u = .int .i64 0 ∧ ∃ a c, t = .slice a 0 c ∧ Hid (wr'.ownsRow w.heap.size 72 1 (.slice a 0 c) 0 [])) ∨ (u = .int .i64 1 ∧ ∃ a c, t = .slice a n1 c ∧ Hid (wr'.ownsRow w.heap.size 72 1 (.slice a n1 c) n1 (l1.map .string))) ∨ (u = .int .i64 2 ∧ ∃ a c, t = .slice a m c ∧ Hid (wr'.ownsRow w.heap.size 72 1 (.slice a m c) m ((l1 ++ l2).map .string))))) (fun _ u _ => 2 - (intOf u).toNat)
      case atStart => exact ⟨HB, .inl ⟨rfl, a, c, rfl, HO⟩⟩
      case round =>
        clear HO HB
        obtain ⟨HB, ⟨rfl, a, c, rfl, HO⟩ | ⟨rfl, a, c, rfl, HO⟩ | ⟨rfl, a, c, rfl, HO⟩⟩ := hrel
        · have p1 : wr.cell? ⟨rb, off, none⟩ = some (.slice (some ⟨b1, o1, none⟩) n1 c1) := by rw [HB.out.cell (World.block_lt_of_cell? w _ q1)]; exact q1
          go_wp2_with (at_builtin; refine wpList_append_row _ rfl _ _ 56 rfl w.heap.size 72 i0 z 1 16 Try.underlying56 hi hz0 hz1 hz2 hzs (by decide) (.slice a 0 c) 0 ([]) rfl HO.out (some ⟨b1, o1, none⟩) n1 c1 (l1.map .string) rfl (by rw [List.length_map, hl1.out, Nat.mul_one]) (r1.out.ext HB.out) (fun h => nomatch h) (fun u hu => by obtain ⟨s, _, rfl⟩ := List.mem_map.1 hu; rfl) (by unfold maxLen; omega) (by omega) HB.out.size ?_; intro a' cap' w2 hown hgrow _ _; have HO2 := Lib.hid hown; have HB2 := Lib.hid (HB.out.grown hgrow HB.out.size (ownr_ge HO.out)); clear hown hgrow)
          exact ⟨⟨HB2, .inr (.inl ⟨rfl, a', cap', rfl, by have := HO2.out; rw [Nat.zero_add, List.nil_append] at this; exact this⟩)⟩, by decide⟩
        · have p1 : wr.cell? ⟨rb, off + 1, none⟩ = some (.slice (some ⟨b2, o2, none⟩) n2 c2) := by rw [HB.out.cell (World.block_lt_of_cell? w _ q2)]; exact q2
          go_wp2_with (at_builtin; refine wpList_append_row _ rfl _ _ 56 rfl w.heap.size 72 i0 z 1 16 Try.underlying56 hi hz0 hz1 hz2 hzs (by decide) (.slice a n1 c) n1 (l1.map .string) rfl HO.out (some ⟨b2, o2, none⟩) n2 c2 (l2.map .string) rfl (by rw [List.length_map, hl2.out, Nat.mul_one]) (r2.out.ext HB.out) (fun h => nomatch h) (fun u hu => by obtain ⟨s, _, rfl⟩ := List.mem_map.1 hu; rfl) (by unfold maxLen; omega) (by omega) HB.out.size ?_; intro a' cap' w2 hown hgrow _ _; have HO2 := Lib.hid hown; have HB2 := Lib.hid (HB.out.grown hgrow HB.out.size (ownr_ge HO.out)); clear hown hgrow)
          exact ⟨⟨HB2, .inr (.inr ⟨rfl, a', cap', by rw [hm.out], by have := HO2.out; rw [← hm.out, ← List.map_append] at this; exact this⟩)⟩, by decide⟩
        · go_wp2_with fail
          go_ret
          exact ⟨a, c, rfl, HO.out, HB.out⟩
theorem rep_some {g : Gh} {v : Value} {f : Fl} {n : Nat} {x : AV} {l : List AV} (h : Rep g v (.lst f n (x :: l))) : ∃ b off c vs, v = .slice (some ⟨b, off, none⟩) n c ∧ CellsAt g b off vs ∧ n ≤ c ∧ RepL g vs (x :: l) := by
  cases h with
  | lst b off n c f vs l h1 h2 h3 h4 h5 => exact ⟨b, off, c, vs, rfl, h1, h3, h5⟩
theorem rep_somes {P : Program} {g : Gh} {h : Hp} {w : World} {v : Value} {f : Fl} {l : List ByteArray} (hs : Sim P g h w) (hl : l ≠ []) (hr : Rep g v (.lst f l.length (l.map .str))) :
    ∃ b off c, v = .slice (some ⟨b, off, none⟩) l.length c ∧ RowOf w (some ⟨b, off, none⟩) (l.map .string) := by
  obtain ⟨a, c, rfl, h2⟩ := rep_strs hs hr
  cases l with
  | nil => exact absurd rfl hl
  | cons x l =>
    obtain ⟨b, off, c', vs, h3, _⟩ := rep_some hr
    cases h3
    exact ⟨b, off, c, rfl, h2⟩
theorem p_concat (l1 l2 : List ByteArray) (h1 : l1 ≠ []) (h2 : l2 ≠ []) (k1 : l1.length ≤ 1000) (k2 : l2.length ≤ 1000) :
    PCalls Try.prog 77 [.lst .ro 2 [.lst .ro l1.length (l1.map .str), .lst .ro l2.length (l2.map .str)]] (.lst .ro (l1 ++ l2).length ((l1 ++ l2).map .str)) := by
  refine pcalls_calls (by simp [free, free.frees, frees_str]) (by simp only [free]; exact frees_str _) (by simp [plain]) (by kernel_rfl) ?_
  intro g w vargs hsim hr
  obtain ⟨v, vs, rfl, hv, hvs⟩ : ∃ v vs, vargs = v :: vs ∧ Rep g v (.lst .ro 2 [.lst .ro l1.length (l1.map .str), .lst .ro l2.length (l2.map .str)]) ∧ RepL g vs [] := by
    cases hr with
    | cons h1 h2 => exact ⟨_, _, rfl, h1, h2⟩
  cases hvs
  obtain ⟨rb, off, cap, cs, rfl, hcs, hcap, hcr⟩ := rep_some hv
  obtain ⟨x1, x2, rfl, hx1, hx2⟩ : ∃ x1 x2, cs = [x1, x2] ∧ Rep g x1 (.lst .ro l1.length (l1.map .str)) ∧ Rep g x2 (.lst .ro l2.length (l2.map .str)) := by
    cases hcr with
    | cons q1 q2 =>
      cases q2 with
      | cons q3 q4 => cases q4; exact ⟨_, _, rfl, q1, q3⟩
  obtain ⟨b1, o1, c1, rfl, r1⟩ := rep_somes hsim h1 hx1
  obtain ⟨b2, o2, c2, rfl, r2⟩ := rep_somes hsim h2 hx2
  obtain ⟨hc, _⟩ := hsim.cellsAt hcs
  refine (concat_any rb off cap l1.length l2.length c1 c2 (l1 ++ l2).length b1 b2 o1 o2 l1 l2 w (by show _ = _; simp) k1 k2 rfl rfl (hc 0 _ rfl) (hc 1 _ rfl) r1 r2).mono ?_
  rintro e w' ⟨a, c, rfl, hown, hb⟩
  refine ⟨_, rfl, hb, ?_⟩
  obtain ⟨hlen, ⟨_, h0⟩ | ⟨gb, cap', cur, hv', hge, hblk, hnc, _, _, htake⟩⟩ := hown
  · simp at h0; exact absurd h0.1 h1
  · cases hv'
    refine rep_new hge hnc (fun h => nomatch h) (fun i s hi => ?_)
    have hil : i < (l1 ++ l2).length := (List.getElem?_eq_some_iff.1 hi).1
    have ht : (cur.toList.take ((l1 ++ l2).length * 1))[i]? = ((l1 ++ l2).map Value.string)[i]? := by rw [htake]
    rw [Nat.mul_one, List.getElem?_take_of_lt hil, List.getElem?_map, hi] at ht
    rw [cell_of_row w' gb i cur _ (0, 0) hblk]
    simpa using ht
end Go.Proofs.Ytpiofcjkekpboaa

/- And, Quote, As, For of package set. -/
namespace Go.Proofs.Ytpiofcjkekpboaa
set_option linter.unusedSimpArgs false
set_option linter.unusedVariables false
open Go.RowKit Go.Lib

theorem setMay_ne {l : List ByteArray} (h : setMay l = true) : l ≠ [] := by
  rintro rfl
  have := (setMay_words h).1.1
  simp at this
theorem p_sand (a b : List ByteArray) (ha : a.length ≤ 10000) (hb : b.length ≤ 10000) (hsa : ∀ x ∈ a, x.size ≤ 1000000) (hsb : ∀ x ∈ b, x.size ≤ 1000000) : PCalls Try.prog 33 [.lst .ro a.length (a.map .str), .lst .ro b.length (b.map .str)] (vSet (andE a b)) := by
  refine pcalls_of (by simp [free, free.frees, frees_str]) (free_vSet _) (ACalls.weak (acalls_of mixed J_set_And_ok (Nat.le_of_ble_eq_true rfl) ?_)); simp only [J_set_And, wk,if_true,if_false,forall_const,implies_true,ne_eq,eq_self,Nat.reduceEqDiff,Nat.reduceAdd,Nat.reduceMul,Nat.reduceSub,Nat.reduceLeDiff,Nat.reduceLT,Int.reduceEq,Int.reduceLT,Int.reduceLE,Int.reduceAdd,Int.reduceSub,Int.reduceMul,Int.reduceNeg,Int.reduceNe,reduceCtorEq,Int.reduceToNat,↓reduceIte]
  refine PCalls.use (p_smay a (by omega) (fun x hx => by have := hsa x hx; omega)) ?_; simp only [wk,if_true,if_false,forall_const,implies_true,ne_eq,eq_self,Nat.reduceEqDiff,Nat.reduceAdd,Nat.reduceMul,Nat.reduceSub,Nat.reduceLeDiff,Nat.reduceLT,Int.reduceEq,Int.reduceLT,Int.reduceLE,Int.reduceAdd,Int.reduceSub,Int.reduceMul,Int.reduceNeg,Int.reduceNe,reduceCtorEq,Int.reduceToNat,↓reduceIte]
  refine ⟨fun hm => ?_, fun hm => by unfold andE; rw [if_pos (.inl hm)]; rfl⟩
  refine PCalls.use (p_smay b (by omega) (fun x hx => by have := hsb x hx; omega)) ?_; simp only [wk,if_true,if_false,forall_const,implies_true,ne_eq,eq_self,Nat.reduceEqDiff,Nat.reduceAdd,Nat.reduceMul,Nat.reduceSub,Nat.reduceLeDiff,Nat.reduceLT,Int.reduceEq,Int.reduceLT,Int.reduceLE,Int.reduceAdd,Int.reduceSub,Int.reduceMul,Int.reduceNeg,Int.reduceNe,reduceCtorEq,Int.reduceToNat,↓reduceIte]
  refine ⟨fun hm2 => by unfold andE; rw [if_pos (.inr hm2)]; rfl, fun hm2 => ?_⟩
  have g1 := setMay_small hm
  have g2 := setMay_small hm2
  refine PCalls.use (p_concat a b (setMay_ne hm) (setMay_ne hm2) (by omega) (by omega)) ?_; simp only [wk,if_true,if_false,forall_const,implies_true,ne_eq,eq_self,Nat.reduceEqDiff,Nat.reduceAdd,Nat.reduceMul,Nat.reduceSub,Nat.reduceLeDiff,Nat.reduceLT,Int.reduceEq,Int.reduceLT,Int.reduceLE,Int.reduceAdd,Int.reduceSub,Int.reduceMul,Int.reduceNeg,Int.reduceNe,reduceCtorEq,Int.reduceToNat,↓reduceIte]
  refine PCalls.use (p_sof (a ++ b) (by simp; omega) (fun x hx => by rcases List.mem_append.1 hx with h | h; exact (by have := hsa x h; omega); exact (by have := hsb x h; omega))) ?_; simp only [wk,if_true,if_false,forall_const,implies_true,ne_eq,eq_self,Nat.reduceEqDiff,Nat.reduceAdd,Nat.reduceMul,Nat.reduceSub,Nat.reduceLeDiff,Nat.reduceLT,Int.reduceEq,Int.reduceLT,Int.reduceLE,Int.reduceAdd,Int.reduceSub,Int.reduceMul,Int.reduceNeg,Int.reduceNe,reduceCtorEq,Int.reduceToNat,↓reduceIte]
  unfold andE
  rw [if_neg (by simp [hm, hm2])]
  simp only [vSet, rod_tup, ro_ro, ro_int, wk,if_true,if_false,forall_const,implies_true,ne_eq,eq_self,Nat.reduceEqDiff,Nat.reduceAdd,Nat.reduceMul,Nat.reduceSub,Nat.reduceLeDiff,Nat.reduceLT,Int.reduceEq,Int.reduceLT,Int.reduceLE,Int.reduceAdd,Int.reduceSub,Int.reduceMul,Int.reduceNeg,Int.reduceNe,reduceCtorEq,Int.reduceToNat,↓reduceIte]
theorem p_quote1 (x y : ByteArray) (h : x.size + y.size ≤ 9223372036854775807) : PCalls Try.prog 79 [.str x, .str y] (.str (x ++ y)) := by
  refine pcalls_of (by first | rfl | simp [free, free.frees, frees_str, frees_u8, frees_u16]) (by first | rfl | simp [free, free.frees, frees_str, frees_u8, frees_u16]) (acalls_of mixed J_set_Quote_1_ok (Nat.le_of_ble_eq_true rfl) ?_); simp only [J_set_Quote_1, wk,if_true,if_false,forall_const,implies_true,ne_eq,eq_self,Nat.reduceEqDiff,Nat.reduceAdd,Nat.reduceMul,Nat.reduceSub,Nat.reduceLeDiff,Nat.reduceLT,Int.reduceEq,Int.reduceLT,Int.reduceLE,Int.reduceAdd,Int.reduceSub,Int.reduceMul,Int.reduceNeg,Int.reduceNe,reduceCtorEq,Int.reduceToNat,↓reduceIte]
  exact h
set_option maxRecDepth 100000 in
set_option maxHeartbeats 2000000 in
theorem p_collect (a b : List ByteArray) (ha : a.length ≤ 16) (hb : b.length ≤ 16) (hsa : ∀ x ∈ a, x.size ≤ 1000000) (hsb : ∀ x ∈ b, x.size ≤ 1000000) :
    PCalls Try.prog 78 [.lst .ro a.length (a.map .str), .lst .ro b.length (b.map .str), .fn 79 []] (.lst .ro (prodW a b).length ((prodW a b).map .str)) := by
  refine pcalls_of (by simp [free, free.frees, frees_str]) (by simp only [free]; exact frees_str _) (ACalls.weak (acalls_of mixed J_set_collect_api_Word_api_Word_ok (Nat.le_of_ble_eq_true rfl) ?_)); simp only [J_set_collect_api_Word_api_Word, wk,if_true,if_false,forall_const,implies_true,ne_eq,eq_self,Nat.reduceEqDiff,Nat.reduceAdd,Nat.reduceMul,Nat.reduceSub,Nat.reduceLeDiff,Nat.reduceLT,Int.reduceEq,Int.reduceLT,Int.reduceLE,Int.reduceAdd,Int.reduceSub,Int.reduceMul,Int.reduceNeg,Int.reduceNe,reduceCtorEq,Int.reduceToNat,↓reduceIte]
  have hmul : a.length * b.length ≤ 256 := Nat.le_trans (Nat.mul_le_mul ha hb) (by decide)
  have hmul' : (a.length : Int) * (b.length : Int) = ((a.length * b.length : Nat) : Int) := by simp
  rw [hmul']
  refine ⟨inR_of (by omega) (by omega), ⟨by omega, by omega, by omega⟩, ?_⟩
  refine W_loop (fun n fr h => ∃ i : Nat, i ≤ a.length ∧ n = a.length - i ∧ h = [] ∧ fr = [(1, .lst .ro b.length (b.map .str)), (2, .fn 79 []), (7, .lst (.own 72) (prodTo a b i 0).length ((prodTo a b i 0).map .str)), (18, .lst .ro a.length (a.map .str)), (19, .int .i64 a.length), (20, .int .i64 i)]) a.length ⟨0, by omega, by omega, rfl, by simp [prodTo_zero, prodW]; rfl⟩ ?_
  rintro n fr h ⟨i, hi, rfl, rfl, rfl⟩
  simp only [J_set_collect_api_Word_api_Word_j4, wk,if_true,if_false,forall_const,implies_true,ne_eq,eq_self,Nat.reduceEqDiff,Nat.reduceAdd,Nat.reduceMul,Nat.reduceSub,Nat.reduceLeDiff,Nat.reduceLT,Int.reduceEq,Int.reduceLT,Int.reduceLE,Int.reduceAdd,Int.reduceSub,Int.reduceMul,Int.reduceNeg,Int.reduceNe,reduceCtorEq,Int.reduceToNat,↓reduceIte]
  refine ⟨fun hlt => ?_, fun hge => ?_⟩
  · have hil : i < a.length := by omega
    have hda : (a.map AV.str).drop (i : Int).toNat = .str a[i] :: (a.map AV.str).drop (i + 1) := by rw [show (i : Int).toNat = i by omega, drop_str hil]
    refine ⟨⟨by omega, by omega⟩, ?_⟩
    simp only [hda, wk,if_true,if_false,forall_const,implies_true,ne_eq,eq_self,Nat.reduceEqDiff,Nat.reduceAdd,Nat.reduceMul,Nat.reduceSub,Nat.reduceLeDiff,Nat.reduceLT,Int.reduceEq,Int.reduceLT,Int.reduceLE,Int.reduceAdd,Int.reduceSub,Int.reduceMul,Int.reduceNeg,Int.reduceNe,reduceCtorEq,Int.reduceToNat,↓reduceIte]
    refine W_loop (fun n fr h => ∃ k : Nat, k ≤ b.length ∧ n = b.length - k ∧ h = [] ∧ fr = [(1, .lst .ro b.length (b.map .str)), (2, .fn 79 []), (7, .lst (.own 72) (prodTo a b i k).length ((prodTo a b i k).map .str)), (9, .str a[i]), (18, .lst .ro a.length (a.map .str)), (19, .int .i64 a.length), (20, .int .i64 i), (24, .lst .ro b.length (b.map .str)), (25, .int .i64 b.length), (26, .int .i64 k)]) b.length ⟨0, by omega, by omega, rfl, rfl⟩ ?_
    rintro n fr h ⟨k, hk, rfl, rfl, rfl⟩
    simp only [J_set_collect_api_Word_api_Word_j3, wk,if_true,if_false,forall_const,implies_true,ne_eq,eq_self,Nat.reduceEqDiff,Nat.reduceAdd,Nat.reduceMul,Nat.reduceSub,Nat.reduceLeDiff,Nat.reduceLT,Int.reduceEq,Int.reduceLT,Int.reduceLE,Int.reduceAdd,Int.reduceSub,Int.reduceMul,Int.reduceNeg,Int.reduceNe,reduceCtorEq,Int.reduceToNat,↓reduceIte]
    refine ⟨fun hlt2 => ?_, fun hge2 => ?_⟩
    · have hkl : k < b.length := by omega
      have hdb : (b.map AV.str).drop (k : Int).toNat = .str b[k] :: (b.map AV.str).drop (k + 1) := by rw [show (k : Int).toNat = k by omega, drop_str hkl]
      have hplen := prodTo_len (a := a) (b := b) (i := i) (k := k) (by omega) (by omega)
      refine ⟨⟨by omega, by omega⟩, ?_⟩
      simp only [hdb, wk,if_true,if_false,forall_const,implies_true,ne_eq,eq_self,Nat.reduceEqDiff,Nat.reduceAdd,Nat.reduceMul,Nat.reduceSub,Nat.reduceLeDiff,Nat.reduceLT,Int.reduceEq,Int.reduceLT,Int.reduceLE,Int.reduceAdd,Int.reduceSub,Int.reduceMul,Int.reduceNeg,Int.reduceNe,reduceCtorEq,Int.reduceToNat,↓reduceIte]
      have z1 := hsa a[i] (List.getElem_mem hil)
      have z2 := hsb b[k] (List.getElem_mem hkl)
      refine PCalls.use (p_quote1 a[i] b[k] (by omega)) ?_; simp only [wk,if_true,if_false,forall_const,implies_true,ne_eq,eq_self,Nat.reduceEqDiff,Nat.reduceAdd,Nat.reduceMul,Nat.reduceSub,Nat.reduceLeDiff,Nat.reduceLT,Int.reduceEq,Int.reduceLT,Int.reduceLE,Int.reduceAdd,Int.reduceSub,Int.reduceMul,Int.reduceNeg,Int.reduceNe,reduceCtorEq,Int.reduceToNat,↓reduceIte]
      refine ⟨⟨by omega, by omega⟩, inR_of (by omega) (by omega), b.length - (k + 1), by omega, k + 1, by omega, rfl, ?_⟩
      rw [prodTo_succ hil hkl]; simp
    · obtain rfl : k = b.length := by omega
      simp only [J_set_collect_api_Word_api_Word_j2, wk,if_true,if_false,forall_const,implies_true,ne_eq,eq_self,Nat.reduceEqDiff,Nat.reduceAdd,Nat.reduceMul,Nat.reduceSub,Nat.reduceLeDiff,Nat.reduceLT,Int.reduceEq,Int.reduceLT,Int.reduceLE,Int.reduceAdd,Int.reduceSub,Int.reduceMul,Int.reduceNeg,Int.reduceNe,reduceCtorEq,Int.reduceToNat,↓reduceIte]
      refine ⟨inR_of (by omega) (by omega), a.length - (i + 1), by omega, i + 1, by omega, rfl, ?_⟩
      rw [prodTo_zero, ← prodTo_next hil]
      rfl
  · obtain rfl : i = a.length := by omega
    rw [prodTo_zero, List.take_length]
    simp only [J_set_collect_api_Word_api_Word_j1, wk,if_true,if_false,forall_const,implies_true,ne_eq,eq_self,Nat.reduceEqDiff,Nat.reduceAdd,Nat.reduceMul,Nat.reduceSub,Nat.reduceLeDiff,Nat.reduceLT,Int.reduceEq,Int.reduceLT,Int.reduceLE,Int.reduceAdd,Int.reduceSub,Int.reduceMul,Int.reduceNeg,Int.reduceNe,reduceCtorEq,Int.reduceToNat,↓reduceIte]
    exact ro_ro _ _
theorem wsize_app {x y : ByteArray} : (x ++ y).size = x.size + y.size := ByteArray.size_append
set_option maxRecDepth 100000 in
set_option maxHeartbeats 2000000 in
theorem p_squote (a b : List ByteArray) (ha : a.length ≤ 10000) (hb : b.length ≤ 10000) (hsa : ∀ x ∈ a, x.size ≤ 1000000) (hsb : ∀ x ∈ b, x.size ≤ 1000000) : PCalls Try.prog 35 [.lst .ro a.length (a.map .str), .lst .ro b.length (b.map .str)] (vSet (quoteE a b)) := by
  refine pcalls_of (by simp [free, free.frees, frees_str]) (free_vSet _) (ACalls.weak (acalls_of mixed J_set_Quote_ok (Nat.le_of_ble_eq_true rfl) ?_)); simp only [J_set_Quote, wk,if_true,if_false,forall_const,implies_true,ne_eq,eq_self,Nat.reduceEqDiff,Nat.reduceAdd,Nat.reduceMul,Nat.reduceSub,Nat.reduceLeDiff,Nat.reduceLT,Int.reduceEq,Int.reduceLT,Int.reduceLE,Int.reduceAdd,Int.reduceSub,Int.reduceMul,Int.reduceNeg,Int.reduceNe,reduceCtorEq,Int.reduceToNat,↓reduceIte]
  refine PCalls.use (p_smay a (by omega) (fun x hx => by have := hsa x hx; omega)) ?_; simp only [wk,if_true,if_false,forall_const,implies_true,ne_eq,eq_self,Nat.reduceEqDiff,Nat.reduceAdd,Nat.reduceMul,Nat.reduceSub,Nat.reduceLeDiff,Nat.reduceLT,Int.reduceEq,Int.reduceLT,Int.reduceLE,Int.reduceAdd,Int.reduceSub,Int.reduceMul,Int.reduceNeg,Int.reduceNe,reduceCtorEq,Int.reduceToNat,↓reduceIte]
  refine ⟨fun hm => ?_, fun hm => by unfold quoteE; rw [if_pos (.inl hm)]; rfl⟩
  refine PCalls.use (p_smay b (by omega) (fun x hx => by have := hsb x hx; omega)) ?_; simp only [wk,if_true,if_false,forall_const,implies_true,ne_eq,eq_self,Nat.reduceEqDiff,Nat.reduceAdd,Nat.reduceMul,Nat.reduceSub,Nat.reduceLeDiff,Nat.reduceLT,Int.reduceEq,Int.reduceLT,Int.reduceLE,Int.reduceAdd,Int.reduceSub,Int.reduceMul,Int.reduceNeg,Int.reduceNe,reduceCtorEq,Int.reduceToNat,↓reduceIte]
  refine ⟨fun hm2 => by unfold quoteE; rw [if_pos (.inr hm2)]; rfl, fun hm2 => ?_⟩
  have g1 := setMay_small hm
  have g2 := setMay_small hm2
  refine PCalls.use (p_collect a b g1.1 g2.1 hsa hsb) ?_; simp only [wk,if_true,if_false,forall_const,implies_true,ne_eq,eq_self,Nat.reduceEqDiff,Nat.reduceAdd,Nat.reduceMul,Nat.reduceSub,Nat.reduceLeDiff,Nat.reduceLT,Int.reduceEq,Int.reduceLT,Int.reduceLE,Int.reduceAdd,Int.reduceSub,Int.reduceMul,Int.reduceNeg,Int.reduceNe,reduceCtorEq,Int.reduceToNat,↓reduceIte]
  have hpl : (prodW a b).length ≤ 272 := by
    have := prodTo_len (a := a) (b := b) (i := a.length) (k := 0) (by omega) (by omega)
    rwa [prodTo_zero, List.take_length] at this
  have hps : ∀ w ∈ prodW a b, w.size ≤ 32 := by
    intro w hw
    obtain ⟨x, hx, y, hy, rfl⟩ := mem_prodW.1 hw
    have := g1.2 x hx; have := g2.2 y hy
    rw [wsize_app]; omega
  refine W_loop (fun n fr h => ∃ i : Nat, i ≤ (prodW a b).length ∧ n = (prodW a b).length - i ∧ fr = [(6, .lst .ro (prodW a b).length ((prodW a b).map .str)), (20, .lst .ro (prodW a b).length ((prodW a b).map .str)), (21, .int .i64 (prodW a b).length), (22, .int .i64 i)] ∧ ∀ w ∈ (prodW a b).take i, w.size / 2 ≤ 8) (prodW a b).length ⟨0, by omega, by omega, rfl, by simp⟩ ?_
  rintro n fr h ⟨i, hi, rfl, rfl, hfit⟩
  simp only [J_set_Quote_j2, wk,if_true,if_false,forall_const,implies_true,ne_eq,eq_self,Nat.reduceEqDiff,Nat.reduceAdd,Nat.reduceMul,Nat.reduceSub,Nat.reduceLeDiff,Nat.reduceLT,Int.reduceEq,Int.reduceLT,Int.reduceLE,Int.reduceAdd,Int.reduceSub,Int.reduceMul,Int.reduceNeg,Int.reduceNe,reduceCtorEq,Int.reduceToNat,↓reduceIte]
  refine ⟨fun hlt => ?_, fun hge => ?_⟩
  · have hil : i < (prodW a b).length := by omega
    have hda : ((prodW a b).map AV.str).drop (i : Int).toNat = .str (prodW a b)[i] :: ((prodW a b).map AV.str).drop (i + 1) := by rw [show (i : Int).toNat = i by omega, drop_str hil]
    refine ⟨⟨by omega, by omega⟩, ?_⟩
    simp only [hda, wk,if_true,if_false,forall_const,implies_true,ne_eq,eq_self,Nat.reduceEqDiff,Nat.reduceAdd,Nat.reduceMul,Nat.reduceSub,Nat.reduceLeDiff,Nat.reduceLT,Int.reduceEq,Int.reduceLT,Int.reduceLE,Int.reduceAdd,Int.reduceSub,Int.reduceMul,Int.reduceNeg,Int.reduceNe,reduceCtorEq,Int.reduceToNat,↓reduceIte]
    have z := hps _ (List.getElem_mem hil)
    refine PCalls.use (p_wlen (prodW a b)[i] (by omega)) ?_; simp only [wk,if_true,if_false,forall_const,implies_true,ne_eq,eq_self,Nat.reduceEqDiff,Nat.reduceAdd,Nat.reduceMul,Nat.reduceSub,Nat.reduceLeDiff,Nat.reduceLT,Int.reduceEq,Int.reduceLT,Int.reduceLE,Int.reduceAdd,Int.reduceSub,Int.reduceMul,Int.reduceNeg,Int.reduceNe,reduceCtorEq,Int.reduceToNat,↓reduceIte]
    refine ⟨fun h8 => ?_, fun h8 => ?_⟩
    · have : quoteE a b = ([], 4) := by
        unfold quoteE
        rw [if_neg (by simp [hm, hm2]), if_pos]
        rw [List.any_eq_true]
        exact ⟨_, List.getElem_mem hil, by simp; omega⟩
      rw [this]; rfl
    · refine ⟨inR_of (by omega) (by omega), (prodW a b).length - (i + 1), by omega, i + 1, by omega, rfl, rfl, fun w hw => ?_⟩
      rw [List.take_succ_eq_append_getElem hil, List.mem_append] at hw
      rcases hw with hw | hw
      · exact hfit w hw
      · simp at hw; subst hw; omega
  · rw [List.take_of_length_le (by omega)] at hfit
    simp only [J_set_Quote_j1, wk,if_true,if_false,forall_const,implies_true,ne_eq,eq_self,Nat.reduceEqDiff,Nat.reduceAdd,Nat.reduceMul,Nat.reduceSub,Nat.reduceLeDiff,Nat.reduceLT,Int.reduceEq,Int.reduceLT,Int.reduceLE,Int.reduceAdd,Int.reduceSub,Int.reduceMul,Int.reduceNeg,Int.reduceNe,reduceCtorEq,Int.reduceToNat,↓reduceIte]
    refine PCalls.use (p_sof (prodW a b) (by omega) (fun w hw => by have := hps w hw; omega)) ?_; simp only [wk,if_true,if_false,forall_const,implies_true,ne_eq,eq_self,Nat.reduceEqDiff,Nat.reduceAdd,Nat.reduceMul,Nat.reduceSub,Nat.reduceLeDiff,Nat.reduceLT,Int.reduceEq,Int.reduceLT,Int.reduceLE,Int.reduceAdd,Int.reduceSub,Int.reduceMul,Int.reduceNeg,Int.reduceNe,reduceCtorEq,Int.reduceToNat,↓reduceIte]
    have e : quoteE a b = ofE (prodW a b) := by
      unfold quoteE
      rw [if_neg (by simp [hm, hm2]), if_neg]
      rw [List.any_eq_true]
      rintro ⟨w, hw, h1⟩
      have := hfit w hw
      simp only [decide_eq_true_eq] at h1
      omega
    rw [e]
    simp only [vSet, rod_tup, ro_ro, ro_int, wk,if_true,if_false,forall_const,implies_true,ne_eq,eq_self,Nat.reduceEqDiff,Nat.reduceAdd,Nat.reduceMul,Nat.reduceSub,Nat.reduceLeDiff,Nat.reduceLT,Int.reduceEq,Int.reduceLT,Int.reduceLE,Int.reduceAdd,Int.reduceSub,Int.reduceMul,Int.reduceNeg,Int.reduceNe,reduceCtorEq,Int.reduceToNat,↓reduceIte]
theorem p_sas (a : List ByteArray) (r : Nat) (hr : r < 65536) (ha : a.length ≤ 10000) (hsa : ∀ x ∈ a, x.size ≤ 1000000) : PCalls Try.prog 39 [.lst .ro a.length (a.map .str), .int .u16 r] (vSet (asE a r)) := by
  refine pcalls_of (by simp [free, free.frees, frees_str]) (free_vSet _) (ACalls.weak (acalls_of mixed J_set_As_ok (Nat.le_of_ble_eq_true rfl) ?_)); simp only [J_set_As, wk,if_true,if_false,forall_const,implies_true,ne_eq,eq_self,Nat.reduceEqDiff,Nat.reduceAdd,Nat.reduceMul,Nat.reduceSub,Nat.reduceLeDiff,Nat.reduceLT,Int.reduceEq,Int.reduceLT,Int.reduceLE,Int.reduceAdd,Int.reduceSub,Int.reduceMul,Int.reduceNeg,Int.reduceNe,reduceCtorEq,Int.reduceToNat,↓reduceIte]
  refine PCalls.use (p_smay a (by omega) (fun x hx => by have := hsa x hx; omega)) ?_; simp only [wk,if_true,if_false,forall_const,implies_true,ne_eq,eq_self,Nat.reduceEqDiff,Nat.reduceAdd,Nat.reduceMul,Nat.reduceSub,Nat.reduceLeDiff,Nat.reduceLT,Int.reduceEq,Int.reduceLT,Int.reduceLE,Int.reduceAdd,Int.reduceSub,Int.reduceMul,Int.reduceNeg,Int.reduceNe,reduceCtorEq,Int.reduceToNat,↓reduceIte]
  refine ⟨fun hm => by unfold asE; rw [if_pos hm]; rfl, fun hm => ?_⟩
  have hw : IntKind.wrap .i64 (r : Int) = r := by rw [IntKind.wrap_i64]; omega
  have hd : (r : Int).tdiv 8192 = ((r / 8192 : Nat) : Int) := by rw [Int.tdiv_eq_ediv_of_nonneg (by omega)]; omega
  rw [hw, hd]
  refine ⟨inR_of (by omega) (by omega), fun h1 => ?_, fun h1 => ?_⟩
  · unfold asE; rw [if_neg (by simp [hm]), if_neg (by omega)]; rfl
  · refine PCalls.use (p_wof [r] (by simp) (by simpa using hr)) ?_; simp only [wk,if_true,if_false,forall_const,implies_true,ne_eq,eq_self,Nat.reduceEqDiff,Nat.reduceAdd,Nat.reduceMul,Nat.reduceSub,Nat.reduceLeDiff,Nat.reduceLT,Int.reduceEq,Int.reduceLT,Int.reduceLE,Int.reduceAdd,Int.reduceSub,Int.reduceMul,Int.reduceNeg,Int.reduceNe,reduceCtorEq,Int.reduceToNat,↓reduceIte]
    rw [atomBytes_one]
    refine PCalls.use (p_squote a [atomW r] ha (by simp) hsa (by intro x hx; simp at hx; subst hx; have : (atomW r).size = 2 := rfl; omega)) ?_; simp only [wk,if_true,if_false,forall_const,implies_true,ne_eq,eq_self,Nat.reduceEqDiff,Nat.reduceAdd,Nat.reduceMul,Nat.reduceSub,Nat.reduceLeDiff,Nat.reduceLT,Int.reduceEq,Int.reduceLT,Int.reduceLE,Int.reduceAdd,Int.reduceSub,Int.reduceMul,Int.reduceNeg,Int.reduceNe,reduceCtorEq,Int.reduceToNat,↓reduceIte]
    unfold asE; rw [if_neg (by simp [hm]), if_pos (by omega)]
    simp only [vSet, rod_tup, ro_ro, ro_int, wk,if_true,if_false,forall_const,implies_true,ne_eq,eq_self,Nat.reduceEqDiff,Nat.reduceAdd,Nat.reduceMul,Nat.reduceSub,Nat.reduceLeDiff,Nat.reduceLT,Int.reduceEq,Int.reduceLT,Int.reduceLE,Int.reduceAdd,Int.reduceSub,Int.reduceMul,Int.reduceNeg,Int.reduceNe,reduceCtorEq,Int.reduceToNat,↓reduceIte]
theorem p_sfor (a b : List ByteArray) (ha : a.length ≤ 10000) (hb : b.length ≤ 10000) (hsa : ∀ x ∈ a, x.size ≤ 1000000) (hsb : ∀ x ∈ b, x.size ≤ 1000000) : PCalls Try.prog 37 [.lst .ro a.length (a.map .str), .lst .ro b.length (b.map .str)] (vSet (forE a b)) := by
  refine pcalls_of (by simp [free, free.frees, frees_str]) (free_vSet _) (ACalls.weak (acalls_of mixed J_set_For_ok (Nat.le_of_ble_eq_true rfl) ?_)); simp only [J_set_For, wk,if_true,if_false,forall_const,implies_true,ne_eq,eq_self,Nat.reduceEqDiff,Nat.reduceAdd,Nat.reduceMul,Nat.reduceSub,Nat.reduceLeDiff,Nat.reduceLT,Int.reduceEq,Int.reduceLT,Int.reduceLE,Int.reduceAdd,Int.reduceSub,Int.reduceMul,Int.reduceNeg,Int.reduceNe,reduceCtorEq,Int.reduceToNat,↓reduceIte]
  refine PCalls.use (p_squote a b ha hb hsa hsb) ?_; simp only [wk,if_true,if_false,forall_const,implies_true,ne_eq,eq_self,Nat.reduceEqDiff,Nat.reduceAdd,Nat.reduceMul,Nat.reduceSub,Nat.reduceLeDiff,Nat.reduceLT,Int.reduceEq,Int.reduceLT,Int.reduceLE,Int.reduceAdd,Int.reduceSub,Int.reduceMul,Int.reduceNeg,Int.reduceNe,reduceCtorEq,Int.reduceToNat,↓reduceIte]
  simp only [vSet, wk,if_true,if_false,forall_const,implies_true,ne_eq,eq_self,Nat.reduceEqDiff,Nat.reduceAdd,Nat.reduceMul,Nat.reduceSub,Nat.reduceLeDiff,Nat.reduceLT,Int.reduceEq,Int.reduceLT,Int.reduceLE,Int.reduceAdd,Int.reduceSub,Int.reduceMul,Int.reduceNeg,Int.reduceNe,reduceCtorEq,Int.reduceToNat,↓reduceIte]
  refine ⟨fun hne => ?_, fun h0 => ?_⟩
  · unfold forE; rw [if_neg hne]; rfl
  · refine PCalls.use (p_wof [1] (by simp) (by simp)) ?_; simp only [wk,if_true,if_false,forall_const,implies_true,ne_eq,eq_self,Nat.reduceEqDiff,Nat.reduceAdd,Nat.reduceMul,Nat.reduceSub,Nat.reduceLeDiff,Nat.reduceLT,Int.reduceEq,Int.reduceLT,Int.reduceLE,Int.reduceAdd,Int.reduceSub,Int.reduceMul,Int.reduceNeg,Int.reduceNe,reduceCtorEq,Int.reduceToNat,↓reduceIte]
    rw [atomBytes_one]
    refine PCalls.use (p_squote [atomW 1] b (by simp) hb (by intro x hx; simp at hx; subst hx; have : (atomW 1).size = 2 := rfl; omega) hsb) ?_; simp only [wk,if_true,if_false,forall_const,implies_true,ne_eq,eq_self,Nat.reduceEqDiff,Nat.reduceAdd,Nat.reduceMul,Nat.reduceSub,Nat.reduceLeDiff,Nat.reduceLT,Int.reduceEq,Int.reduceLT,Int.reduceLE,Int.reduceAdd,Int.reduceSub,Int.reduceMul,Int.reduceNeg,Int.reduceNe,reduceCtorEq,Int.reduceToNat,↓reduceIte]
    simp only [vSet, wk,if_true,if_false,forall_const,implies_true,ne_eq,eq_self,Nat.reduceEqDiff,Nat.reduceAdd,Nat.reduceMul,Nat.reduceSub,Nat.reduceLeDiff,Nat.reduceLT,Int.reduceEq,Int.reduceLT,Int.reduceLE,Int.reduceAdd,Int.reduceSub,Int.reduceMul,Int.reduceNeg,Int.reduceNe,reduceCtorEq,Int.reduceToNat,↓reduceIte]
    refine ⟨fun hne => ?_, fun h1 => ?_⟩
    · unfold forE; rw [if_pos h0, if_neg hne]; rfl
    · have g1 := setMay_small (quoteE_good h0)
      have g2 := setMay_small (quoteE_good h1)
      refine PCalls.use (p_sand (quoteE a b).1 (quoteE [atomW 1] b).1 (by omega) (by omega) (fun x hx => by have := g1.2 x hx; omega) (fun x hx => by have := g2.2 x hx; omega)) ?_; simp only [wk,if_true,if_false,forall_const,implies_true,ne_eq,eq_self,Nat.reduceEqDiff,Nat.reduceAdd,Nat.reduceMul,Nat.reduceSub,Nat.reduceLeDiff,Nat.reduceLT,Int.reduceEq,Int.reduceLT,Int.reduceLE,Int.reduceAdd,Int.reduceSub,Int.reduceMul,Int.reduceNeg,Int.reduceNe,reduceCtorEq,Int.reduceToNat,↓reduceIte]
      unfold forE; rw [if_pos h0, if_pos h1]
      simp only [vSet, rod_tup, ro_ro, ro_int, wk,if_true,if_false,forall_const,implies_true,ne_eq,eq_self,Nat.reduceEqDiff,Nat.reduceAdd,Nat.reduceMul,Nat.reduceSub,Nat.reduceLeDiff,Nat.reduceLT,Int.reduceEq,Int.reduceLT,Int.reduceLE,Int.reduceAdd,Int.reduceSub,Int.reduceMul,Int.reduceNeg,Int.reduceNe,reduceCtorEq,Int.reduceToNat,↓reduceIte]
end Go.Proofs.Ytpiofcjkekpboaa

/- awake of the laws on sets: what each call comes to. -/
namespace Go.Proofs.Ytpiofcjkekpboaa
set_option linter.unusedSimpArgs false
set_option linter.unusedVariables false
open Go.RowKit Go.Lib

def wA : ByteArray := atomW 8193
def wB : ByteArray := atomW 8194
def wAB : ByteArray := ⟨#[32, 1, 32, 2]⟩
def wBB : ByteArray := ⟨#[32, 2, 32, 2]⟩
def wDB : ByteArray := ⟨#[0, 1, 32, 2]⟩
theorem k_app : wA ++ wB = wAB := by apply ByteArray.ext; apply Array.ext'; simp [wA, wB, wAB, atomW]
theorem k_app2 : wB ++ wB = wBB := by apply ByteArray.ext; apply Array.ext'; simp [wB, wBB, atomW]
theorem k_of : ofE [wAB, wA, wA] = ([wA, wAB], 0) := by kernel_rfl
theorem k_quote : quoteE [wA, wB] [wB] = ([wAB, wBB], 0) := by kernel_rfl
theorem k_for : forE [wA] [wB] = ([wDB, wAB], 0) := by kernel_rfl
theorem k_as : asE [wA, wAB] 8193 = ([], 1) := by kernel_rfl
theorem k_and : andE [wA] [wB] = ([wA, wB], 0) := by kernel_rfl
theorem k_none : ofE [] = ([], 3) := by kernel_rfl
theorem k_may : setMay [wA, wAB] = true := by kernel_rfl
theorem k_may0 : setMay [] = false := by kernel_rfl
theorem k_has : hasW [wA, wAB] wAB = true := by kernel_rfl
theorem k_within : withinE [wA] [wA, wAB] = true := by kernel_rfl
theorem k_same : withinE [wA, wAB] [wAB, wBB] = false := by kernel_rfl
theorem k_heavy : heavyE [wA, wAB] = 2 := by kernel_rfl
theorem q_a : PCalls Try.prog 47 [.lst .ro 1 [.int .u16 8193]] (.str wA) := by
  have := p_rof [8193] (by decide) (by decide)
  rw [atomBytes_one] at this
  exact this
theorem q_b : PCalls Try.prog 47 [.lst .ro 1 [.int .u16 8194]] (.str wB) := by
  have := p_rof [8194] (by decide) (by decide)
  rw [atomBytes_one] at this
  exact this
theorem q_db : PCalls Try.prog 47 [.lst .ro 2 [.int .u16 1, .int .u16 8194]] (.str wDB) := by
  have := p_rof [1, 8194] (by decide) (by decide)
  exact this
theorem sz_k : wA.size = 2 ∧ wB.size = 2 ∧ wAB.size = 4 ∧ wBB.size = 4 ∧ wDB.size = 4 := ⟨rfl, rfl, rfl, rfl, rfl⟩
theorem q_of : PCalls Try.prog 28 [.lst .ro 3 [.str wAB, .str wA, .str wA]] (.tup [.lst .ro 2 [.str wA, .str wAB], .int .i64 0]) := by
  have := p_sof [wAB, wA, wA] (by decide) (by obtain ⟨h1, h2, h3, h4, h5⟩ := sz_k; intro x hx; simp at hx; rcases hx with rfl | rfl <;> omega)
  rw [k_of] at this; exact this
theorem q_quote : PCalls Try.prog 35 [.lst .ro 2 [.str wA, .str wB], .lst .ro 1 [.str wB]] (.tup [.lst .ro 2 [.str wAB, .str wBB], .int .i64 0]) := by
  have := p_squote [wA, wB] [wB] (by decide) (by decide) (by obtain ⟨h1, h2, h3, h4, h5⟩ := sz_k; intro x hx; simp at hx; rcases hx with rfl | rfl <;> omega) (by obtain ⟨h1, h2, h3, h4, h5⟩ := sz_k; intro x hx; simp at hx; subst hx; omega)
  rw [k_quote] at this; exact this
theorem q_for : PCalls Try.prog 37 [.lst .ro 1 [.str wA], .lst .ro 1 [.str wB]] (.tup [.lst .ro 2 [.str wDB, .str wAB], .int .i64 0]) := by
  have := p_sfor [wA] [wB] (by decide) (by decide) (by obtain ⟨h1, h2, h3, h4, h5⟩ := sz_k; intro x hx; simp at hx; subst hx; omega) (by obtain ⟨h1, h2, h3, h4, h5⟩ := sz_k; intro x hx; simp at hx; subst hx; omega)
  rw [k_for] at this; exact this
theorem q_and : PCalls Try.prog 33 [.lst .ro 1 [.str wA], .lst .ro 1 [.str wB]] (.tup [.lst .ro 2 [.str wA, .str wB], .int .i64 0]) := by
  have := p_sand [wA] [wB] (by decide) (by decide) (by obtain ⟨h1, h2, h3, h4, h5⟩ := sz_k; intro x hx; simp at hx; subst hx; omega) (by obtain ⟨h1, h2, h3, h4, h5⟩ := sz_k; intro x hx; simp at hx; subst hx; omega)
  rw [k_and] at this; exact this
theorem q_as : PCalls Try.prog 39 [.lst .ro 2 [.str wA, .str wAB], .int .u16 8193] (.tup [.lst .ro 0 [], .int .i64 1]) := by
  have := p_sas [wA, wAB] 8193 (by decide) (by decide) (by obtain ⟨h1, h2, h3, h4, h5⟩ := sz_k; intro x hx; simp at hx; rcases hx with rfl | rfl <;> omega)
  rw [k_as] at this; exact this
theorem q_none : PCalls Try.prog 28 [.lst .ro 0 []] (.tup [.lst .ro 0 [], .int .i64 3]) := by
  have := p_sof [] (by decide) (by simp)
  rw [k_none] at this; exact this
theorem q_may : PCalls Try.prog 31 [.lst .ro 2 [.str wA, .str wAB]] (.bool true) := by
  have := p_smay [wA, wAB] (by decide) (by obtain ⟨h1, h2, h3, h4, h5⟩ := sz_k; intro x hx; simp at hx; rcases hx with rfl | rfl <;> omega)
  rw [k_may] at this; exact this
theorem q_may0 : PCalls Try.prog 31 [.lst .ro 0 []] (.bool false) := by
  have := p_smay [] (by decide) (by simp)
  rw [k_may0] at this; exact this
theorem q_has : PCalls Try.prog 62 [.lst .ro 2 [.str wA, .str wAB], .str wAB] (.bool true) := by
  have := p_shas [wA, wAB] wAB (by decide)
  rw [k_has] at this; exact this
theorem q_within : PCalls Try.prog 63 [.lst .ro 1 [.str wA], .lst .ro 2 [.str wA, .str wAB]] (.bool true) := by
  have := p_within [wA] [wA, wAB] (by decide) (by decide) (by obtain ⟨h1, h2, h3, h4, h5⟩ := sz_k; unfold maxLen; intro x hx; simp at hx; subst hx; omega) (by obtain ⟨h1, h2, h3, h4, h5⟩ := sz_k; unfold maxLen; intro x hx; simp at hx; rcases hx with rfl | rfl <;> omega)
  rw [k_within] at this; exact this
theorem q_same : PCalls Try.prog 64 [.lst .ro 2 [.str wA, .str wAB], .lst .ro 2 [.str wAB, .str wBB]] (.bool false) := by
  have := p_same [wA, wAB] [wAB, wBB] (by decide) (by decide) (by obtain ⟨h1, h2, h3, h4, h5⟩ := sz_k; unfold maxLen; intro x hx; simp at hx; rcases hx with rfl | rfl <;> omega) (by obtain ⟨h1, h2, h3, h4, h5⟩ := sz_k; unfold maxLen; intro x hx; simp at hx; rcases hx with rfl | rfl <;> omega)
  rw [k_same] at this; exact this
theorem q_heavy : PCalls Try.prog 65 [.lst .ro 2 [.str wA, .str wAB]] (.int .i64 2) := by
  have := p_sheavy [wA, wAB] (by decide) (by obtain ⟨h1, h2, h3, h4, h5⟩ := sz_k; intro x hx; simp at hx; rcases hx with rfl | rfl <;> omega)
  rw [k_heavy] at this; exact this
theorem q_eq (x y : ByteArray) : PCalls Try.prog 30 [.lst .ro 2 [.str x, .str y], .lst .ro 2 [.str x, .str y]] (.bool true) := by
  have := p_requal [x, y] [x, y] (by simp)
  rw [decide_eq_true rfl] at this; exact this
theorem q_none' : PCalls Try.prog 28 [.lst .clip 0 []] (.tup [.lst .ro 0 [], .int .i64 3]) := PCalls.ro (args := [.lst .clip 0 []]) q_none
theorem q_may0' : PCalls Try.prog 31 [.lst .clip 0 []] (.bool false) := PCalls.ro (args := [.lst .clip 0 []]) q_may0
set_option maxRecDepth 100000 in
set_option maxHeartbeats 4000000 in
theorem p_awake : PCalls Try.prog 25 [] (.bool true) := by
  refine pcalls_of (by first | rfl | simp [free, free.frees, frees_str, frees_u8, frees_u16]) (by first | rfl | simp [free, free.frees, frees_str, frees_u8, frees_u16]) (acalls_of mixed J_law03_awake_ok (Nat.le_of_ble_eq_true rfl) ?_); simp only [J_law03_awake, wk,if_true,if_false,forall_const,implies_true,ne_eq,eq_self,Nat.reduceEqDiff,Nat.reduceAdd,Nat.reduceMul,Nat.reduceSub,Nat.reduceLeDiff,Nat.reduceLT,Int.reduceEq,Int.reduceLT,Int.reduceLE,Int.reduceAdd,Int.reduceSub,Int.reduceMul,Int.reduceNeg,Int.reduceNe,reduceCtorEq,Int.reduceToNat,↓reduceIte]
  refine PCalls.use (q_a) ?_; simp only [wk,if_true,if_false,forall_const,implies_true,ne_eq,eq_self,Nat.reduceEqDiff,Nat.reduceAdd,Nat.reduceMul,Nat.reduceSub,Nat.reduceLeDiff,Nat.reduceLT,Int.reduceEq,Int.reduceLT,Int.reduceLE,Int.reduceAdd,Int.reduceSub,Int.reduceMul,Int.reduceNeg,Int.reduceNe,reduceCtorEq,Int.reduceToNat,↓reduceIte]
  refine PCalls.use (q_b) ?_; simp only [wk,if_true,if_false,forall_const,implies_true,ne_eq,eq_self,Nat.reduceEqDiff,Nat.reduceAdd,Nat.reduceMul,Nat.reduceSub,Nat.reduceLeDiff,Nat.reduceLT,Int.reduceEq,Int.reduceLT,Int.reduceLE,Int.reduceAdd,Int.reduceSub,Int.reduceMul,Int.reduceNeg,Int.reduceNe,reduceCtorEq,Int.reduceToNat,↓reduceIte]
  refine ⟨by decide, ?_⟩
  rw [k_app]
  refine PCalls.use (q_of) ?_; simp only [wk,if_true,if_false,forall_const,implies_true,ne_eq,eq_self,Nat.reduceEqDiff,Nat.reduceAdd,Nat.reduceMul,Nat.reduceSub,Nat.reduceLeDiff,Nat.reduceLT,Int.reduceEq,Int.reduceLT,Int.reduceLE,Int.reduceAdd,Int.reduceSub,Int.reduceMul,Int.reduceNeg,Int.reduceNe,reduceCtorEq,Int.reduceToNat,↓reduceIte]
  refine PCalls.use (q_quote) ?_; simp only [wk,if_true,if_false,forall_const,implies_true,ne_eq,eq_self,Nat.reduceEqDiff,Nat.reduceAdd,Nat.reduceMul,Nat.reduceSub,Nat.reduceLeDiff,Nat.reduceLT,Int.reduceEq,Int.reduceLT,Int.reduceLE,Int.reduceAdd,Int.reduceSub,Int.reduceMul,Int.reduceNeg,Int.reduceNe,reduceCtorEq,Int.reduceToNat,↓reduceIte]
  refine PCalls.use (q_for) ?_; simp only [wk,if_true,if_false,forall_const,implies_true,ne_eq,eq_self,Nat.reduceEqDiff,Nat.reduceAdd,Nat.reduceMul,Nat.reduceSub,Nat.reduceLeDiff,Nat.reduceLT,Int.reduceEq,Int.reduceLT,Int.reduceLE,Int.reduceAdd,Int.reduceSub,Int.reduceMul,Int.reduceNeg,Int.reduceNe,reduceCtorEq,Int.reduceToNat,↓reduceIte]
  refine PCalls.use (q_as) ?_; simp only [wk,if_true,if_false,forall_const,implies_true,ne_eq,eq_self,Nat.reduceEqDiff,Nat.reduceAdd,Nat.reduceMul,Nat.reduceSub,Nat.reduceLeDiff,Nat.reduceLT,Int.reduceEq,Int.reduceLT,Int.reduceLE,Int.reduceAdd,Int.reduceSub,Int.reduceMul,Int.reduceNeg,Int.reduceNe,reduceCtorEq,Int.reduceToNat,↓reduceIte]
  refine PCalls.use (q_and) ?_; simp only [wk,if_true,if_false,forall_const,implies_true,ne_eq,eq_self,Nat.reduceEqDiff,Nat.reduceAdd,Nat.reduceMul,Nat.reduceSub,Nat.reduceLeDiff,Nat.reduceLT,Int.reduceEq,Int.reduceLT,Int.reduceLE,Int.reduceAdd,Int.reduceSub,Int.reduceMul,Int.reduceNeg,Int.reduceNe,reduceCtorEq,Int.reduceToNat,↓reduceIte]
  refine PCalls.use (q_none') ?_; simp only [wk,if_true,if_false,forall_const,implies_true,ne_eq,eq_self,Nat.reduceEqDiff,Nat.reduceAdd,Nat.reduceMul,Nat.reduceSub,Nat.reduceLeDiff,Nat.reduceLT,Int.reduceEq,Int.reduceLT,Int.reduceLE,Int.reduceAdd,Int.reduceSub,Int.reduceMul,Int.reduceNeg,Int.reduceNe,reduceCtorEq,Int.reduceToNat,↓reduceIte]
  refine PCalls.use (q_eq wA wAB) ?_; simp only [wk,if_true,if_false,forall_const,implies_true,ne_eq,eq_self,Nat.reduceEqDiff,Nat.reduceAdd,Nat.reduceMul,Nat.reduceSub,Nat.reduceLeDiff,Nat.reduceLT,Int.reduceEq,Int.reduceLT,Int.reduceLE,Int.reduceAdd,Int.reduceSub,Int.reduceMul,Int.reduceNeg,Int.reduceNe,reduceCtorEq,Int.reduceToNat,↓reduceIte]
  refine ⟨by decide, ?_⟩
  rw [k_app2]
  refine PCalls.use (q_eq wAB wBB) ?_; simp only [wk,if_true,if_false,forall_const,implies_true,ne_eq,eq_self,Nat.reduceEqDiff,Nat.reduceAdd,Nat.reduceMul,Nat.reduceSub,Nat.reduceLeDiff,Nat.reduceLT,Int.reduceEq,Int.reduceLT,Int.reduceLE,Int.reduceAdd,Int.reduceSub,Int.reduceMul,Int.reduceNeg,Int.reduceNe,reduceCtorEq,Int.reduceToNat,↓reduceIte]
  refine PCalls.use (q_db) ?_; simp only [wk,if_true,if_false,forall_const,implies_true,ne_eq,eq_self,Nat.reduceEqDiff,Nat.reduceAdd,Nat.reduceMul,Nat.reduceSub,Nat.reduceLeDiff,Nat.reduceLT,Int.reduceEq,Int.reduceLT,Int.reduceLE,Int.reduceAdd,Int.reduceSub,Int.reduceMul,Int.reduceNeg,Int.reduceNe,reduceCtorEq,Int.reduceToNat,↓reduceIte]
  refine PCalls.use (q_eq wDB wAB) ?_; simp only [wk,if_true,if_false,forall_const,implies_true,ne_eq,eq_self,Nat.reduceEqDiff,Nat.reduceAdd,Nat.reduceMul,Nat.reduceSub,Nat.reduceLeDiff,Nat.reduceLT,Int.reduceEq,Int.reduceLT,Int.reduceLE,Int.reduceAdd,Int.reduceSub,Int.reduceMul,Int.reduceNeg,Int.reduceNe,reduceCtorEq,Int.reduceToNat,↓reduceIte]
  refine PCalls.use (q_eq wA wB) ?_; simp only [wk,if_true,if_false,forall_const,implies_true,ne_eq,eq_self,Nat.reduceEqDiff,Nat.reduceAdd,Nat.reduceMul,Nat.reduceSub,Nat.reduceLeDiff,Nat.reduceLT,Int.reduceEq,Int.reduceLT,Int.reduceLE,Int.reduceAdd,Int.reduceSub,Int.reduceMul,Int.reduceNeg,Int.reduceNe,reduceCtorEq,Int.reduceToNat,↓reduceIte]
  refine PCalls.use (q_may) ?_; simp only [wk,if_true,if_false,forall_const,implies_true,ne_eq,eq_self,Nat.reduceEqDiff,Nat.reduceAdd,Nat.reduceMul,Nat.reduceSub,Nat.reduceLeDiff,Nat.reduceLT,Int.reduceEq,Int.reduceLT,Int.reduceLE,Int.reduceAdd,Int.reduceSub,Int.reduceMul,Int.reduceNeg,Int.reduceNe,reduceCtorEq,Int.reduceToNat,↓reduceIte]
  refine PCalls.use (q_may0') ?_; simp only [wk,if_true,if_false,forall_const,implies_true,ne_eq,eq_self,Nat.reduceEqDiff,Nat.reduceAdd,Nat.reduceMul,Nat.reduceSub,Nat.reduceLeDiff,Nat.reduceLT,Int.reduceEq,Int.reduceLT,Int.reduceLE,Int.reduceAdd,Int.reduceSub,Int.reduceMul,Int.reduceNeg,Int.reduceNe,reduceCtorEq,Int.reduceToNat,↓reduceIte]
  refine PCalls.use (q_has) ?_; simp only [wk,if_true,if_false,forall_const,implies_true,ne_eq,eq_self,Nat.reduceEqDiff,Nat.reduceAdd,Nat.reduceMul,Nat.reduceSub,Nat.reduceLeDiff,Nat.reduceLT,Int.reduceEq,Int.reduceLT,Int.reduceLE,Int.reduceAdd,Int.reduceSub,Int.reduceMul,Int.reduceNeg,Int.reduceNe,reduceCtorEq,Int.reduceToNat,↓reduceIte]
  refine PCalls.use (q_within) ?_; simp only [wk,if_true,if_false,forall_const,implies_true,ne_eq,eq_self,Nat.reduceEqDiff,Nat.reduceAdd,Nat.reduceMul,Nat.reduceSub,Nat.reduceLeDiff,Nat.reduceLT,Int.reduceEq,Int.reduceLT,Int.reduceLE,Int.reduceAdd,Int.reduceSub,Int.reduceMul,Int.reduceNeg,Int.reduceNe,reduceCtorEq,Int.reduceToNat,↓reduceIte]
  refine PCalls.use (q_same) ?_; simp only [wk,if_true,if_false,forall_const,implies_true,ne_eq,eq_self,Nat.reduceEqDiff,Nat.reduceAdd,Nat.reduceMul,Nat.reduceSub,Nat.reduceLeDiff,Nat.reduceLT,Int.reduceEq,Int.reduceLT,Int.reduceLE,Int.reduceAdd,Int.reduceSub,Int.reduceMul,Int.reduceNeg,Int.reduceNe,reduceCtorEq,Int.reduceToNat,↓reduceIte]
  refine PCalls.use (q_heavy) ?_; simp only [wk,if_true,if_false,forall_const,implies_true,ne_eq,eq_self,Nat.reduceEqDiff,Nat.reduceAdd,Nat.reduceMul,Nat.reduceSub,Nat.reduceLeDiff,Nat.reduceLT,Int.reduceEq,Int.reduceLT,Int.reduceLE,Int.reduceAdd,Int.reduceSub,Int.reduceMul,Int.reduceNeg,Int.reduceNe,reduceCtorEq,Int.reduceToNat,↓reduceIte]
end Go.Proofs.Ytpiofcjkekpboaa

/- large of the laws on sets; what stays small. -/
namespace Go.Proofs.Ytpiofcjkekpboaa
set_option linter.unusedSimpArgs false
set_option linter.unusedVariables false
open Go.RowKit Go.Lib

def vSt (s : List ByteArray) : AV := .lst .ro s.length (s.map .str)
def smallS (s : List ByteArray) : Prop := s.length ≤ 60 ∧ ∀ x ∈ s, x.size ≤ 100
def largeS (ls : List (List ByteArray)) : Bool := ls.any fun s => decide (60 < s.length) || s.any fun x => decide (100 < x.size)
theorem largeS_no {ls : List (List ByteArray)} : largeS ls = false ↔ ∀ s ∈ ls, smallS s := by
  unfold largeS smallS
  rw [List.any_eq_false]
  refine forall_congr' fun s => forall_congr' fun _ => ?_
  simp only [Bool.or_eq_true, decide_eq_true_eq, List.any_eq_true, not_or, not_exists, not_and, Nat.not_lt]
theorem largeS_yes {ls : List (List ByteArray)} {s : List ByteArray} (hs : s ∈ ls) (h : ¬ smallS s) : largeS ls = true := by
  cases hl : largeS ls with
  | true => rfl
  | false => exact absurd (largeS_no.1 hl s hs) h
theorem drop_vS {ls : List (List ByteArray)} {i : Nat} (h : i < ls.length) : (ls.map vSt).drop i = .lst .ro ls[i].length (ls[i].map .str) :: (ls.map vSt).drop (i + 1) := by
  rw [← List.map_drop, List.drop_eq_getElem_cons h, List.map_cons, List.map_drop]; rfl
theorem frees_vS (ls : List (List ByteArray)) : free.frees (ls.map vSt) = true := by
  induction ls with
  | nil => rfl
  | cons s ls ih => simp only [List.map_cons, free.frees, ih, Bool.and_true]; unfold vSt; simp only [free]; exact frees_str _
set_option maxRecDepth 100000 in
set_option maxHeartbeats 2000000 in
theorem p_large (ls : List (List ByteArray)) (hl : ls.length ≤ 100) (hs : ∀ s ∈ ls, s.length ≤ 9223372036854775807) : PCalls Try.prog 26 [.lst .ro ls.length (ls.map vSt)] (.bool (largeS ls)) := by
  refine pcalls_of (by simp [free, free.frees, frees_vS]) rfl (acalls_of mixed J_law03_large_ok (Nat.le_of_ble_eq_true rfl) ?_); simp only [J_law03_large, wk,if_true,if_false,forall_const,implies_true,ne_eq,eq_self,Nat.reduceEqDiff,Nat.reduceAdd,Nat.reduceMul,Nat.reduceSub,Nat.reduceLeDiff,Nat.reduceLT,Int.reduceEq,Int.reduceLT,Int.reduceLE,Int.reduceAdd,Int.reduceSub,Int.reduceMul,Int.reduceNeg,Int.reduceNe,reduceCtorEq,Int.reduceToNat,↓reduceIte]
  refine W_loop (fun n fr h => ∃ i : Nat, i ≤ ls.length ∧ n = ls.length - i ∧ fr = [(0, .lst .ro ls.length (ls.map vSt)), (6, .int .i64 ls.length), (7, .int .i64 i)] ∧ ∀ s ∈ ls.take i, smallS s) ls.length ⟨0, by omega, by omega, rfl, by simp⟩ ?_
  rintro n fr h ⟨i, hi, rfl, rfl, hall⟩
  simp only [J_law03_large_j4, wk,if_true,if_false,forall_const,implies_true,ne_eq,eq_self,Nat.reduceEqDiff,Nat.reduceAdd,Nat.reduceMul,Nat.reduceSub,Nat.reduceLeDiff,Nat.reduceLT,Int.reduceEq,Int.reduceLT,Int.reduceLE,Int.reduceAdd,Int.reduceSub,Int.reduceMul,Int.reduceNeg,Int.reduceNe,reduceCtorEq,Int.reduceToNat,↓reduceIte]
  refine ⟨fun hlt => ?_, fun hge => ?_⟩
  · have hil : i < ls.length := by omega
    have hd : (ls.map vSt).drop (i : Int).toNat = .lst .ro ls[i].length (ls[i].map .str) :: (ls.map vSt).drop (i + 1) := by rw [show (i : Int).toNat = i by omega, drop_vS hil]
    have h0 : (0 ≤ (i : Int)) = True := eq_true (by omega)
    have hlt' : ((i : Int) < (ls.length : Int)) = True := eq_true (by omega)
    have hsl := hs _ (List.getElem_mem hil)
    simp only [wk,if_true,if_false,forall_const,implies_true,ne_eq,eq_self,Nat.reduceEqDiff,Nat.reduceAdd,Nat.reduceMul,Nat.reduceSub,Nat.reduceLeDiff,Nat.reduceLT,Int.reduceEq,Int.reduceLT,Int.reduceLE,Int.reduceAdd,Int.reduceSub,Int.reduceMul,Int.reduceNeg,Int.reduceNe,reduceCtorEq,Int.reduceToNat,↓reduceIte, hd, h0, hlt']
    refine ⟨fun h60 => ?_, fun h60 => ?_⟩
    · exact bool_eq (largeS_yes (List.getElem_mem hil) (fun hsm => by have := hsm.1; omega)).symm
    · refine W_loop (fun n fr h => ∃ k : Nat, k ≤ ls[i].length ∧ n = ls[i].length - k ∧ fr = [(0, .lst .ro ls.length (ls.map vSt)), (3, .int .i64 i), (6, .int .i64 ls.length), (7, .int .i64 i), (20, .int .i64 ls[i].length), (21, .int .i64 k)] ∧ ∀ x ∈ ls[i].take k, x.size ≤ 100) ls[i].length ⟨0, by omega, by omega, rfl, by simp⟩ ?_
      rintro n fr h ⟨k, hk, rfl, rfl, hall2⟩
      simp only [J_law03_large_j3, wk,if_true,if_false,forall_const,implies_true,ne_eq,eq_self,Nat.reduceEqDiff,Nat.reduceAdd,Nat.reduceMul,Nat.reduceSub,Nat.reduceLeDiff,Nat.reduceLT,Int.reduceEq,Int.reduceLT,Int.reduceLE,Int.reduceAdd,Int.reduceSub,Int.reduceMul,Int.reduceNeg,Int.reduceNe,reduceCtorEq,Int.reduceToNat,↓reduceIte]
      refine ⟨fun hlt2 => ?_, fun hge2 => ?_⟩
      · have hkl : k < ls[i].length := by omega
        have h0k : (0 ≤ (k : Int)) = True := eq_true (by omega)
        have hk2 : ((k : Int) < (ls[i].length : Int)) = True := eq_true (by omega)
        have hdk : (ls[i].map AV.str).drop (k : Int).toNat = .str ls[i][k] :: (ls[i].map AV.str).drop (k + 1) := by rw [show (k : Int).toNat = k by omega, drop_str hkl]
        simp only [wk,if_true,if_false,forall_const,implies_true,ne_eq,eq_self,Nat.reduceEqDiff,Nat.reduceAdd,Nat.reduceMul,Nat.reduceSub,Nat.reduceLeDiff,Nat.reduceLT,Int.reduceEq,Int.reduceLT,Int.reduceLE,Int.reduceAdd,Int.reduceSub,Int.reduceMul,Int.reduceNeg,Int.reduceNe,reduceCtorEq,Int.reduceToNat,↓reduceIte, hd, h0, hlt', h0k, hk2, hdk]
        refine ⟨fun h1 => bool_eq (largeS_yes (List.getElem_mem hil) (fun hsm => by have := hsm.2 _ (List.getElem_mem hkl); omega)).symm, fun h1 => ⟨inR_of (by omega) (by omega), ls[i].length - (k + 1), by omega, k + 1, by omega, rfl, rfl, fun x hx => ?_⟩⟩
        rw [List.take_succ_eq_append_getElem hkl, List.mem_append] at hx
        rcases hx with hx | hx
        · exact hall2 x hx
        · simp at hx; subst hx; omega
      · rw [List.take_of_length_le (by omega)] at hall2
        simp only [J_law03_large_j2, wk,if_true,if_false,forall_const,implies_true,ne_eq,eq_self,Nat.reduceEqDiff,Nat.reduceAdd,Nat.reduceMul,Nat.reduceSub,Nat.reduceLeDiff,Nat.reduceLT,Int.reduceEq,Int.reduceLT,Int.reduceLE,Int.reduceAdd,Int.reduceSub,Int.reduceMul,Int.reduceNeg,Int.reduceNe,reduceCtorEq,Int.reduceToNat,↓reduceIte]
        refine ⟨inR_of (by omega) (by omega), ls.length - (i + 1), by omega, i + 1, by omega, rfl, rfl, fun s hsm => ?_⟩
        rw [List.take_succ_eq_append_getElem hil, List.mem_append] at hsm
        rcases hsm with hsm | hsm
        · exact hall s hsm
        · simp at hsm; subst hsm; exact ⟨by omega, hall2⟩
  · rw [List.take_of_length_le (by omega)] at hall
    simp only [J_law03_large_j1, wk,if_true,if_false,forall_const,implies_true,ne_eq,eq_self,Nat.reduceEqDiff,Nat.reduceAdd,Nat.reduceMul,Nat.reduceSub,Nat.reduceLeDiff,Nat.reduceLT,Int.reduceEq,Int.reduceLT,Int.reduceLE,Int.reduceAdd,Int.reduceSub,Int.reduceMul,Int.reduceNeg,Int.reduceNe,reduceCtorEq,Int.reduceToNat,↓reduceIte]
    exact bool_eq (largeS_no.2 hall).symm
end Go.Proofs.Ytpiofcjkekpboaa
