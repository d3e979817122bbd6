/- Contract of atom.Load. -/
import Derived.Test.YtpiofcjkekpboaaAtE
namespace Go.Proofs.Ytpiofcjkekpboaa
set_option linter.unusedSimpArgs false
set_option linter.unusedVariables false
open Go.RowKit Go.Maps

/-- all blocks from B on are its own -/
def TabFrom (w : World) (B b : Nat) (L : Nat → List ByteArray) : Prop := Tab w b L (fun j => B ≤ j ∧ j < w.heap.size)

theorem TabFrom.put {w w' : World} {B b : Nat} {L' : Nat → List ByteArray} (hB : B ≤ w.heap.size) (h : TabTurned (fun j => B ≤ j ∧ j < w.heap.size) b L' w w') : TabFrom w' B b L' ∧ Below B w w' := by
  refine ⟨h.1.mono ?_ (fun j hj => hj.2), h.2.toBelow hB (fun k hk => hk.1)⟩
  rintro j (hj | hj)
  · exact ⟨hj.1, Nat.lt_of_lt_of_le hj.2 h.2.size⟩
  · exact ⟨by omega, hj.2⟩

def LoadPost (ls : Nat → List ByteArray) (w : World) (e : Ending) (w' : World) : Prop :=
  Below w.heap.size w w' ∧ ((loadTo ls 5).2 = 0 → e = .returned (.tuple #[.pointer (some ⟨w.heap.size + 1, 0, none⟩), .int .i64 0]) ∧ TabFrom w' (w.heap.size + 1) (w.heap.size + 1) (loadTo ls 5).1) ∧
  ((loadTo ls 5).2 ≠ 0 → e = .returned (.tuple #[.pointer none, .int .i64 (loadTo ls 5).2]))

theorem ret_err {x y : Int} (h : x = y) : Ending.returned (.tuple #[.pointer none, .int .i64 x]) = .returned (.tuple #[.pointer none, .int .i64 y]) := by rw [h]

/-- the parameter of Load -/
def listsVal (a : Nat → Option Addr) (ls : Nat → List ByteArray) (c : Nat → Nat) : Value :=
  .agg #[.slice (a 0) (ls 0).length (c 0), .slice (a 1) (ls 1).length (c 1), .slice (a 2) (ls 2).length (c 2), .slice (a 3) (ls 3).length (c 3), .slice (a 4) (ls 4).length (c 4), .slice (a 5) (ls 5).length (c 5)]

set_option maxHeartbeats 2000000 in
theorem load_any (a : Nat → Option Addr) (ls : Nat → List ByteArray) (c : Nat → Nat) (w : World) (hr : ∀ k, k < 6 → RowOf w (a k) ((ls k).map .string)) (hn : ∀ k, k < 6 → (ls k).length ≤ 9223372036854775807)
    (hs : ∀ k, k < 6 → ∀ s ∈ ls k, s.size ≤ maxLen) :
    Calls Try.prog 41 #[listsVal a ls c] w (LoadPost ls w) := by
  have HR := Lib.hid hr
  have HN := Lib.hid hn
  have HS := Lib.hid hs
  clear hr hn hs
  unfold listsVal
  go_enter Try.func41, Try.ntmps41
  go_wp2_with fail
  refine (new_any _).mono ?_
  rintro e w1 ⟨rfl, hb1, hz1, hT1⟩
  have hB1 : Below (w.heap.size + 1) (w.alloc (.cells #[.slice (a 0) (ls 0).length (c 0), .slice (a 1) (ls 1).length (c 1), .slice (a 2) (ls 2).length (c 2), .slice (a 3) (ls 3).length (c 3), .slice (a 4) (ls 4).length (c 4), .slice (a 5) (ls 5).length (c 5)] 37)) w1 := by simpa using hb1
  have hT2 : TabFrom w1 (w.heap.size + 1) (w.heap.size + 1) (fun _ => []) := by
    refine (show Tab w1 (w.heap.size + 1) (fun _ => []) (fun j => j = w.heap.size + 1) by simpa using hT1).mono ?_ (fun j hj => hj.2)
    rintro j rfl
    exact ⟨Nat.le_refl _, by have := hT1.lt _ rfl; simpa using this⟩
  have hz2 : w1.heap.size = w.heap.size + 1 + 1 := by simpa using hz1
  clear hT1 hz1 hb1
  have hbox : ∀ k, k < 6 → ∀ wr, Below (w.heap.size + 1) w1 wr → wr.cell? ⟨w.heap.size, k, none⟩ = some (.slice (a k) (ls k).length (c k)) := by
    intro k hk wr hb
    rw [hb.cell (by simp), hB1.cell (by simp)]
    have : k = 0 ∨ k = 1 ∨ k = 2 ∨ k = 3 ∨ k = 4 ∨ k = 5 := by omega
    rcases this with rfl | rfl | rfl | rfl | rfl | rfl <;> simp
  have hW : Below w.heap.size w w1 := ((Below.refl w.heap.size w).alloc (Nat.le_refl _) _).trans (hB1.mono (Nat.le_succ _))
  have HB := Lib.hid hbox
  have HW := Lib.hid hW
  have HZ := Lib.hid hz2
  clear hbox hW hz2 hB1
  go_wp2_with fail
  go_loopw [5] (fun i wr => ∃ j : Nat, j ≤ 5 ∧ i = .int .i64 (j + 1) ∧ Hid ((loadTo ls j).2 = 0) ∧ TabFrom wr (w.heap.size + 1) (w.heap.size + 1) (loadTo ls j).1 ∧ Below (w.heap.size + 1) w1 wr) (fun i _ => 7 - (intOf i).toNat)
  case atStart => exact ⟨0, by omega, rfl, rfl, hT2, Below.refl _ _⟩
  case round =>
    obtain ⟨j, hj, rfl, he0, hT, hb⟩ := hrel
    by_cases hlt : j < 5
    · have hd : decide (((j : Int) + 1) ≤ 5) = true := by simp; omega
      have cB := HB.out (j + 1) (by omega) wr hb
      have hrow := HR.out (j + 1) (by omega)
      have hlen := HN.out (j + 1) (by omega)
      generalize a (j + 1) = aj at cB hrow
      rcases hrow with hnil | ⟨rb, off, rfl, hcell⟩
      · have hl0 : ls (j + 1) = [] := by simpa using hnil
        have hst : loadTo ls (j + 1) = loadTo ls j := by show (ls (j + 1)).foldl _ _ = _; rw [hl0]; rfl
        have Hst := Lib.hid hst
        clear hst hnil
        rw [hl0] at cB
        clear hl0 hlen
        simp only [List.length_nil] at cB
        go_wp2_with fail
        refine wp_loop_rounds 1 ?_
        rw [rounds_succ]
        go_wp2_with fail
        go_roundw
        case rel => exact ⟨j + 1, by omega, by go_num, by rw [Hst.out]; exact he0, by rw [Hst.out]; exact hT, hb⟩
        case measure => simp [intOf]; omega
      · have HCell := Lib.hid hcell
        clear hcell
        obtain ⟨wo, rfl⟩ : ∃ wo : World, wo = wr := ⟨_, rfl⟩
        go_wp2_with fail
        go_loopw [21] (fun t wr => ∃ i : Nat, i ≤ (ls (j + 1)).length ∧ t = .int .i64 i ∧ Hid ((((ls (j + 1)).take i).foldl (loadStep (j + 1)) (loadTo ls j)).2 = 0) ∧ TabFrom wr (w.heap.size + 1) (w.heap.size + 1) (((ls (j + 1)).take i).foldl (loadStep (j + 1)) (loadTo ls j)).1 ∧ Below (w.heap.size + 1) w1 wr) (fun t _ => (ls (j + 1)).length - (intOf t).toNat)
        case atStart => exact ⟨0, by omega, rfl, he0, hT, hb⟩
        case round =>
          obtain ⟨i, hi, rfl, hi0, hTi, hbi⟩ := hrel
          by_cases hil : i < (ls (j + 1)).length
          · have hget : (ls (j + 1))[i]? = some (ls (j + 1))[i] := by simp [hil]
            have hsz : (ls (j + 1))[i].size ≤ maxLen := HS.out (j + 1) (by omega) _ (List.getElem_mem hil)
            have hc : wr.cell? ⟨rb, off + i, none⟩ = some (.string (ls (j + 1))[i]) := by
              have h0 := HCell.out i (.string (ls (j + 1))[i]) (by simp [hil])
              rw [(HW.out.trans (hbi.mono (Nat.le_succ _))).cell (World.block_lt_of_cell? w _ h0)]; exact h0
            have hzr : w.heap.size + 1 ≤ wr.heap.size := by have := hbi.size; have := HZ.out; omega
            have hfail := fun st h => @loadTo_fails ls j i st _ hlt h hget
            have hnext := take_foldl (loadStep (j + 1)) (ls (j + 1)) (loadTo ls j) i _ hget
            generalize (ls (j + 1))[i] = s at hsz hc hfail hnext
            generalize hst : ((ls (j + 1)).take i).foldl (loadStep (j + 1)) (loadTo ls j) = st at hi0 hTi hnext
            have HF := Lib.hid (hfail st hst)
            have HNx := Lib.hid hnext
            clear hfail hnext hst hget
            by_cases hin : s ∈ st.1 (j + 1)
            · have hf : findB st.1 ((j : Int) + 1) s = true := by simp only [findB, decide_eq_true_eq]; exact ⟨by omega, by omega, by rw [show ((j : Int) + 1).toNat = j + 1 by omega]; exact hin⟩
              have hst : (loadStep (j + 1) st s).2 = 11 := by unfold loadStep; rw [if_neg (by simpa using hi0.out), if_pos hin]
              have Hst := Lib.hid hst
              clear hst hin
              go_wp2_with (go_at_call 12; refine (find_any _ _ _ st.1 _ _ hsz hTi).mono ?_; rintro e w' ⟨rfl, rfl⟩)
              go_ret2
              have h5 := HF.out (by rw [Hst.out]; decide)
              rw [Hst.out] at h5
              exact ⟨HW.out.trans (hbi.mono (Nat.le_succ _)), fun h => by rw [h5] at h; simp at h, fun _ => ret_err h5.symm⟩
            · have hf : findB st.1 ((j : Int) + 1) s = false := by simp only [findB, decide_eq_false_iff_not]; rintro ⟨_, _, h3⟩; rw [show ((j : Int) + 1).toNat = j + 1 by omega] at h3; exact hin h3
              have Hin := Lib.hid hin
              clear hin
              by_cases hpe : putE st.1 ((j : Int) + 1) s = 0
              · have hp0 : (putE st.1 ((j : Int) + 1) s != 0) = false := by simp [hpe]
                have Hpe := Lib.hid hpe
                clear hpe
                go_wp2_with (first
                  | (go_at_call 12; refine (find_any _ _ _ st.1 _ _ hsz hTi).mono ?_; rintro e w' ⟨rfl, rfl⟩)
                  | (go_at_call 9; refine (put_any _ _ _ st.1 _ _ hsz hTi).mono ?_; rintro e w2 ⟨rfl, ht2⟩))
                obtain ⟨ht3, hb3⟩ := TabFrom.put hzr ht2
                have hst : loadStep (j + 1) st s = (putL st.1 ((j : Int) + 1) s, 0) := by unfold loadStep; rw [if_neg (by simpa using hi0.out), if_neg Hin.out, if_neg (by simpa using Hpe.out)]; rfl
                go_roundw
                case rel =>
                  refine ⟨i + 1, by omega, by go_num, ?_, ?_, hbi.trans hb3⟩
                  · rw [HNx.out, hst]; rfl
                  · rw [HNx.out, hst]; exact ht3
                case measure => simp [intOf]; omega
              · have hp0 : (putE st.1 ((j : Int) + 1) s != 0) = true := by simp [hpe]
                have hst : (loadStep (j + 1) st s).2 = putE st.1 ((j : Int) + 1) s := by unfold loadStep; rw [if_neg (by simpa using hi0.out), if_neg Hin.out, if_pos (by simpa using hpe)]; rfl
                have Hpe := Lib.hid hpe
                have Hst := Lib.hid hst
                clear hpe hst
                go_wp2_with (first
                  | (go_at_call 12; refine (find_any _ _ _ st.1 _ _ hsz hTi).mono ?_; rintro e w' ⟨rfl, rfl⟩)
                  | (go_at_call 9; refine (put_any _ _ _ st.1 _ _ hsz hTi).mono ?_; rintro e w2 ⟨rfl, ht2⟩))
                obtain ⟨ht3, hb3⟩ := TabFrom.put hzr ht2
                go_ret2
                have h5 := HF.out (by rw [Hst.out]; exact Hpe.out)
                rw [Hst.out] at h5
                exact ⟨HW.out.trans ((hbi.trans hb3).mono (Nat.le_succ _)), fun h => absurd (h5 ▸ h) Hpe.out, fun _ => ret_err h5.symm⟩
          · have hii : i = (ls (j + 1)).length := by omega
            have hst : loadTo ls (j + 1) = ((ls (j + 1)).take i).foldl (loadStep (j + 1)) (loadTo ls j) := by rw [hii, List.take_length]; rfl
            have Hst := Lib.hid hst
            clear hst
            have Hii := Lib.hid hii
            clear hii
            go_wp2_with fail
            go_roundw
            case rel => exact ⟨j + 1, by omega, by go_num, by rw [Hst.out]; exact hi0, by rw [Hst.out]; exact hTi, hbi⟩
            case measure => simp [intOf]; omega
    · obtain rfl : j = 5 := by omega
      have hzr : w.heap.size + 1 ≤ wr.heap.size := by have := hb.size; have := HZ.out; omega
      go_wp2_with fail
      go_ret2
      exact ⟨HW.out.trans (hb.mono (Nat.le_succ _)), fun _ => ⟨rfl, hT⟩, fun h => absurd he0.out h⟩

end Go.Proofs.Ytpiofcjkekpboaa
