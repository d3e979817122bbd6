/- Texts of one proof, laid together: AtM AtT. -/
import Derived.Test.YtedaffmkpljlnaaGreatMA12
import Derived.Deep.RegionWith
import Derived.Deep.DeepCutAuto
set_option maxRecDepth 100000
set_option maxHeartbeats 16000000

set_option linter.unusedSimpArgs false
set_option linter.unusedVariables false
/- The walk of AtomDoes. -/
namespace Go.Proofs.YtedaffmkpljlnaaGreat
open Go.RowKit Go.Maps Go.ChangeShapes Go.WideShapes Go.ChangeAt

structure DoesG (B : Nat) (w wr : World) (bt br : Nat) (Lt Lr : Nat → List ByteArray) (St Sr : Nat → Prop) : Prop where
  t : Tab wr bt Lt St
  r : RTab wr br Lr Sr
  apart : ∀ j, St j → ¬ Sr j
  tB : ∀ j, St j → B ≤ j
  rB : ∀ j, Sr j → B ≤ j
  below : Below B w wr
  hB : B ≤ w.heap.size

section
variable {B : Nat} {w wr w' : World} {bt br : Nat} {Lt Lr L' : Nat → List ByteArray} {St Sr : Nat → Prop}
end

end Go.Proofs.YtedaffmkpljlnaaGreat
/- Contract of attorneyref01.Load. -/
namespace Go.Proofs.YtedaffmkpljlnaaGreat
open Go.RowKit Go.Maps

def AllMay (L : Nat → List ByteArray) : Prop := ∀ k, ∀ s ∈ L k, mayB s = true
theorem allMay_nil : AllMay (fun _ => []) := fun _ _ h => by cases h
theorem allMay_put {L : Nat → List ByteArray} (h : AllMay L) (kd : Int) (s : ByteArray) : AllMay (putL L kd s) := by
 intro k t ht
 unfold putL at ht
 split at ht
 ·next hc =>
  by_cases e : k = kd.toNat
  ·subst e; rw [upd_same] at ht
   rcases List.mem_append.1 ht with h1 | h1
   ·exact h _ t h1
   ·simp at h1; subst h1; exact hc.2.2.1
  ·rw [upd_other _ _ e] at ht; exact h k t ht
 ·exact h k t ht

def LoadOk (st : (Nat → List ByteArray) × Int) : Prop := Few st.1 ∧ AllMay st.1
theorem loadOk_step {st : (Nat → List ByteArray) × Int} (h : LoadOk st) (k : Nat) (s : ByteArray) : LoadOk (loadStep k st s) := by
 unfold loadStep
 split
 ·exact h
 ·split
  ·exact h
  ·split
   ·exact h
   ·exact ⟨few_put h.1 _ _, allMay_put h.2 _ _⟩
theorem loadOk_fold (k : Nat) : ∀ (l : List ByteArray) {st : (Nat → List ByteArray) × Int}, LoadOk st → LoadOk (l.foldl (loadStep k) st)
 | [], _, h => h
 | s :: r, _, h => loadOk_fold k r (loadOk_step h k s)
theorem loadOk_to (ls : Nat → List ByteArray) : ∀ j, LoadOk (loadTo ls j)
 | 0 => ⟨few_nil, allMay_nil⟩
 | j + 1 => loadOk_fold _ _ (loadOk_to ls j)

theorem loadStep_ok {st : (Nat → List ByteArray) × Int} {k : Nat} {s : ByteArray} (h0 : (loadStep k st s).2 = 0) :
  st.2 = 0 ∧ (loadStep k st s).1 = upd st.1 k (st.1 k ++ [s]) ∧ s ∉ st.1 k := by
 unfold loadStep at h0 ⊢
 split at h0
 ·next h => exact absurd h0 h
 ·next h =>
  rw [if_neg h]
  split at h0
  ·simp at h0
  ·next h1 =>
   rw [if_neg h1]
   split at h0
   ·next h2 => exact absurd h0 h2
   ·next h2 =>
    rw [if_neg h2]
    refine ⟨by simpa using h, ?_, h1⟩
    have h3 : putE st.1 k s = 0 := by simpa using h2
    unfold putE at h3
    split at h3
    ·simp at h3
    ·next h4 =>
     split at h3
     ·simp at h3
     ·next h5 =>
      simp only [Int.toNat_natCast, if_neg h1] at h3
      split at h3
      ·next h6 =>
       show putL st.1 k s = _
       unfold putL
       rw [if_pos ⟨by omega, by omega, by simpa using h5, by simpa using h1, by simpa using h6⟩]
       simp
      ·simp at h3
theorem fold_ok {k : Nat} : ∀ (l : List ByteArray) (st : (Nat → List ByteArray) × Int), (l.foldl (loadStep k) st).2 = 0 → (l.foldl (loadStep k) st).1 = upd st.1 k (st.1 k ++ l)
 | [], st, _ => by funext j; simp [upd]; intro e; rw [e]
 | s :: r, st, h => by
  rw [List.foldl_cons] at h ⊢
  have hs : (loadStep k st s).2 = 0 := by
   rcases Decidable.em ((loadStep k st s).2 = 0) with h0 | h0
   ·exact h0
   ·rw [load_err h0] at h; exact h
  rw [fold_ok r _ h, (loadStep_ok hs).2.1]
  funext j
  by_cases e : j = k
  ·subst e; simp [upd]
  ·simp [upd, e]
theorem loadTo_ok {ls : Nat → List ByteArray} : ∀ j, (loadTo ls j).2 = 0 → ∀ k, (loadTo ls j).1 k = if 1 ≤ k ∧ k ≤ j then ls k else []
 | 0, _, k => by
  rw [if_neg (by omega)]; rfl
 | j + 1, h, k => by
  have h0 : (loadTo ls j).2 = 0 := by
   rcases Decidable.em ((loadTo ls j).2 = 0) with h0 | h0
   ·exact h0
   ·have := loadTo_err h0 1; rw [this] at h; exact h
  have h1 : (loadTo ls (j + 1)).1 = upd (loadTo ls j).1 (j + 1) ((loadTo ls j).1 (j + 1) ++ ls (j + 1)) := fold_ok _ _ h
  rw [h1]
  by_cases e : k = j + 1
  ·subst e; rw [upd_same, loadTo_ok j h0 (j + 1), if_neg (by omega), if_pos (by omega)]; simp
  ·rw [upd_other _ _ e, loadTo_ok j h0 k]
   by_cases h2 : 1 ≤ k ∧ k ≤ j
   ·rw [if_pos h2, if_pos (by omega)]
   ·rw [if_neg h2, if_neg (by omega)]
theorem fold_len {ls : Nat → List ByteArray} {j i : Nat} (hi : i ≤ (ls (j + 1)).length) (h : (((ls (j + 1)).take i).foldl (loadStep (j + 1)) (loadTo ls j)).2 = 0) :
  ((((ls (j + 1)).take i).foldl (loadStep (j + 1)) (loadTo ls j)).1 (j + 1)).length = i := by
 have h0 : (loadTo ls j).2 = 0 := by
  rcases Decidable.em ((loadTo ls j).2 = 0) with h0 | h0
  ·exact h0
  ·rw [load_err h0] at h; exact h
 rw [fold_ok _ _ h, upd_same, loadTo_ok j h0 (j + 1), if_neg (by omega)]
 simp; omega
theorem put_len {L : Nat → List ByteArray} {k : Nat} {s : ByteArray} (hm : AllMay L) (h1 : 1 ≤ k) (h5 : k ≤ 5) (he : putE L k s = 0) : (putL L k s k).length = if s ∈ L k then (L k).length else (L k).length + 1 := by
 unfold putL
 by_cases hin : s ∈ L k
 ·rw [if_neg (by simp [hin]), if_pos hin]
 ·rw [if_neg hin]
  have : mayB s = true ∧ (L k).length < 4000 := by
   unfold putE at he
   rw [if_neg (by omega)] at he
   split at he
   ·simp at he
   ·next h5 =>
    simp only [Int.toNat_natCast, if_neg hin] at he
    split at he
    ·next h6 => exact ⟨by simpa using h5, h6⟩
    ·simp at he
  rw [if_pos ⟨by omega, by omega, this.1, by simpa using hin, by simpa using this.2⟩]
  simp [upd_same]
theorem put_in {L : Nat → List ByteArray} {k : Nat} {s : ByteArray} (hm : AllMay L) (h1 : 1 ≤ k) (h5 : k ≤ 5) (hin : s ∈ L k) : putE L k s = 0 := by
 unfold putE
 rw [if_neg (by omega), if_neg (by rw [hm k s hin]; simp), if_pos (by simpa using hin)]

def RTabFrom (w : World) (B b : Nat) (L : Nat → List ByteArray) : Prop := RTab w b L (fun j => B ≤ j ∧ j < w.heap.size)
theorem RTabFrom.put {w w' : World} {B b : Nat} {L' : Nat → List ByteArray} (hB : B ≤ w.heap.size) (h : RTabTurned (fun j => B ≤ j ∧ j < w.heap.size) b L' w w') : RTabFrom w' B b L' ∧ Below B w w' := by
 refine ⟨h.1.mono ?_ (fun j hj => hj.2), h.2.toBelow hB (fun k hk => hk.1)⟩
 rintro j (hj | hj)
 ·exact ⟨hj.1, Nat.lt_of_lt_of_le hj.2 h.2.size⟩
 ·exact ⟨by omega, hj.2⟩
theorem RTabFrom.cell {w : World} {B b : Nat} {L : Nat → List ByteArray} (h : RTabFrom w B b L) (k : Nat) (hk : k < 6) : ∃ a c, w.cell? ⟨b, k, none⟩ = some (.slice a (L k).length c) := by
 obtain ⟨a, cap, h⟩ := h; exact ⟨_, _, h.c1 k hk⟩

def RLoadPost (ls : Nat → List ByteArray) (w : World) (e : Ending) (w' : World) : Prop :=
 Below w.heap.size w w' ∧ ((loadTo ls 5).2 = 0 → e = .returned (.tuple #[.pointer (some ⟨w.heap.size + 1, 0, none⟩), .int .i64 0]) ∧ RTabFrom w' (w.heap.size + 1) (w.heap.size + 1) (loadTo ls 5).1) ∧
 ((loadTo ls 5).2 ≠ 0 → e = .returned (.tuple #[.pointer none, .int .i64 (loadTo ls 5).2]))

theorem rload_any (a : Nat → Option Addr) (ls : Nat → List ByteArray) (c : Nat → Nat) (w : World) (hr : ∀ k, k < 6 → RowOf w (a k) ((ls k).map .string)) (hn : ∀ k, k < 6 → (ls k).length ≤ 9223372036854775807)
  (hs : ∀ k, k < 6 → ∀ s ∈ ls k, s.size ≤ maxLen) :
  Calls Tryz.prog 27 #[listsVal a ls c] w (RLoadPost ls w) := by
 have HR := Lib.hid hr
 have HN := Lib.hid hn
 have HS := Lib.hid hs
 clear hr hn hs
 unfold listsVal
 go_enter Tryz.func27, Tryz.ntmps27
 go_wp2_with fail
 obtain ⟨w1, hw1⟩ : ∃ w1, w1 = (w.alloc (.cells #[.slice (a 0) (ls 0).length (c 0), .slice (a 1) (ls 1).length (c 1), .slice (a 2) (ls 2).length (c 2), .slice (a 3) (ls 3).length (c 3), .slice (a 4) (ls 4).length (c 4), .slice (a 5) (ls 5).length (c 5)] 23)).alloc (.cells #[.slice none 0 0, .slice none 0 0, .slice none 0 0, .slice none 0 0, .slice none 0 0, .slice none 0 0] 104) := ⟨_, rfl⟩
 rw [← hw1]
 have hT2 : RTabFrom w1 (w.heap.size + 1) (w.heap.size + 1) (fun _ => []) := by
  refine ⟨fun _ => none, fun _ => 0, ⟨Nat.le_refl _, by rw [hw1]; simp⟩, fun j hj => hj.2, ?_, ?_, ?_, ?_, ?_⟩
  ·intro k hk
   have : k = 0 ∨ k = 1 ∨ k = 2 ∨ k = 3 ∨ k = 4 ∨ k = 5 := by omega
   rw [hw1]
   rcases this with rfl | rfl | rfl | rfl | rfl | rfl <;> (rw [cell_of_row _ _ _ _ _ _ (hp_new2 w _ _)]; rfl)
  ·intro k; rw [hw1]; exact frozen_of_row _ _ _ _ _ (hp_new2 w _ _)
  ·intro k hk; exact .inl rfl
  ·intro k hk _; rfl
  ·intro k hk ad h; cases h
 have hz2 : w1.heap.size = w.heap.size + 1 + 1 := by rw [hw1]; simp
 have hbox : ∀ k, k < 6 → ∀ wr, Below (w.heap.size + 1) w1 wr → wr.cell? ⟨w.heap.size, k, none⟩ = some (.slice (a k) (ls k).length (c k)) := by
  intro k hk wr hb
  rw [hb.cell (by simp), hw1]
  have : k = 0 ∨ k = 1 ∨ k = 2 ∨ k = 3 ∨ k = 4 ∨ k = 5 := by omega
  rcases this with rfl | rfl | rfl | rfl | rfl | rfl <;> (rw [cell_of_row _ _ _ _ _ _ (hp_new1 w _ _)]; rfl)
 have hW : Below w.heap.size w w1 := by rw [hw1]; exact bel2 w _ _
 have HB := Lib.hid hbox
 have HW := Lib.hid hW
 have HZ := Lib.hid hz2
 clear hbox hW hz2 hw1
 go_loopw [5] (fun i wr => ∃ j : Nat, j ≤ 5 ∧ i = .int .i64 (j + 1) ∧ Hid ((loadTo ls j).2 = 0) ∧ RTabFrom wr (w.heap.size + 1) (w.heap.size + 1) (loadTo ls j).1 ∧ Below (w.heap.size + 1) w1 wr) (fun i _ => 7 - (intOf i).toNat)
 case atStart => exact ⟨0, by omega, rfl, rfl, hT2, Below.refl _ _⟩
 case round =>
  obtain ⟨j, hj, rfl, he0, hT, hb⟩ := hrel
  by_cases hlt : j < 5
  ·have hd : decide (((j : Int) + 1) ≤ 5) = true := by simp; omega
   have hrow := HR.out (j + 1) (by omega)
   have hlen := HN.out (j + 1) (by omega)
   have cBx := HB.out (j + 1) (by omega)
   generalize a (j + 1) = aj at hrow cBx
   have CB := Lib.hid cBx
   clear cBx
   obtain ⟨wo, rfl⟩ : ∃ wo : World, wo = wr := ⟨_, rfl⟩
   go_wp2_with fail
   go_loopw [6] (fun t wr => ∃ i : Nat, i ≤ (ls (j + 1)).length ∧ t = .int .i64 i ∧ Hid ((((ls (j + 1)).take i).foldl (loadStep (j + 1)) (loadTo ls j)).2 = 0) ∧ RTabFrom wr (w.heap.size + 1) (w.heap.size + 1) (((ls (j + 1)).take i).foldl (loadStep (j + 1)) (loadTo ls j)).1 ∧ Below (w.heap.size + 1) w1 wr) (fun t _ => (ls (j + 1)).length - (intOf t).toNat)
   case atStart => exact ⟨0, by omega, rfl, he0, hT, hb⟩
   case round =>
    obtain ⟨i, hi, rfl, hi0, hTi, hbi⟩ := hrel
    have cB := CB.out wr hbi
    by_cases hil : i < (ls (j + 1)).length
    ·rcases hrow with hnil | ⟨rb, off, rfl, hcell⟩
     ·have := congrArg List.length hnil; rw [List.length_map, List.length_nil] at this; omega
     ·have HCell := Lib.hid hcell
      clear hcell
      have hget : (ls (j + 1))[i]? = some (ls (j + 1))[i] := by simp [hil]
      have hsz : (ls (j + 1))[i].size ≤ maxLen := HS.out (j + 1) (by omega) _ (List.getElem_mem hil)
      have hc : wr.cell? ⟨rb, off + i, none⟩ = some (.string (ls (j + 1))[i]) := by
       have h0 := HCell.out i (.string (ls (j + 1))[i]) (by simp [hil])
       rw [(HW.out.trans (hbi.mono (Nat.le_succ _))).cell (World.block_lt_of_cell? w _ h0)]; exact h0
      have hzr : w.heap.size + 1 ≤ wr.heap.size := by have := hbi.size; have := HZ.out; omega
      have hfail := fun st h => @loadTo_fails ls j i st _ hlt h hget
      have hnext := take_foldl (loadStep (j + 1)) (ls (j + 1)) (loadTo ls j) i _ hget
      have hlok := loadOk_fold (j + 1) ((ls (j + 1)).take i) (loadOk_to ls j)
      have hln := fold_len (ls := ls) (j := j) (i := i) hi hi0.out
      generalize (ls (j + 1))[i] = s at hsz hc hfail hnext
      generalize hst : ((ls (j + 1)).take i).foldl (loadStep (j + 1)) (loadTo ls j) = st at hi0 hTi hnext hlok hln
      have HF := Lib.hid (hfail st hst)
      have HNx := Lib.hid hnext
      have HL := Lib.hid hlok
      have HLn := Lib.hid hln
      clear hfail hnext hst hget hlok hln
      by_cases hpe : putE st.1 ((j : Int) + 1) s = 0
      ·have hp0 : (putE st.1 ((j : Int) + 1) s != 0) = false := by simp [hpe]
       have hpl : Hid ((putL st.1 ((j : Int) + 1) s (j + 1)).length = if s ∈ st.1 (j + 1) then i else i + 1) := by
        have := put_len HL.out.2 (k := j + 1) (s := s) (by omega) (by omega) (by rw [← hpe]; rfl)
        rw [HLn.out] at this; exact this
       have Hpe := Lib.hid hpe
       clear hpe
       go_wp2_with fail
       refine (rput_any _ _ _ st.1 _ _ hsz hTi HL.out.1).mono ?_
       rintro e w2 ⟨rfl, ht2⟩
       obtain ⟨ht3, hb3⟩ := RTabFrom.put hzr ht2
       obtain ⟨la, lc, hlc⟩ := ht3.cell (j + 1) (by omega)
       rw [hpl.out] at hlc
       clear ht2
       by_cases hin : s ∈ st.1 (j + 1)
       ·rw [if_pos hin] at hlc
        have hst : (loadStep (j + 1) st s).2 = 11 := by unfold loadStep; rw [if_neg (by simpa using hi0.out), if_pos hin]
        have Hst := Lib.hid hst
        clear hst hin
        have hne : ((i : Int) != (i : Int) + 1) = true := by rw [bne_iff_ne]; omega
        go_wp2_with fail
        go_ret2
        have h5 := HF.out (by rw [Hst.out]; decide)
        rw [Hst.out] at h5
        exact ⟨HW.out.trans ((hbi.trans hb3).mono (Nat.le_succ _)), fun h => by rw [h5] at h; simp at h, fun _ => ret_err h5.symm⟩
       ·rw [if_neg hin] at hlc
        have hst : loadStep (j + 1) st s = (putL st.1 ((j : Int) + 1) s, 0) := by unfold loadStep; rw [if_neg (by simpa using hi0.out), if_neg hin, if_neg (by simpa using Hpe.out)]; rfl
        have Hst := Lib.hid hst
        clear hst hin
        have hne : (((i + 1 : Nat) : Int) != (i : Int) + 1) = false := by simp
        go_wp2_with fail
        go_roundw
        case rel =>
         refine ⟨i + 1, by omega, by go_num, ?_, ?_, hbi.trans hb3⟩
         ·rw [HNx.out, Hst.out]; rfl
         ·rw [HNx.out, Hst.out]; exact ht3
        case measure => simp [intOf]; omega
      ·have hp0 : (putE st.1 ((j : Int) + 1) s != 0) = true := by simp [hpe]
       have hst : (loadStep (j + 1) st s).2 = putE st.1 ((j : Int) + 1) s := by
        unfold loadStep
        rw [if_neg (by simpa using hi0.out), if_neg (fun hin => hpe (put_in HL.out.2 (k := j + 1) (by omega) (by omega) hin)), if_pos (by simpa using hpe)]; rfl
       have Hpe := Lib.hid hpe
       have Hst := Lib.hid hst
       clear hpe hst
       go_wp2_with fail
       refine (rput_any _ _ _ st.1 _ _ hsz hTi HL.out.1).mono ?_
       rintro e w2 ⟨rfl, ht2⟩
       obtain ⟨ht3, hb3⟩ := RTabFrom.put hzr ht2
       go_wp2_with fail
       go_ret2
       have h5 := HF.out (by rw [Hst.out]; exact Hpe.out)
       rw [Hst.out] at h5
       exact ⟨HW.out.trans ((hbi.trans hb3).mono (Nat.le_succ _)), fun h => absurd (h5 ▸ h) Hpe.out, fun _ => ret_err h5.symm⟩
    ·have hii : i = (ls (j + 1)).length := by omega
     have hst : loadTo ls (j + 1) = ((ls (j + 1)).take i).foldl (loadStep (j + 1)) (loadTo ls j) := by rw [hii, List.take_length]; rfl
     have Hst := Lib.hid hst
     clear hst
     have Hii := Lib.hid hii
     clear hii
     go_wp2_with fail
     go_roundw
     case rel => exact ⟨j + 1, by omega, by go_num, by rw [Hst.out]; exact hi0, by rw [Hst.out]; exact hTi, hbi⟩
     case measure => simp [intOf]; omega
  ·obtain rfl : j = 5 := by omega
   go_wp2_with fail
   go_ret2
   exact ⟨HW.out.trans (hb.mono (Nat.le_succ _)), fun _ => ⟨rfl, hT⟩, fun h => absurd he0.out h⟩

end Go.Proofs.YtedaffmkpljlnaaGreat
