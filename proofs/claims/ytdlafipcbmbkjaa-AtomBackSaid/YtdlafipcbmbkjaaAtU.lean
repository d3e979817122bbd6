/- The walk of AtomLoads. -/
import Derived.Test.YtdlafipcbmbkjaaAtT
import Derived.Test.YtdlafipcbmbkjaaAtO
namespace Go.Proofs.Ytdlafipcbmbkjaa
open Go.RowKit Go.Maps Go.ChangeShapes Go.WideShapes Go.ChangeAt

/-- A slice of names that may be written: its row lies in a block between B and C. -/
def WRow (w : World) (B C : Nat) (a : Option Addr) (n : Nat) : Prop := n = 0 ∨ ∃ g cur, a = some ⟨g, 0, none⟩ ∧ B ≤ g ∧ g < C ∧ w.heap[g]? = some (.cells cur 9 (0, 0)) ∧ n ≤ cur.size
theorem WRow.of_owns {w : World} {B : Nat} {a : Option Addr} {n c : Nat} {xs : List Value} (h : w.ownsRow B 9 1 (.slice a n c) n xs) : WRow w B w.heap.size a n := by
  rcases h.2 with ⟨_, h0⟩ | ⟨g, cap, cur, hv, hb, hg, hnc, _, hcs, _⟩
  · exact .inl h0
  · injection hv with hv _ _
    exact .inr ⟨g, cur, hv, hb, lt_of_block hg, hg, by omega⟩
theorem WRow.mono {w : World} {B B' C C' : Nat} {a : Option Addr} {n : Nat} (h : WRow w B C a n) (h1 : B' ≤ B) (h2 : C ≤ C') : WRow w B' C' a n := by
  rcases h with h | ⟨g, cur, e, hb, hc, r⟩
  · exact .inl h
  · exact .inr ⟨g, cur, e, by omega, by omega, r⟩
theorem WRow.ext {w w' : World} {B C : Nat} {a : Option Addr} {n : Nat} (h : WRow w B C a n) (hb : Below C w w') : WRow w' B C a n := by
  rcases h with h | ⟨g, cur, e, hb1, hc, hg, r⟩
  · exact .inl h
  · exact .inr ⟨g, cur, e, hb1, hc, by rw [hb.block g hc]; exact hg, r⟩
theorem WRow.setCell {w : World} {B C : Nat} {a : Option Addr} {n : Nat} (h : WRow w B C a n) (ad : Addr) (u : Value) : WRow (w.setCell ad u) B C a n := by
  rcases h with h | ⟨g, cur, e, hb1, hc, hg, r⟩
  · exact .inl h
  · by_cases e2 : g = ad.block
    · refine .inr ⟨g, if ad.spot.isSome then cur else cur.setIfInBounds ad.off u, e, hb1, hc, ?_, ?_⟩
      · subst e2; simp [World.setCell, Array.getElem?_modify, hg]
      · split
        · exact r
        · simpa using r
    · exact .inr ⟨g, cur, e, hb1, hc, by rw [heap_setCell_other _ _ _ _ e2]; exact hg, r⟩
theorem WRow.cell {w : World} {B C : Nat} {a : Option Addr} {n : Nat} (h : WRow w B C a n) {i : Nat} (hi : i < n) : ∃ g u, a = some ⟨g, 0, none⟩ ∧ B ≤ g ∧ g < C ∧ w.cell? ⟨g, i, none⟩ = some u ∧ w.frozen? ⟨g, i, none⟩ = false := by
  rcases h with h | ⟨g, cur, e, hb1, hc, hg, r⟩
  · omega
  · exact ⟨g, cur[i]'(by omega), e, hb1, hc, by rw [cell_of_row _ _ _ _ _ _ hg]; simp [show i < cur.size by omega], frozen_of_row _ _ _ _ _ hg⟩

/-- The array 'own' in block ob: the first k lists are copied. -/
structure OwnG (w : World) (ob C : Nat) (ls : Nat → List ByteArray) (oa : Nat → Option Addr) (oc : Nat → Nat) (k : Nat) : Prop where
  lt : ob < w.heap.size
  fr : ∀ j, w.frozen? ⟨ob, j, none⟩ = false
  done : ∀ j, j < k → w.cell? ⟨ob, j, none⟩ = some (.slice (oa j) (ls j).length (oc j)) ∧ WRow w (ob + 1) C (oa j) (ls j).length ∧ RowOf w (oa j) ((ls j).map .string)
  rest : ∀ j, k ≤ j → j < 6 → w.cell? ⟨ob, j, none⟩ = some (.slice none 0 0)

theorem OwnG.ext {w w' : World} {ob C : Nat} {ls : Nat → List ByteArray} {oa : Nat → Option Addr} {oc : Nat → Nat} {k : Nat} (h : OwnG w ob C ls oa oc k) (hb : Below w.heap.size w w') (hC : C ≤ w.heap.size) : OwnG w' ob C ls oa oc k :=
  ⟨Nat.lt_of_lt_of_le h.lt hb.size, fun j => by rw [hb.frozen (p := ⟨ob, j, none⟩) h.lt]; exact h.fr j,
   fun j hj => ⟨by rw [hb.cell (p := ⟨ob, j, none⟩) h.lt]; exact (h.done j hj).1, (h.done j hj).2.1.ext (hb.mono hC), (h.done j hj).2.2.ext hb⟩,
   fun j h1 h2 => by rw [hb.cell (p := ⟨ob, j, none⟩) h.lt]; exact h.rest j h1 h2⟩
theorem OwnG.mono {w : World} {ob C C' : Nat} {ls : Nat → List ByteArray} {oa : Nat → Option Addr} {oc : Nat → Nat} {k : Nat} (h : OwnG w ob C ls oa oc k) (hC : C ≤ C') : OwnG w ob C' ls oa oc k :=
  ⟨h.lt, h.fr, fun j hj => ⟨(h.done j hj).1, (h.done j hj).2.1.mono (Nat.le_refl _) hC, (h.done j hj).2.2⟩, h.rest⟩
/-- One list more is copied. -/
theorem OwnG.step {w w1 : World} {ob : Nat} {ls : Nat → List ByteArray} {oa : Nat → Option Addr} {oc : Nat → Nat} {k : Nat} {a' : Option Addr} {c' : Nat} (h : OwnG w ob w.heap.size ls oa oc k) (hk : k < 6) (hb : Below w.heap.size w w1)
    (hown : w1.ownsRow w.heap.size 9 1 (.slice a' (ls k).length c') (ls k).length ((ls k).map .string)) :
    OwnG (w1.setCell ⟨ob, k, none⟩ (.slice a' (ls k).length c')) ob (w1.setCell ⟨ob, k, none⟩ (.slice a' (ls k).length c')).heap.size ls (fun j => if j = k then a' else oa j) (fun j => if j = k then c' else oc j) (k + 1) := by
  have h1 := (h.ext hb (Nat.le_refl _)).mono hb.size
  have hz : (w1.setCell ⟨ob, k, none⟩ (.slice a' (ls k).length c')).heap.size = w1.heap.size := by simp
  have hlt := h.lt
  refine ⟨by rw [hz]; exact h1.lt, fun j => by rw [World.frozen?_setCell]; exact h1.fr j, ?_, ?_⟩
  · intro j hj
    by_cases e : j = k
    · subst e
      simp only [if_true]
      refine ⟨World.cell?_setCell_same _ _ _ (h1.rest j (Nat.le_refl _) hk), ?_, ?_⟩
      · rw [hz]; exact ((WRow.of_owns hown).mono (by omega) (Nat.le_refl _)).setCell _ _
      · refine (RowOf.of_owns hown).kept (S := fun j => j = ob) ((Chg.refl _ w1).setCell _ _ (fun _ => rfl)) ?_
        intro ad e1 e2
        subst e1
        have := (hown.lt _ rfl).1
        omega
    · simp only [if_neg e]
      have hd := h1.done j (by omega)
      refine ⟨by rw [World.cell?_setCell_other _ _ _ _ (by intro e2; injection e2; omega)]; exact hd.1, ?_, ?_⟩
      · rw [hz]; exact hd.2.1.setCell _ _
      · rcases hd.2.1 with h0 | ⟨g, cur, e3, hg, _⟩
        · left; rw [List.eq_nil_of_length_eq_zero h0]; rfl
        · refine hd.2.2.kept (S := fun j => j = ob) ((Chg.refl _ w1).setCell _ _ (fun _ => rfl)) ?_
          intro ad e1 e2
          rw [e1] at e3; injection e3 with e3; subst e3; simp at e2; omega
  · intro j h2 h3
    rw [World.cell?_setCell_other _ _ _ _ (by intro e2; injection e2; omega)]
    exact h1.rest j (by omega) h3

/-- The copied lists in memory: they may be written. -/
def OwnW (w : World) (ob C : Nat) (n : Nat → Nat) (oa : Nat → Option Addr) (oc : Nat → Nat) : Prop :=
  ∀ j, j < 6 → w.cell? ⟨ob, j, none⟩ = some (.slice (oa j) (n j) (oc j)) ∧ WRow w (ob + 1) C (oa j) (n j)
theorem OwnW.ext {w w' : World} {ob C : Nat} {n : Nat → Nat} {oa : Nat → Option Addr} {oc : Nat → Nat} (h : OwnW w ob C n oa oc) (hb : Below C w w') (hC : ob < C) : OwnW w' ob C n oa oc :=
  fun j hj => ⟨by rw [hb.cell (p := ⟨ob, j, none⟩) hC]; exact (h j hj).1, (h j hj).2.ext hb⟩
theorem OwnW.setCell {w : World} {ob C : Nat} {n : Nat → Nat} {oa : Nat → Option Addr} {oc : Nat → Nat} (h : OwnW w ob C n oa oc) {g : Nat} (i : Nat) (u : Value) (hg : ob + 1 ≤ g) : OwnW (w.setCell ⟨g, i, none⟩ u) ob C n oa oc :=
  fun j hj => ⟨by rw [World.cell?_setCell_other _ _ _ _ (by intro e; injection e; omega)]; exact (h j hj).1, (h j hj).2.setCell _ _⟩

set_option maxHeartbeats 8000000 in
set_option maxRecDepth 100000 in
theorem loads_walk (a : Nat → Option Addr) (ls : Nat → List ByteArray) (c : Nat → Nat) (w : World) (hr : Hid (∀ k, k < 6 → RowOf w (a k) ((ls k).map .string))) (hn : Hid (∀ k, k < 6 → (ls k).length ≤ 9223372036854775807))
    (hs : Hid (∀ k, k < 6 → ∀ s ∈ ls k, s.size ≤ maxLen)) (hcn : Hid (∀ k, k < 6 → a k = none → c k = 0)) :
    Calls Try.prog 5 #[listsVal a ls c] w fun e w' => e = .returned (.bool true) ∧ Below w.heap.size w w' := by
  unfold listsVal
  obtain ⟨i0, hi, hz0, hz1, hz2⟩ := info_parts infoStr
  go_enter Try.func5, Try.ntmps5
  go_wp2_with fail
  refine (awake_any _).mono ?_
  rintro e w1 ⟨rfl, hb1⟩
  have hbox : Hid (∀ k, k < 6 → ∀ wr, Below w1.heap.size w1 wr → wr.cell? ⟨w.heap.size, k, none⟩ = some (.slice (a k) (ls k).length (c k))) := by
    intro k hk wr hb
    have h1 := hb1.size
    simp at h1
    rw [hb.cell (p := ⟨w.heap.size, k, none⟩) (by simp; omega), hb1.cell (by simp)]
    have : k = 0 ∨ k = 1 ∨ k = 2 ∨ k = 3 ∨ k = 4 ∨ k = 5 := by omega
    rcases this with rfl | rfl | rfl | rfl | rfl | rfl <;> simp
  have hW : Below w.heap.size w w1 := (bel1 w _).trans (hb1.mono (by simp))
  have hwz : w.heap.size + 1 ≤ w1.heap.size := by have := hb1.size; simpa using this
  clear hb1
  have hO : OwnG (w1.alloc (.cells #[.slice none 0 0, .slice none 0 0, .slice none 0 0, .slice none 0 0, .slice none 0 0, .slice none 0 0] 31)) w1.heap.size (w1.heap.size + 1) ls (fun _ => none) (fun _ => 0) 0 := by
    refine ⟨by simp, fun j => by simp, fun j hj => by omega, fun k _ hk => ?_⟩
    have : k = 0 ∨ k = 1 ∨ k = 2 ∨ k = 3 ∨ k = 4 ∨ k = 5 := by omega
    rcases this with rfl | rfl | rfl | rfl | rfl | rfl <;> simp
  go_wp2_with fail
  go_loopw [16] (fun t wr => ∃ (k : Nat) (oa : Nat → Option Addr) (oc : Nat → Nat), k ≤ 6 ∧ t = .int .i64 k ∧ OwnG wr w1.heap.size wr.heap.size ls oa oc k ∧ Below w1.heap.size w1 wr) (fun t _ => 6 - (intOf t).toNat)
  case atStart => exact ⟨0, _, _, by omega, rfl, by simpa using hO, bel1 w1 _⟩
  case round =>
    obtain ⟨k, oa, oc, hk, rfl, hO, hb⟩ := hrel
    by_cases hk6 : k < 6
    · have d1 : decide ((k : Int) < 6) = true := by simp; omega
      have cB := hbox.out k hk6 wr hb
      by_cases hl4 : 400 < (ls k).length
      · go_wp2_with fail
        go_ret
        exact ⟨rfl, hW.trans (hb.mono (by omega))⟩
      · have d2 : decide (400 < (((ls k).length : Nat) : Int)) = false := by simp; omega
        have hrow := hr.out k hk6
        have hcap := Lib.hid (hcn.out k hk6)
        have hsk := Lib.hid (hs.out k hk6)
        have hzk := hb.size
        have cO : wr.cell? ⟨w1.heap.size, k, none⟩ = some (.slice none 0 0) := hO.rest k (Nat.le_refl _) hk6
        have fO : wr.frozen? ⟨w1.heap.size, k, none⟩ = false := hO.fr k
        have hstep := Lib.hid (fun w2 a' c' => @OwnG.step wr w2 w1.heap.size ls oa oc k a' c' hO hk6)
        have hobl : w1.heap.size < wr.heap.size := hO.lt
        generalize a k = ak at cB hrow hcap
        have HR2 := Lib.hid hrow
        clear hrow
        have hl4' : (ls k).length ≤ 400 := by omega
        generalize hlk : ls k = lk at *
        have HLK := Lib.hid hlk
        clear hlk
        obtain ⟨wo, rfl⟩ : ∃ wo : World, wo = wr := ⟨_, rfl⟩
        go_wp2_with fail
        go_loop [28] (fun t => ∃ i : Nat, i ≤ lk.length ∧ t = .int .i64 i) (fun t => lk.length - (intOf t).toNat)
        case atStart => exact ⟨0, by omega, rfl⟩
        case round =>
          obtain ⟨i, hi', rfl⟩ := hrel
          by_cases hil : i < lk.length
          · rcases HR2.out with h0 | ⟨rb, off, rfl, hcell⟩
            · have := congrArg List.length h0; rw [List.length_map, List.length_nil] at this; omega
            · have hc := hcell i (.string lk[i]) (by simp [hil])
              have hsz := hsk.out lk[i] (List.getElem_mem hil)
              have hc2 : wo.cell? ⟨rb, off + i, none⟩ = some (.string lk[i]) := by
                rw [(hW.trans (hb.mono (by omega))).cell (World.block_lt_of_cell? w _ hc)]; exact hc
              clear hcell hc
              unfold maxLen at hsz
              generalize lk[i] = x at hc2 hsz
              go_wp2_with fail
              · go_ret
                exact ⟨rfl, hW.trans (hb.mono (by omega))⟩
              · go_round
                case rel => exact ⟨i + 1, by omega, by go_num⟩
                case measure => simp [intOf]; omega
          · have hrw : RowOf wo ak (lk.map .string) := HR2.out.ext (hW.trans (hb.mono (by omega)))
            have HRW := Lib.hid hrw
            clear hrw
            have hq1 := fun o => cell_alloc cB o
            go_wp2_with (at_builtin; refine wpList_append_row _ rfl _ _ 30 rfl wo.heap.size 9 i0 (.string ByteArray.empty) 1 16 Try.underlying30 hi hz0 hz1 hz2 rfl (by decide) (.slice (some ⟨wo.heap.size, 0, none⟩) 0 0) 0 [] rfl (World.ownsRow_made wo #[] 0 (Nat.le_refl _) (Nat.zero_le _) (by simp)) ak lk.length (c k) (lk.map .string) rfl (by simp) (HRW.out.ext ((Below.refl _ wo).alloc (Nat.le_refl _) _)) hcap.out (oneCell_strs lk) (by unfold maxLen; omega) (by omega) (by simp) ?_; intro a' cap' w2 hown hgrow _ _; simp only [Nat.zero_add, List.nil_append] at hown; have hb2 : Below wo.heap.size wo w2 := ((Below.refl _ wo).alloc (Nat.le_refl _) _).grown hgrow (by simp) (by simp [Value.ownBlock]); have q1 : w2.cell? ⟨w1.heap.size, k, none⟩ = some (.slice none 0 0) := (by rw [hb2.cell hobl]; exact cO); have q2 : w2.frozen? ⟨w1.heap.size, k, none⟩ = false := (by rw [hb2.frozen hobl]; exact fO))
            go_roundw
            case rel =>
              exact ⟨k + 1, _, _, by omega, by go_num, hstep.out w2 a' cap' hb2 hown, hb.trans ((hb2.mono hzk).setCell (Nat.le_refl _) _)⟩
            case measure => simp [intOf]; omega
    · obtain rfl : k = 6 := by omega
      have c0 := (hO.done 0 (by omega)).1
      have c1 := (hO.done 1 (by omega)).1
      have c2 := (hO.done 2 (by omega)).1
      have c3 := (hO.done 3 (by omega)).1
      have c4 := (hO.done 4 (by omega)).1
      have c5 := (hO.done 5 (by omega)).1
      go_wp2_with fail
      obtain ⟨wb, rfl⟩ : ∃ wb : World, wb = wr := ⟨_, rfl⟩
      have hL := load_any oa ls oc wb (fun k hk => (hO.done k hk).2.2) hn.out hs.out
      unfold listsVal at hL
      refine hL.mono ?_
      rintro e w3 ⟨hb3, hok, herr⟩
      clear hL
      have hzb := hb.size
      have hB3 : Below w1.heap.size w1 w3 := hb.trans (hb3.mono hzb)
      have e0 := hbox.out 0 (by omega) w3 hB3
      have e1 := hbox.out 1 (by omega) w3 hB3
      have e2 := hbox.out 2 (by omega) w3 hB3
      have e3 := hbox.out 3 (by omega) w3 hB3
      have e4 := hbox.out 4 (by omega) w3 hB3
      have e5 := hbox.out 5 (by omega) w3 hB3
      have hL2 := rload_any a ls c w3 (fun k hk => (hr.out k hk).ext (hW.trans (hB3.mono (by omega)))) hn.out hs.out
      unfold listsVal at hL2
      have HL2 := Lib.hid hL2
      have hOW3 : OwnW w3 w1.heap.size wb.heap.size (fun j => (ls j).length) oa oc := OwnW.ext (w := wb) (fun j hj => ⟨(hO.done j hj).1, (hO.done j hj).2.1⟩) hb3 hO.lt
      have hobl := hO.lt
      have hz3 := hb3.size
      clear hL2 c0 c1 c2 c3 c4 c5
      by_cases he : (loadTo ls 5).2 = 0
      · obtain ⟨rfl, hT⟩ := hok he
        have HE := Lib.hid he
        clear hok herr he
        go_wp2_with fail
        refine HL2.out.mono ?_
        rintro e w4 ⟨hb4, hok2, -⟩
        obtain ⟨rfl, hT4⟩ := hok2 HE.out
        clear hok2 e0 e1 e2 e3 e4 e5 HL2
        have hz4 := hb4.size
        have hD : DoesG w.heap.size w w4 (wb.heap.size + 1) (w3.heap.size + 1) (loadTo ls 5).1 (loadTo ls 5).1 (fun j => wb.heap.size + 1 ≤ j ∧ j < w3.heap.size) (fun j => w3.heap.size + 1 ≤ j ∧ j < w4.heap.size) :=
          ⟨hT.kept (S' := fun _ => False) (Chg.ext hb4) (fun _ _ x => x), hT4, by omega, by omega, by omega, (hW.trans (hB3.mono (by omega))).trans (hb4.mono (by omega)), Nat.le_refl _⟩
        have hOW := hOW3.ext (hb4.mono hz3) hobl
        have hfew := Lib.hid (loadOk_to ls 5).1
        clear hOW3 hb4 hT hT4 hO hB3 hb3 hb
        go_wp2_with fail
        go_loopw [68] (fun t wr => ∃ k : Nat, k ≤ 6 ∧ t = .int .i64 k ∧ OwnW wr w1.heap.size wb.heap.size (fun j => (ls j).length) oa oc ∧ DoesG w.heap.size w wr (wb.heap.size + 1) (w3.heap.size + 1) (loadTo ls 5).1 (loadTo ls 5).1 (fun j => wb.heap.size + 1 ≤ j ∧ j < w3.heap.size) (fun j => w3.heap.size + 1 ≤ j ∧ j < w4.heap.size)) (fun t _ => 6 - (intOf t).toNat)
        case atStart => exact ⟨0, by omega, rfl, hOW, hD⟩
        case round =>
          obtain ⟨k, hk, rfl, hOk, hDk⟩ := hrel
          by_cases hk6 : k < 6
          · have d1 : decide ((k : Int) < 6) = true := by simp; omega
            have hnk := hn.out k hk6
            have ck := (hOk k hk6).1
            obtain ⟨ok, hok⟩ : ∃ x, x = oa k := ⟨_, rfl⟩
            rw [← hok] at ck
            have HOK := Lib.hid hok
            clear hok
            obtain ⟨wo, rfl⟩ : ∃ wo : World, wo = wr := ⟨_, rfl⟩
            go_wp2_with fail
            go_loopw [75] (fun t wr => ∃ i : Nat, i ≤ (ls k).length ∧ t = .int .i64 i ∧ OwnW wr w1.heap.size wb.heap.size (fun j => (ls j).length) oa oc ∧ DoesG w.heap.size w wr (wb.heap.size + 1) (w3.heap.size + 1) (loadTo ls 5).1 (loadTo ls 5).1 (fun j => wb.heap.size + 1 ≤ j ∧ j < w3.heap.size) (fun j => w3.heap.size + 1 ≤ j ∧ j < w4.heap.size)) (fun t _ => (ls k).length - (intOf t).toNat)
            case atStart => exact ⟨0, by omega, rfl, hOk, hDk⟩
            case round =>
              obtain ⟨i, hi', rfl, hOi, hDi⟩ := hrel
              by_cases hil : i < (ls k).length
              · have ci := (hOi k hk6).1
                obtain ⟨g, u, hg1, hg2, hg3, hg4, hg5⟩ := (hOi k hk6).2.cell hil
                rw [hg1] at ci
                rw [hg1] at HOK
                obtain rfl := HOK.out
                clear hg1
                have hnx := Lib.hid (hOi.setCell (g := g) i (.string ⟨#[63]⟩) hg2)
                go_wp2_with fail
                go_roundw
                case rel => exact ⟨i + 1, by omega, by go_num, hnx.out, hDi.own ((Chg.refl (fun j => j = g) _).setCell _ _ (fun _ => rfl)) (by omega) (by omega) (by omega)⟩
                case measure => simp [intOf]; omega
              · go_wp2_with fail
                go_roundw
                case rel => exact ⟨k + 1, by omega, by go_num, hOi, hDi⟩
                case measure => simp [intOf]; omega
          · have d1 : decide ((k : Int) < 6) = false := by simp; omega
            go_wp2_with fail
            go_loopw [12] (fun t wr => ∃ q : Nat, q ≤ 8 ∧ t = .int .i64 ((q : Int) - 1) ∧ DoesG w.heap.size w wr (wb.heap.size + 1) (w3.heap.size + 1) (loadTo ls 5).1 (loadTo ls 5).1 (fun j => wb.heap.size + 1 ≤ j ∧ j < w3.heap.size) (fun j => w3.heap.size + 1 ≤ j ∧ j < w4.heap.size)) (fun t _ => (8 - (intOf t)).toNat)
            case atStart => exact ⟨0, by omega, rfl, hDk⟩
            case round =>
              obtain ⟨q, hq, rfl, hDq⟩ := hrel
              by_cases hq8 : q < 8
              · have d3 : decide (((q : Int) - 1) ≤ 6) = true := by simp; omega
                go_wp2_with fail
                refine (all_any _ ((q : Int) - 1) (loadTo ls 5).1 _ _ hDq.t hfew.out).mono ?_
                rintro e wd ⟨⟨va, vc, rfl, hv⟩, hbd⟩
                have hE2 := hDq.new hbd
                go_wp2_with fail
                refine (rall_any _ ((q : Int) - 1) (loadTo ls 5).1 _ _ hE2.r hfew.out).mono ?_
                rintro e we ⟨⟨va2, vc2, rfl, hv2⟩, hbe⟩
                have hE3 := hE2.new hbe
                have hlen : (allL (loadTo ls 5).1 ((q : Int) - 1)).length ≤ 4000 := allL_few hfew.out _
                have hr1 : RowOf we va ((allL (loadTo ls 5).1 ((q : Int) - 1)).map .string) := (RowOf.of_owns hv).ext hbe
                have hr2 : RowOf we va2 ((allL (loadTo ls 5).1 ((q : Int) - 1)).map .string) := RowOf.of_owns hv2
                go_wp2_with fail
                refine (same_eq _ _ _ _ _ (allL (loadTo ls 5).1 ((q : Int) - 1)) _ rfl (by omega) hr1 hr2).mono ?_
                rintro e wf ⟨rfl, hbf⟩
                have hE4 := hE3.new hbf
                clear hE3 hE2 hr1 hr2 hv hv2 hbd hbe hbf
                go_wp2_with fail
                go_roundw
                case rel => exact ⟨q + 1, by omega, by go_num, hE4⟩
                case measure => simp [intOf]; omega
              · have d3 : decide (((q : Int) - 1) ≤ 6) = false := by simp; omega
                go_wp2_with fail
                go_ret
                exact ⟨rfl, hDq.below⟩
      · have he2 := herr he
        subst he2
        have HE := Lib.hid he
        clear hok herr he
        go_wp2_with fail
        refine HL2.out.mono ?_
        rintro e w4 ⟨hb4, -, herr2⟩
        have he3 := herr2 HE.out
        subst he3
        clear herr2 e0 e1 e2 e3 e4 e5 HL2
        have hz4 := hb4.size
        have hB4 : Below w.heap.size w w4 := (hW.trans (hB3.mono (by omega))).trans (hb4.mono (by omega))
        have hOW := hOW3.ext (hb4.mono hz3) hobl
        clear hOW3 hb4 hO hB3 hb3 hb
        generalize (loadTo ls 5).2 = err
        go_wp2_with fail
        go_loopw [68] (fun t wr => ∃ k : Nat, k ≤ 6 ∧ t = .int .i64 k ∧ OwnW wr w1.heap.size wb.heap.size (fun j => (ls j).length) oa oc ∧ Below w.heap.size w wr) (fun t _ => 6 - (intOf t).toNat)
        case atStart => exact ⟨0, by omega, rfl, hOW, hB4⟩
        case round =>
          obtain ⟨k, hk, rfl, hOk, hDk⟩ := hrel
          by_cases hk6 : k < 6
          · have d1 : decide ((k : Int) < 6) = true := by simp; omega
            have hnk := hn.out k hk6
            have ck := (hOk k hk6).1
            obtain ⟨ok, hok⟩ : ∃ x, x = oa k := ⟨_, rfl⟩
            rw [← hok] at ck
            have HOK := Lib.hid hok
            clear hok
            obtain ⟨wo, rfl⟩ : ∃ wo : World, wo = wr := ⟨_, rfl⟩
            go_wp2_with fail
            go_loopw [75] (fun t wr => ∃ i : Nat, i ≤ (ls k).length ∧ t = .int .i64 i ∧ OwnW wr w1.heap.size wb.heap.size (fun j => (ls j).length) oa oc ∧ Below w.heap.size w wr) (fun t _ => (ls k).length - (intOf t).toNat)
            case atStart => exact ⟨0, by omega, rfl, hOk, hDk⟩
            case round =>
              obtain ⟨i, hi', rfl, hOi, hDi⟩ := hrel
              by_cases hil : i < (ls k).length
              · have ci := (hOi k hk6).1
                obtain ⟨g, u, hg1, hg2, hg3, hg4, hg5⟩ := (hOi k hk6).2.cell hil
                rw [hg1] at ci
                rw [hg1] at HOK
                obtain rfl := HOK.out
                clear hg1
                have hnx := Lib.hid (hOi.setCell (g := g) i (.string ⟨#[63]⟩) hg2)
                go_wp2_with fail
                go_roundw
                case rel => exact ⟨i + 1, by omega, by go_num, hnx.out, hDi.setCell (by show w.heap.size ≤ g; omega) _⟩
                case measure => simp [intOf]; omega
              · go_wp2_with fail
                go_roundw
                case rel => exact ⟨k + 1, by omega, by go_num, hOi, hDi⟩
                case measure => simp [intOf]; omega
          · have d1 : decide ((k : Int) < 6) = false := by simp; omega
            go_wp2_with fail
            refine wp_loop_rounds 1 ?_
            rw [rounds_succ]
            go_wp2_with fail
            go_ret
            exact ⟨rfl, hDk⟩

end Go.Proofs.Ytdlafipcbmbkjaa
