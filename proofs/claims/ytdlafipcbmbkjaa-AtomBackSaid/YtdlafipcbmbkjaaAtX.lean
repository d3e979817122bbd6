/- The walk of AtomBack. -/
import Derived.Test.YtdlafipcbmbkjaaAtW
import Derived.Deep.CutBlock
import Derived.Deep.RegionHeld3
namespace Go.Proofs.Ytdlafipcbmbkjaa
open Go.RowKit Go.Maps Go.ChangeShapes Go.WideShapes Go.ChangeAt

/-- All that the last part of AtomBack needs of memory. -/
structure BackG (w3 : World) (bt bu ob : Nat) (L : Nat → List ByteArray) (oa : Nat → Option Addr) (oc : Nat → Nat) : Prop where
  t : ∃ S, Tab w3 bt L S
  u : ∃ S, Tab w3 bu (loadTo (backL L) 5).1 S
  cells : ∀ k, k < 6 → w3.cell? ⟨ob, k, none⟩ = some (.slice (oa k) (backL L k).length (oc k)) ∧ RowOf w3 (oa k) ((backL L k).map .string)
theorem BackG.ext {w3 wr : World} {bt bu ob : Nat} {L : Nat → List ByteArray} {oa : Nat → Option Addr} {oc : Nat → Nat} (h : BackG w3 bt bu ob L oa oc) (hb : Below w3.heap.size w3 wr) : BackG wr bt bu ob L oa oc := by
  obtain ⟨S, hS⟩ := h.t
  obtain ⟨S2, hS2⟩ := h.u
  refine ⟨⟨S, hS.kept (S' := fun _ => False) (Chg.ext hb) (fun _ _ x => x)⟩, ⟨S2, hS2.kept (S' := fun _ => False) (Chg.ext hb) (fun _ _ x => x)⟩, fun k hk => ?_⟩
  have h1 := h.cells k hk
  exact ⟨by rw [hb.cell (World.block_lt_of_cell? w3 _ h1.1)]; exact h1.1, h1.2.ext hb⟩

theorem back_size {L : Nat → List ByteArray} (h : GoodL L) {k : Nat} {s : ByteArray} (hs : s ∈ backL L k) : s.size ≤ maxLen := by
  have : mayB s = true := by
    by_cases hk : 1 ≤ k ∧ k ≤ 5
    · rw [backL_in hk] at hs; exact h.may k s hs
    · rw [backL_out hk] at hs; cases hs
  simp only [mayB, decide_eq_true_eq] at this
  unfold maxLen; omega

set_option maxHeartbeats 8000000 in
set_option maxRecDepth 100000 in
theorem back_walk (a : Option Addr) (n cap : Nat) (l : List ActT) (w : World) (hl : Hid (l.length = n)) (hn : n ≤ 9223372036854775807) (ha : Hid (ActsAt w a l)) (hok : Hid (∀ x ∈ l, ActOk x)) :
    Calls Try.prog 7 #[.slice a n cap] w fun e w' => e = .returned (.bool true) ∧ Below w.heap.size w w' := by
  go_enter Try.func7, Try.ntmps7
  go_wp2_with fail
  refine (awake_any _).mono ?_
  rintro e w1 ⟨rfl, hb1⟩
  go_wp2_with fail
  refine (large_any _ _ _ l _ hl hn (ha.out.ext hb1) hok).mono ?_
  rintro e w' ⟨b, rfl, rfl⟩
  cases b
  · go_wp2_with fail
    refine (new_any _).mono ?_
    rintro e w2 ⟨rfl, hb2, hz2, hT2⟩
    have hF : TabFrom w2 w1.heap.size w1.heap.size (putTo l 0) := hT2.mono (by rintro j rfl; exact ⟨Nat.le_refl _, hT2.lt _ rfl⟩) (fun j hj => hj.2)
    clear hz2 hT2
    have hw1 := hb1.size
    go_upto_block 0 with fail
    go_cut [4] (fun _ wx => ∃ i : Nat, TabFrom wx w1.heap.size w1.heap.size (putTo l i) ∧ Below w1.heap.size w1 wx)
    case first =>
      go_wp2_with fail
      go_loopw [4] (fun t wr => ∃ i : Nat, i ≤ n ∧ i ≤ 400 ∧ t = .int .i64 i ∧ TabFrom wr w1.heap.size w1.heap.size (putTo l i) ∧ Below w1.heap.size w1 wr) (fun t _ => n - (intOf t).toNat)
      case atStart => exact ⟨0, by omega, by omega, rfl, hF, hb2⟩
      case round =>
        obtain ⟨i, hi, hi4, rfl, hT, hb⟩ := hrel
        by_cases hlt : i < n
        · have d1 : decide ((i : Int) < (n : Int)) = true := by simp; omega
          by_cases hlt4 : i < 400
          · have d2 : decide ((i : Int) < 400) = true := by simp; omega
            have hil : i < l.length := by have := hl.out; omega
            have hget : l[i]? = some l[i] := by simp [hil]
            obtain ⟨rb, off, rfl, hcell⟩ : ∃ b off, a = some ⟨b, off, none⟩ ∧ _ := ha.out.resolve_left (by intro e; rw [e] at hil; simp at hil)
            obtain ⟨c1, c2, c3⟩ := hcell i l[i] hget
            clear hcell
            have hstep := Lib.hid (putTo_succ hget)
            have hxo := Lib.hid (hok.out l[i] (List.getElem_mem hil))
            have hrbl : rb < w.heap.size := World.block_lt_of_cell? w _ c1
            have hbw := hb1.trans (hb.mono hw1)
            have e1 : wr.cell? ⟨rb, off + i * 3, none⟩ = some (.int .i64 l[i].1) := by rw [hbw.cell hrbl]; exact c1
            have e2 : wr.cell? ⟨rb, off + i * 3 + 1, none⟩ = some (.string l[i].2.1) := by rw [hbw.cell hrbl]; exact c2
            clear c1 c2 c3 hget hbw
            generalize l[i] = xx at e1 e2 hstep hxo
            obtain ⟨xk, xn, xf⟩ := xx
            simp only at e1 e2
            have hxn : xn.size ≤ maxLen := hxo.out.2.2
            have hi0 : (0 : Int) ≤ i := by omega
            have hin : (i : Int) < n := by omega
            have hTd : TabFrom wr.drew w1.heap.size w1.heap.size (putTo l i) := (hT.kept (S' := fun _ => False) (Chg.refl _ wr).drew (fun _ _ x => x))
            have hzr : w1.heap.size ≤ wr.drew.heap.size := hb.size
            go_wp2_with fail
            go_region_with (go_at_call 14; refine (put_any _ _ _ (putTo l i) _ _ hxn hTd).mono ?_; rintro e wc ⟨rfl, htc⟩)
            all_goals
              obtain ⟨hT3, hb3⟩ := TabFrom.put hzr htc
              go_wp2_with fail
              go_roundw
              case rel => exact ⟨i + 1, by omega, by omega, by go_num, by rw [hstep.out]; exact hT3, hb.drew.trans hb3⟩
              case measure => simp [intOf]; omega
          · have d2 : decide ((i : Int) < 400) = false := by simp; omega
            go_wp2_with fail
            go_meet
            exact ⟨i, hT, hb⟩
        · have d1 : decide ((i : Int) < (n : Int)) = false := by simp; omega
          go_wp2_with fail
          go_meet
          exact ⟨i, hT, hb⟩
    case rest =>
      obtain ⟨i, hT, hb⟩ := hcut
      have hg := good_putTo l i
      generalize putTo l i = L at hT hg
      have hO : OwnG (wc.alloc (.cells #[.slice none 0 0, .slice none 0 0, .slice none 0 0, .slice none 0 0, .slice none 0 0, .slice none 0 0] 31)) wc.heap.size (wc.heap.size + 1) (backL L) (fun _ => none) (fun _ => 0) 0 := by
        refine ⟨by simp, fun j => by simp, fun j hj => by omega, fun k _ hk => ?_⟩
        have : k = 0 ∨ k = 1 ∨ k = 2 ∨ k = 3 ∨ k = 4 ∨ k = 5 := by omega
        rcases this with rfl | rfl | rfl | rfl | rfl | rfl <;> simp
      have hbz := hb.size
      go_wp2_with fail
      go_loopw [45] (fun t wr => ∃ (k : Nat) (oa : Nat → Option Addr) (oc : Nat → Nat), k ≤ 6 ∧ t = .int .i64 k ∧ OwnG wr wc.heap.size wr.heap.size (backL L) oa oc k ∧ Below wc.heap.size wc wr) (fun t _ => 6 - (intOf t).toNat)
      case atStart => exact ⟨0, _, _, by omega, rfl, by simpa using hO, bel1 wc _⟩
      case round =>
        obtain ⟨k, oa, oc, hk, rfl, hO, hbk⟩ := hrel
        have hTk : Tab wr w1.heap.size L (fun j => w1.heap.size ≤ j ∧ j < wc.heap.size) := Tab.kept (S' := fun _ => False) hT (Chg.ext hbk) (fun _ _ x => x)
        by_cases hk6 : k < 6
        · have d1 : decide ((k : Int) < 6) = true := by simp; omega
          have cO : wr.cell? ⟨wc.heap.size, k, none⟩ = some (.slice none 0 0) := hO.rest k (Nat.le_refl _) hk6
          have fO : wr.frozen? ⟨wc.heap.size, k, none⟩ = false := hO.fr k
          have hobl : wc.heap.size < wr.heap.size := hO.lt
          have hzk := hbk.size
          go_wp2_with fail
          refine (all_any _ k L _ _ hTk hg.few).mono ?_
          rintro e w2' ⟨⟨a', c', rfl, hown⟩, hb2'⟩
          have hst := Lib.hid (hO.step (a' := a') (c' := c') hk6 hb2' hown)
          have q1 : w2'.cell? ⟨wc.heap.size, k, none⟩ = some (.slice none 0 0) := (by rw [hb2'.cell hobl]; exact cO)
          have q2 : w2'.frozen? ⟨wc.heap.size, k, none⟩ = false := (by rw [hb2'.frozen hobl]; exact fO)
          go_wp2_with fail
          go_roundw
          case rel => exact ⟨k + 1, _, _, by omega, by go_num, hst.out, hbk.trans ((hb2'.mono hzk).setCell (Nat.le_refl _) _)⟩
          case measure => simp [intOf]; omega
        · obtain rfl : k = 6 := by omega
          have c0 := (hO.done 0 (by omega)).1
          have c1 := (hO.done 1 (by omega)).1
          have c2 := (hO.done 2 (by omega)).1
          have c3 := (hO.done 3 (by omega)).1
          have c4 := (hO.done 4 (by omega)).1
          have c5 := (hO.done 5 (by omega)).1
          go_wp2_with fail
          obtain ⟨wb, rfl⟩ : ∃ wb : World, wb = wr := ⟨_, rfl⟩
          have hL := load_any oa (backL L) oc wb (fun k hk => (hO.done k hk).2.2) (fun k _ => by have : (backL L k).length ≤ 4000 := allL_few hg.few k; omega) (fun k _ s hs => back_size hg hs)
          unfold listsVal at hL
          refine hL.mono ?_
          rintro e w3 ⟨hb3, hok3, -⟩
          obtain ⟨rfl, hU⟩ := hok3 (load_back hg 5 (by omega))
          clear hL hok3 c0 c1 c2 c3 c4 c5
          have hG : BackG w3 w1.heap.size (wb.heap.size + 1) wc.heap.size L oa oc := by
            refine ⟨⟨_, hTk.kept (S' := fun _ => False) (Chg.ext hb3) (fun _ _ x => x)⟩, ⟨_, hU⟩, fun k hk => ?_⟩
            have h1 := hO.done k hk
            exact ⟨by rw [hb3.cell (p := ⟨wc.heap.size, k, none⟩) hO.lt]; exact h1.1, h1.2.2.ext hb3⟩
          have hB3 : Below w.heap.size w w3 := hb1.trans ((hb.trans ((hbk.trans (hb3.mono hbk.size)).mono hbz)).mono hw1)
          have HG := Lib.hid hG
          have HB3 := Lib.hid hB3
          have Hg := Lib.hid hg
          have hw3 := hB3.size
          clear hG hB3 hg hU hTk hO hbk hb3 hT ha hok
          generalize wb.heap.size + 1 = bu at HG
          generalize w1.heap.size = bt at HG
          generalize wc.heap.size = ob at HG
          have allU : Hid (∀ (k : Nat) (wx : World), Below w3.heap.size w3 wx → Calls Try.prog 18 #[.pointer (some ⟨bu, 0, none⟩), .int .i64 k] wx fun e w' => OwnRet wx.heap.size 9 (backL L k).length ((backL L k).map .string) e w' ∧ Below wx.heap.size wx w') := by
            intro k wx hx
            obtain ⟨S, hS⟩ := (HG.out.ext hx).u
            have := all_any bu k (loadTo (backL L) 5).1 S wx hS (loadOk_to _ 5).1
            rw [allL_back Hg.out] at this
            exact this
          have lenU : Hid (∀ (k : Nat) (wx : World), Below w3.heap.size w3 wx → Calls Try.prog 21 #[.pointer (some ⟨bu, 0, none⟩), .int .i64 k] wx fun e w' => e = .returned (.int .i64 (backL L k).length) ∧ wx = w') := by
            intro k wx hx
            obtain ⟨S, hS⟩ := (HG.out.ext hx).u
            have := len_any bu k (loadTo (backL L) 5).1 S wx hS
            rw [allL_back Hg.out] at this
            exact this
          go_wp2_with fail
          go_loopw [67] (fun t wr => ∃ k : Nat, k ≤ 6 ∧ t = .int .i64 k ∧ Below w3.heap.size w3 wr) (fun t _ => 6 - (intOf t).toNat)
          case atStart => exact ⟨0, by omega, rfl, Below.refl _ _⟩
          case round =>
            obtain ⟨k, hk, rfl, hbr⟩ := hrel
            by_cases hk6 : k < 6
            · have d1 : decide ((k : Int) < 6) = true := by simp; omega
              have k0 : (0 : Int) ≤ k := by omega
              have k6 : (k : Int) < 6 := by omega
              have hcr := HG.out.ext hbr
              have ck := (hcr.cells k hk6).1
              have hrk := Lib.hid (HG.out.cells k hk6).2
              have hlk : (backL L k).length ≤ 4000 := allL_few Hg.out.few k
              generalize hok : oa k = ok at ck hrk
              have HOK := Lib.hid hok
              clear hok hcr
              have hlob : ob < w3.heap.size := World.block_lt_of_cell? w3 _ (HG.out.cells k hk6).1
              have cx : Hid (∀ wx, Below w3.heap.size w3 wx → wx.cell? ⟨ob, k, none⟩ = some (.slice ok (backL L k).length (oc k))) := by
                intro wx hx; rw [← HOK.out]; exact ((HG.out.ext hx).cells k hk6).1
              go_upto_region 22 with fail
              go_cut [91] (fun s91 wx => s91 = .bool false ∧ Below w3.heap.size w3 wx)
              case first =>
                have hnn : (((backL L k).length : Int) != ((backL L k).length : Int)) = false := by simp
                go_region_held3 (fun w' => w'.cell? ⟨ob, k, none⟩ = some (.slice ok (backL L k).length (oc k))) (first | exact ck | exact qd | exact qf) (first
                  | (go_at_call 18; refine (allU.out _ _ hbr.drew).mono ?_; rintro e wd ⟨⟨va, vc, rfl, hv⟩, hbd⟩; have hbd2 := hbr.drew.trans (hbd.mono hbr.size); have qd := cx.out wd hbd2)
                  | (go_at_call 19; refine (same_eq _ _ _ _ _ (backL L k) _ rfl (by omega) (RowOf.of_owns hv) (hrk.out.ext hbd2)).mono ?_; rintro e wf ⟨rfl, hbf⟩; have hbf2 := hbd2.trans (hbf.mono hbd2.size); have qf := cx.out wf hbf2)
                  | (go_at_call 21; refine (lenU.out _ _ hbf2).mono ?_; rintro e w' ⟨rfl, rfl⟩))
                all_goals
                  go_wp2_with fail
                  go_meet
                  exact ⟨rfl, hbf2⟩
              case rest =>
                obtain ⟨rfl, hbx⟩ := hcut
                have qc := cx.out wc hbx
                clear ck
                obtain ⟨wo, rfl⟩ : ∃ wo : World, wo = wr := ⟨_, rfl⟩
                have hl63 : (backL L k).length ≤ 9223372036854775807 := by omega
                go_wp2_with fail
                go_loopw [96] (fun t wr => ∃ i : Nat, i ≤ (backL L k).length ∧ t = .int .i64 i ∧ Below w3.heap.size w3 wr) (fun t _ => (backL L k).length - (intOf t).toNat)
                case atStart => exact ⟨0, by omega, rfl, hbx⟩
                case round =>
                  obtain ⟨i, hi, rfl, hbi⟩ := hrel
                  by_cases hil : i < (backL L k).length
                  · rcases hrk.out with h0 | ⟨rb2, off2, rfl, hrc⟩
                    · have := congrArg List.length h0; rw [List.length_map, List.length_nil] at this; omega
                    · have hget : (backL L k)[i]? = some (backL L k)[i] := by simp [hil]
                      have hsc := hrc i (.string (backL L k)[i]) (by simp [hil])
                      have hsc2 : wr.cell? ⟨rb2, off2 + i, none⟩ = some (.string (backL L k)[i]) := by rw [hbi.cell (World.block_lt_of_cell? w3 _ hsc)]; exact hsc
                      have hfb := find_back Hg.out hget
                      have hsz := back_size Hg.out (List.getElem_mem hil)
                      have qi := cx.out wr hbi
                      clear hsc hrc hget
                      generalize (backL L k)[i] = s at hsc2 hfb hsz
                      have findU : Hid (∀ wx, Below w3.heap.size w3 wx → Calls Try.prog 12 #[.pointer (some ⟨bu, 0, none⟩), .int .i64 k, .string s] wx fun e w' => e = .returned (.tuple #[.int .u16 ((8192 * k + (i + 1) : Nat) : Int), .bool true]) ∧ wx = w') := by
                        intro wx hx
                        obtain ⟨S, hS⟩ := (HG.out.ext hx).u
                        have := find_any bu k s _ S wx hsz hS
                        rw [hfb.2.2.1, hfb.2.2.2] at this
                        exact this
                      have findT : Hid (∀ wx, Below w3.heap.size w3 wx → Calls Try.prog 12 #[.pointer (some ⟨bt, 0, none⟩), .int .i64 k, .string s] wx fun e w' => e = .returned (.tuple #[.int .u16 ((8192 * k + (i + 1) : Nat) : Int), .bool true]) ∧ wx = w') := by
                        intro wx hx
                        obtain ⟨S, hS⟩ := (HG.out.ext hx).t
                        have := find_any bt k s _ S wx hsz hS
                        rw [hfb.1, hfb.2.1] at this
                        exact this
                      have hnum := Lib.hid (show (8192 * k + (i + 1)) % 8192 = i + 1 by omega)
                      have hsm : 8192 * k + (i + 1) < 65536 := by omega
                      generalize 8192 * k + (i + 1) = A at findU findT hnum hsm
                      clear hfb hsz
                      have i0 : (0 : Int) ≤ i := by omega
                      have i1 : (i : Int) < (backL L k).length := by omega
                      go_wp2_with fail
                      go_quiet ((go_at_call 12; exact quietCall (findU.out _ (below_drewN hbi _))))
                      have hbi2 := below_drewN hbi nq
                      have qi2 := cx.out _ hbi2
                      have hsc3 : (wr.drewN nq).cell? ⟨rb2, off2 + i, none⟩ = some (.string s) := hsc2
                      clear hbi qi hsc2
                      generalize wr.drewN nq = ws at hbi2 qi2 hsc3
                      go_wp2_with fail
                      go_quiet ((go_at_call 12; exact quietCall (findT.out _ (below_drewN hbi2 _))))
                      have hbi3 := below_drewN hbi2 nq
                      clear hbi2 qi2 hsc3
                      go_wp2_with fail
                      refine (number_any A _ hsm).mono ?_
                      rintro e w' ⟨rfl, rfl⟩
                      rw [hnum.out]
                      have hne : (((i + 1 : Nat) : Int) != (i : Int) + 1) = false := by simp
                      go_wp2_with fail
                      go_roundw
                      case rel => exact ⟨i + 1, by omega, by go_num, hbi3⟩
                      case measure => simp [intOf]; omega
                  · go_wp2_with fail
                    go_roundw
                    case rel => exact ⟨k + 1, by omega, by go_num, hbi⟩
                    case measure => simp [intOf]; omega
            · have d1 : decide ((k : Int) < 6) = false := by simp; omega
              go_wp2_with fail
              go_ret
              exact ⟨rfl, HB3.out.trans (hbr.mono hw3)⟩
  · go_wp2_with fail
    go_ret
    exact ⟨rfl, hb1⟩

theorem atomBack_calls {H : Type} {enc : TypeId × Value → H} (W : World) {base : Nat} {v : Value} {d : DataW H} {p : List MemPlace} (hv : Value.okWide Try.prog W .any base 22 v)
    (h : DataW.Trod enc Try.prog W 0 (fun _ => true) true 22 v d p) :
    Calls Try.prog 7 #[v] W fun e w' => e = .returned (.bool true) ∧ Below W.heap.size W w' := by
  obtain ⟨a, n, cap, l, rfl, hl, hn, ha, hok⟩ := open_acts hv h
  exact back_walk a n cap l W hl hn ha hok

end Go.Proofs.Ytdlafipcbmbkjaa
