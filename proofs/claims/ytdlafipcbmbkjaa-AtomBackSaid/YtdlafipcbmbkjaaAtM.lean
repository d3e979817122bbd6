/- The walk of AtomDoes. -/
import Derived.Test.YtdlafipcbmbkjaaAtL
import Derived.Deep.RegionWith
import Derived.Deep.DeepCutAuto
namespace Go.Proofs.Ytdlafipcbmbkjaa
open Go.RowKit Go.Maps Go.ChangeShapes Go.WideShapes Go.ChangeAt

/-- the table behind the first i acts -/
def actStep (L : Nat → List ByteArray) (x : ActT) : Nat → List ByteArray := if x.2.2 then L else putL L x.1 x.2.1
def actsTo (l : List ActT) (i : Nat) : Nat → List ByteArray := (l.take i).foldl actStep (fun _ => [])
theorem few_step {L : Nat → List ByteArray} (h : Few L) (x : ActT) : Few (actStep L x) := by
  unfold actStep; split
  · exact h
  · exact few_put h _ _
theorem few_fold : ∀ (l : List ActT) (L : Nat → List ByteArray), Few L → Few (l.foldl actStep L)
  | [], _, h => h
  | x :: r, L, h => few_fold r _ (few_step h x)
theorem few_acts (l : List ActT) (i : Nat) : Few (actsTo l i) := few_fold _ _ few_nil
theorem actsTo_succ {l : List ActT} {i : Nat} {x : ActT} (h : l[i]? = some x) : actsTo l (i + 1) = actStep (actsTo l i) x := take_foldl actStep l _ i x h

theorem putA_range {L : Nat → List ByteArray} (h : Few L) (kd : Int) (s : ByteArray) : 0 ≤ putA L kd s ∧ putA L kd s < 65536 := by
  unfold putA
  split
  · next he =>
    have hk : 1 ≤ kd ∧ kd ≤ 5 := by
      unfold putE at he
      split at he
      · simp at he
      · omega
    have := posOf_le s (L kd.toNat)
    have := h kd.toNat
    omega
  · omega

theorem allL_few {L : Nat → List ByteArray} (h : Few L) (kd : Int) : (allL L kd).length ≤ 4000 := by
  unfold allL; split
  · exact h _
  · simp

/-- Both tables in memory, apart from each other, from block B on; what was below B is as it was. -/
structure DoesG (B : Nat) (w wr : World) (bt br : Nat) (Lt Lr : Nat → List ByteArray) (St Sr : Nat → Prop) : Prop where
  t : Tab wr bt Lt St
  r : RTab wr br Lr Sr
  apart : ∀ j, St j → ¬ Sr j
  tB : ∀ j, St j → B ≤ j
  rB : ∀ j, Sr j → B ≤ j
  below : Below B w wr
  hB : B ≤ w.heap.size

section
variable {B : Nat} {w wr w' : World} {bt br : Nat} {Lt Lr L' : Nat → List ByteArray} {St Sr : Nat → Prop}
theorem DoesG.sz (h : DoesG B w wr bt br Lt Lr St Sr) : B ≤ wr.heap.size := Nat.le_trans h.hB h.below.size
theorem DoesG.new (h : DoesG B w wr bt br Lt Lr St Sr) (hb : Below wr.heap.size wr w') : DoesG B w w' bt br Lt Lr St Sr :=
  ⟨h.t.kept (S' := fun _ => False) (Chg.ext hb) (fun _ _ x => x), h.r.kept (S' := fun _ => False) (Chg.ext hb) (fun _ _ x => x), h.apart, h.tB, h.rB, h.below.trans (hb.mono h.sz), h.hB⟩
theorem DoesG.putT (h : DoesG B w wr bt br Lt Lr St Sr) (ht : TabTurned St bt L' wr w') : DoesG B w w' bt br L' Lr (Since St wr w') Sr := by
  refine ⟨ht.1, h.r.kept ht.2 (fun j hj hs => h.apart j hs hj), ?_, ?_, h.rB, h.below.trans (ht.2.toBelow h.sz h.tB), h.hB⟩
  · rintro j (hj | hj) hs
    · exact h.apart j hj hs
    · have := h.r.lt j hs; omega
  · rintro j (hj | hj)
    · exact h.tB j hj
    · have := h.sz; omega
theorem DoesG.putR (h : DoesG B w wr bt br Lt Lr St Sr) (ht : RTabTurned Sr br L' wr w') : DoesG B w w' bt br Lt L' St (Since Sr wr w') := by
  refine ⟨h.t.kept ht.2 (fun j hj hs => h.apart j hj hs), ht.1, ?_, h.tB, ?_, h.below.trans (ht.2.toBelow h.sz h.rB), h.hB⟩
  · rintro j hs (hj | hj)
    · exact h.apart j hs hj
    · have := h.t.lt j hs; omega
  · rintro j (hj | hj)
    · exact h.rB j hj
    · have := h.sz; omega
theorem DoesG.own (h : DoesG B w wr bt br Lt Lr St Sr) {g : Nat} (hc : Chg (fun j => j = g) wr w') (hg : B ≤ g) (h1 : ¬ St g) (h2 : ¬ Sr g) : DoesG B w w' bt br Lt Lr St Sr :=
  ⟨h.t.kept hc (fun j hj e => h1 (e ▸ hj)), h.r.kept hc (fun j hj e => h2 (e ▸ hj)), h.apart, h.tB, h.rB, h.below.trans (hc.toBelow h.sz (fun k e => by omega)), h.hB⟩
theorem DoesG.drewN (h : DoesG B w wr bt br Lt Lr St Sr) (q : Nat) : DoesG B w (wr.drewN q) bt br Lt Lr St Sr := h.new (below_drewN (Below.refl _ _) q)
end

def DoesRel (w : World) (bt br : Nat) (L : Nat → List ByteArray) (wr : World) : Prop := ∃ St Sr, DoesG w.heap.size w wr bt br L L St Sr

theorem new_rtab {w1 w2 : World} (hT2 : Tab w2 w1.heap.size (fun _ => []) (fun j => j = w1.heap.size)) (hz : w2.heap.size = w1.heap.size + 1) (hb : Below w1.heap.size w1 w2) {w : World} (hw : Below w.heap.size w w1) :
    DoesRel w w1.heap.size (w1.heap.size + 1) (fun _ => []) (w2.alloc (.cells #[.slice none 0 0, .slice none 0 0, .slice none 0 0, .slice none 0 0, .slice none 0 0, .slice none 0 0] 33)) := by
  have h1 := hw.size
  refine ⟨fun j => j = w1.heap.size, fun j => j = w1.heap.size + 1, hT2.kept (S' := fun _ => False) ((Chg.refl _ w2).alloc _) (fun _ _ x => x), ⟨fun _ => none, fun _ => 0, rfl, ?_, ?_, ?_, ?_, ?_, ?_⟩, ?_, ?_, ?_, ?_, Nat.le_refl _⟩
  · rintro j rfl; simp; omega
  · intro k hk
    have : k = 0 ∨ k = 1 ∨ k = 2 ∨ k = 3 ∨ k = 4 ∨ k = 5 := by omega
    rw [← hz]
    rcases this with rfl | rfl | rfl | rfl | rfl | rfl <;> simp
  · intro k; rw [← hz]; simp
  · intro k hk; exact .inl rfl
  · intro k hk _; rfl
  · intro k hk ad h; cases h
  · rintro j rfl h; omega
  · rintro j rfl; omega
  · rintro j rfl; omega
  · exact (hw.trans (hb.mono h1)).alloc (by have := hb.size; omega) _

set_option maxHeartbeats 8000000 in
set_option maxRecDepth 100000 in
theorem does_walk (rb off n cap x : Nat) (kd : Int) (l : List ActT) (w : World) (hl : Hid (l.length = n)) (hn : n ≤ 9223372036854775807) (ha : Hid (ActsAt w (some ⟨rb, off, none⟩) l)) (hok : Hid (∀ x ∈ l, ActOk x)) (hx : x < 65536)
    (hcell : Hid (∀ i x, l[i]? = some x → w.cell? ⟨rb, off + i * 3, none⟩ = some (.int .i64 x.1) ∧ w.cell? ⟨rb, off + i * 3 + 1, none⟩ = some (.string x.2.1) ∧ w.cell? ⟨rb, off + i * 3 + 2, none⟩ = some (.bool x.2.2))) :
    Calls Try.prog 3 #[.slice (some ⟨rb, off, none⟩) n cap, .int .u16 x, .int .i64 kd] w fun e w' => e = .returned (.bool true) ∧ Below w.heap.size w w' := by
  go_enter Try.func3, Try.ntmps3
  go_wp2_with fail
  refine (awake_any _).mono ?_
  rintro e w1 ⟨rfl, hb1⟩
  go_wp2_with fail
  refine (large_any _ _ _ l _ hl hn (ha.out.ext hb1) hok).mono ?_
  rintro e w' ⟨b, rfl, rfl⟩
  cases b
  · go_wp2_with fail
    refine (new_any _).mono ?_
    rintro e w2 ⟨rfl, hb2, hz2, hT2⟩
    have hrel0 := new_rtab hT2 hz2 hb2 hb1
    go_wp2_with fail
    clear hz2 hT2 hb2 hb1
    generalize w1.heap.size = bt at hrel0
    go_loopw [9] (fun t wr => ∃ i : Nat, i ≤ n ∧ i ≤ 400 ∧ t = .int .i64 i ∧ DoesRel w bt (bt + 1) (actsTo l i) wr) (fun t _ => n - (intOf t).toNat)
    case atStart => exact ⟨0, Nat.zero_le _, by omega, rfl, hrel0⟩
    case round =>
      obtain ⟨i, hi, hi4, rfl, St, Sr, hD⟩ := hrel
      by_cases hlt : i < n
      · have d1 : decide ((i : Int) < (n : Int)) = true := by simp; omega
        by_cases hlt4 : i < 400
        · have d2 : decide ((i : Int) < 400) = true := by simp; omega
          have hil : i < l.length := by have := hl.out; omega
          have hget : l[i]? = some l[i] := by simp [hil]
          obtain ⟨c1, c2, c3⟩ := hcell.out i l[i] hget
          have hstep := Lib.hid (actsTo_succ hget)
          have hxo := Lib.hid (hok.out l[i] (List.getElem_mem hil))
          have hrbl : rb < w.heap.size := World.block_lt_of_cell? w _ c1
          have e1 : wr.cell? ⟨rb, off + i * 3, none⟩ = some (.int .i64 l[i].1) := by rw [hD.below.cell hrbl]; exact c1
          have e2 : wr.cell? ⟨rb, off + i * 3 + 1, none⟩ = some (.string l[i].2.1) := by rw [hD.below.cell hrbl]; exact c2
          have e3 : wr.cell? ⟨rb, off + i * 3 + 2, none⟩ = some (.bool l[i].2.2) := by rw [hD.below.cell hrbl]; exact c3
          clear c1 c2 c3 hget
          generalize l[i] = xx at e1 e2 e3 hstep hxo
          obtain ⟨xk, xn, xf⟩ := xx
          simp only at e1 e2 e3
          have hxn : xn.size ≤ maxLen := hxo.out.2.2
          have hfw := few_acts l i
          have HF := Lib.hid hfw
          clear hfw
          generalize actsTo l i = L at hD hstep HF
          obtain ⟨wa, hwa⟩ : ∃ wa, wa = wr.alloc (.cells #[.int .i64 xk, .string xn, .bool xf] 35) := ⟨_, rfl⟩
          have hD1 : DoesG w.heap.size w wa bt (bt + 1) L L St Sr := by rw [hwa]; exact hD.new (bel1 wr _)
          have b0 : wa.cell? ⟨wr.heap.size, 0, none⟩ = some (.int .i64 xk) := by rw [hwa]; simp
          have b1 : wa.cell? ⟨wr.heap.size, 1, none⟩ = some (.string xn) := by rw [hwa]; simp
          have b2 : wa.cell? ⟨wr.heap.size, 2, none⟩ = some (.bool xf) := by rw [hwa]; simp
          have s1 : Hid (¬ St wr.heap.size) := fun h => by have := hD.t.lt _ h; omega
          have s2 : Hid (¬ Sr wr.heap.size) := fun h => by have := hD.r.lt _ h; omega
          have hDz := hD.sz
          have HWA := Lib.hid hwa
          clear hwa
          go_wp2_with fail
          rw [← HWA.out]
          clear HWA e1 e2 e3 hD
          generalize wr.heap.size = xb at b0 b1 b2 s1 s2 hDz
          go_quiet ((go_at_call 12; exact quietCall (find_any _ _ _ L _ _ hxn (hD1.drewN _).t)))
          have hD2 := hD1.drewN nq
          have b0' : (wa.drewN nq).cell? ⟨xb, 0, none⟩ = some (.int .i64 xk) := b0
          have b1' : (wa.drewN nq).cell? ⟨xb, 1, none⟩ = some (.string xn) := b1
          have b2' : (wa.drewN nq).cell? ⟨xb, 2, none⟩ = some (.bool xf) := b2
          clear hD1 b0 b1 b2
          generalize wa.drewN nq = wb at hD2 b0' b1' b2'
          go_wp2_with fail
          refine (rfind_any _ _ _ L _ _ hD2.r HF.out).mono ?_
          rintro e w' ⟨rfl, rfl⟩
          go_upto_if 80 with fail
          go_cut [15] (fun _ wx => DoesRel w bt (bt + 1) (actsTo l (i + 1)) wx)
          case first =>
            cases xf
            · have HF2 := Lib.hid (few_put HF.out xk xn)
              have hst : Hid (actsTo l (i + 1) = putL L xk xn) := hstep.out
              obtain ⟨pa, hpa⟩ := Int.eq_ofNat_of_zero_le (putA_range HF.out xk xn).1
              have hpa2 : pa < 65536 := by have := (putA_range HF.out xk xn).2; omega
              have HPA := Lib.hid hpa
              clear hstep hpa
              have hDd : DoesG w.heap.size w wb.drew bt (bt + 1) L L St Sr := hD2.new (Below.refl _ wb).drew
              go_wp2_with fail
              go_region_with (go_at_call 14; refine (put_any _ _ _ L _ _ hxn hDd.t).mono ?_; rintro e wc ⟨rfl, htc⟩)
              all_goals
                have hD3 := hDd.putT htc
                have q0 : wc.cell? ⟨xb, 0, none⟩ = some (.int .i64 xk) := htc.2.cell (a := ⟨xb, 0, none⟩) s1.out b0'
                have q1 : wc.cell? ⟨xb, 1, none⟩ = some (.string xn) := htc.2.cell (a := ⟨xb, 1, none⟩) s1.out b1'
                clear htc hDd hD2 b0' b1' b2'
                go_wp2_with fail
                refine (rput_any _ _ _ L _ _ hxn hD3.r HF.out).mono ?_
                rintro e wd ⟨rfl, htd⟩
                have hD4 := hD3.putR htd
                clear htd hD3 q0 q1
                rw [HPA.out]
                go_wp2_with fail
                refine (name_any _ pa (putL L xk xn) _ _ hpa2 hD4.t).mono ?_
                rintro e w' ⟨rfl, rfl⟩
                go_wp2_with fail
                refine (rname_any _ pa (putL L xk xn) _ _ hpa2 hD4.r).mono ?_
                rintro e w' ⟨rfl, rfl⟩
                go_wp2_with fail
                go_meet
                exact ⟨_, _, by rw [hst.out]; exact hD4⟩
            · have hst : Hid (actsTo l (i + 1) = L) := hstep.out
              go_wp2_with fail
              go_meet
              exact ⟨St, Sr, by rw [hst.out]; exact hD2⟩
          case rest =>
            clear hstep s1 s2 hDz b0' b1' b2' hD2 HF hxo
            have HF := Lib.hid (few_acts l (i + 1))
            generalize hL2 : actsTo l (i + 1) = L2 at hcut HF
            have HL2 := Lib.hid hL2
            clear hL2
            obtain ⟨St2, Sr2, hE⟩ := hcut
            go_wp2_with fail
            refine (all_any _ kd L2 _ _ hE.t HF.out).mono ?_
            rintro e wd ⟨⟨va, vc, rfl, hv⟩, hbd⟩
            have hE2 := hE.new hbd
            go_wp2_with fail
            refine (rall_any _ kd L2 _ _ hE2.r HF.out).mono ?_
            rintro e we ⟨⟨va2, vc2, rfl, hv2⟩, hbe⟩
            have hE3 := hE2.new hbe
            have hlen : (allL L2 kd).length ≤ 4000 := allL_few HF.out kd
            have hr1 : RowOf we va ((allL L2 kd).map .string) := (RowOf.of_owns hv).ext hbe
            have hr2 : RowOf we va2 ((allL L2 kd).map .string) := RowOf.of_owns hv2
            go_wp2_with fail
            refine (same_eq _ _ _ _ _ (allL L2 kd) _ rfl (by omega) hr1 hr2).mono ?_
            rintro e wf ⟨rfl, hbf⟩
            have hE4 := hE3.new hbf
            go_wp2_with fail
            refine (len_any _ kd L2 _ _ hE4.t).mono ?_
            rintro e w' ⟨rfl, rfl⟩
            have hv3 := owns_ext (owns_ext hv hbe) hbf
            have hge : ∀ k, (Value.slice va (allL L2 kd).length vc).ownBlock = some k → wc.heap.size ≤ k := fun k hk => (hv.lt k hk).1
            have hlen2 : (allL L2 kd).length ≤ 9223372036854775807 := by omega
            have hS1 := hE.t.lt
            have hS2 := hE.r.lt
            have hwz := hE.sz
            have HE := Lib.hid hE4
            have HG := Lib.hid hge
            have HS1 := Lib.hid hS1
            have HS2 := Lib.hid hS2
            clear hge hS1 hS2 hE hE2 hE3 hE4 hr1 hr2 hv hv2 hbd hbe hbf HF hcell hok ha hlen
            rcases hv3.2 with ⟨hn1, hn2⟩ | ⟨g, cp, cur, hn1, _⟩
            · injection hn1 with hn1 hn3 hn4
              subst hn1 hn4
              rw [hn2]
              clear hv3 HG
              go_wp2_with fail
              refine wp_loop_rounds 1 ?_
              rw [rounds_succ]
              go_wp2_with fail
              go_roundw
              case rel => exact ⟨i + 1, by omega, by omega, by go_num, _, _, by rw [HL2.out]; exact HE.out⟩
              case measure => simp [intOf]; omega
            · injection hn1 with hn1 _ hn4
              subst hn1
              have hgg := HG.out g rfl
              go_wp2_with fail
              obtain ⟨wo, rfl⟩ : ∃ wo : World, wo = wr := ⟨_, rfl⟩
              generalize (allL L2 kd).length = m at hv3 hlen2
              go_loopw [154] (fun t wr => ∃ k : Nat, k ≤ m ∧ t = .int .i64 k ∧ Chg (fun j => j = g) wf wr ∧ ∃ xs, wr.ownsRow wc.heap.size 9 1 (.slice (some ⟨g, 0, none⟩) m vc) m xs) (fun t _ => m - (intOf t).toNat)
              case atStart => exact ⟨0, Nat.zero_le _, rfl, Chg.refl _ _, _, hv3⟩
              case round =>
                obtain ⟨k, hk, rfl, hch, xs, hox⟩ := hrel
                by_cases hkm : k < m
                · have hxs : xs.length = m := by have := hox.1; omega
                  obtain ⟨u, cc⟩ : ∃ u, wr.cell? ⟨g, k, none⟩ = some u := ⟨xs[k]'(by omega), by rw [hox.cellAt k (by omega)]; simp [hxs, hkm]⟩
                  have cf : wr.frozen? ⟨g, k, none⟩ = false := hox.frozenAt k
                  have hst := Lib.hid (hox.stored k (.string ⟨#[63]⟩))
                  clear hxs
                  go_wp2_with fail
                  go_roundw
                  case rel => exact ⟨k + 1, by omega, by go_num, hch.setCell _ _ (fun _ => rfl), _, hst.out.1⟩
                  case measure => simp [intOf]; omega
                · go_wp2_with fail
                  go_roundw
                  case rel => exact ⟨i + 1, by omega, by omega, by go_num, _, _, by rw [HL2.out]; exact HE.out.own hch (by omega) (fun h => by have := HS1.out _ h; omega) (fun h => by have := HS2.out _ h; omega)⟩
                  case measure => simp [intOf]; omega
        · have d2 : decide ((i : Int) < 400) = false := by simp; omega
          go_wp2_with fail
          refine (name_any _ x (actsTo l i) _ _ hx hD.t).mono ?_
          rintro e w' ⟨rfl, rfl⟩
          go_wp2_with fail
          refine (rname_any _ x (actsTo l i) _ _ hx hD.r).mono ?_
          rintro e w' ⟨rfl, rfl⟩
          go_wp2_with fail
          refine (kind_any _ _ hx).mono ?_
          rintro e w' ⟨rfl, rfl⟩
          go_wp2_with fail
          refine (rkind_any _ _ hx).mono ?_
          rintro e w' ⟨rfl, rfl⟩
          go_wp2_with fail
          refine (number_any _ _ hx).mono ?_
          rintro e w' ⟨rfl, rfl⟩
          go_wp2_with fail
          refine (rnumber_any _ _ hx).mono ?_
          rintro e w' ⟨rfl, rfl⟩
          go_wp2_with fail
          go_ret
          exact ⟨rfl, hD.below⟩
      · have d1 : decide ((i : Int) < (n : Int)) = false := by simp; omega
        go_wp2_with fail
        refine (name_any _ x (actsTo l i) _ _ hx hD.t).mono ?_
        rintro e w' ⟨rfl, rfl⟩
        go_wp2_with fail
        refine (rname_any _ x (actsTo l i) _ _ hx hD.r).mono ?_
        rintro e w' ⟨rfl, rfl⟩
        go_wp2_with fail
        refine (kind_any _ _ hx).mono ?_
        rintro e w' ⟨rfl, rfl⟩
        go_wp2_with fail
        refine (rkind_any _ _ hx).mono ?_
        rintro e w' ⟨rfl, rfl⟩
        go_wp2_with fail
        refine (number_any _ _ hx).mono ?_
        rintro e w' ⟨rfl, rfl⟩
        go_wp2_with fail
        refine (rnumber_any _ _ hx).mono ?_
        rintro e w' ⟨rfl, rfl⟩
        go_wp2_with fail
        go_ret
        exact ⟨rfl, hD.below⟩
  · go_wp2_with fail
    go_ret
    exact ⟨rfl, hb1⟩

set_option maxHeartbeats 8000000 in
set_option maxRecDepth 100000 in
theorem does_empty (a : Option Addr) (cap x : Nat) (kd : Int) (w : World) (hx : x < 65536) :
    Calls Try.prog 3 #[.slice a 0 cap, .int .u16 x, .int .i64 kd] w fun e w' => e = .returned (.bool true) ∧ Below w.heap.size w w' := by
  go_enter Try.func3, Try.ntmps3
  go_wp2_with fail
  refine (awake_any _).mono ?_
  rintro e w1 ⟨rfl, hb1⟩
  go_wp2_with fail
  refine (large_any a 0 cap [] _ rfl (by omega) (.inl rfl) (by intro x hx; cases hx)).mono ?_
  rintro e w' ⟨b, rfl, rfl⟩
  cases b
  · go_wp2_with fail
    refine (new_any _).mono ?_
    rintro e w2 ⟨rfl, hb2, hz2, hT2⟩
    obtain ⟨St, Sr, hD⟩ := new_rtab hT2 hz2 hb2 hb1
    go_wp2_with fail
    clear hz2 hT2 hb2 hb1
    refine wp_loop_rounds 1 ?_
    rw [rounds_succ]
    go_wp2_with fail
    refine (name_any _ x (fun _ => []) _ _ hx hD.t).mono ?_
    rintro e w' ⟨rfl, rfl⟩
    go_wp2_with fail
    refine (rname_any _ x (fun _ => []) _ _ hx hD.r).mono ?_
    rintro e w' ⟨rfl, rfl⟩
    go_wp2_with fail
    refine (kind_any _ _ hx).mono ?_
    rintro e w' ⟨rfl, rfl⟩
    go_wp2_with fail
    refine (rkind_any _ _ hx).mono ?_
    rintro e w' ⟨rfl, rfl⟩
    go_wp2_with fail
    refine (number_any _ _ hx).mono ?_
    rintro e w' ⟨rfl, rfl⟩
    go_wp2_with fail
    refine (rnumber_any _ _ hx).mono ?_
    rintro e w' ⟨rfl, rfl⟩
    go_wp2_with fail
    go_ret
    exact ⟨rfl, hD.below⟩
  · go_wp2_with fail
    go_ret
    exact ⟨rfl, hb1⟩

end Go.Proofs.Ytdlafipcbmbkjaa
