/- The walk of AtomOne. -/
import Derived.Test.YtpiofcjkekpboaaAtY
import Derived.Test.YtpiofcjkekpboaaAtO
import Derived.Deep.CutBlock
import Derived.Deep.RegionWith
import Derived.Deep.RegionHeld3
import Derived.Deep.DeepCutAuto
import Derived.Carry
namespace Go.Proofs.Ytpiofcjkekpboaa
set_option linter.unusedSimpArgs false
set_option linter.unusedVariables false
open Go.RowKit Go.Maps Go.ChangeShapes Go.WideShapes Go.ChangeAt

theorem wpList_lookup_is {P : Program} (w : World) {ops : Array Oper} {rest : List Oper} {o : Oper} {a : Act} {Q : Exit → Act → World → Prop} (hg : o.guard = none) (m x : Operand) (t : TypeId) (hop : o.op = Op.lookup t m x true)
    (k e : TypeId) (K : Keyed P k) (ht : P.underlying t = some (.map k e)) (R : Value → Option (DataW Unit × List MemPlace)) {z : Value} (hz : (zeroValue e).run P w = .ok z w) (zd : DataW Unit) (zp : List MemPlace) (hzd : R z = some (zd, zp)) (b n : Nat) (D : DataW Unit)
    (hm : a.eval m = .map (some b)) (hown : w.ownsMap P k R b n D) (key : Value) (kl : Lit) (hx : a.eval x = key) (hkey : keyOf P k key = some kl) (v0 : Value) (q : Bool) (hq : Maps.has D kl = q) (hv : ∀ v ps, R v = some (D.atKey kl zd, ps) → v = v0)
    (hK : wpList P ops Q rest (a.put o.dst (.tuple #[v0, .bool q])) w) : wpList P ops Q (o :: rest) a w :=
  wpList_lookup_own_ok w hg m x t hop k e K ht R hz zd zp hzd b n D hm hown key kl hx hkey (fun v ps h => by rw [hq, hv v ps h]; exact hK)
theorem owns_heap {P : Program} {k : TypeId} {R : Value → Option (DataW Unit × List MemPlace)} {w w' : World} {b n : Nat} {D : DataW Unit} (h : w.ownsMap P k R b n D) (he : w'.heap[b]? = w.heap[b]?) : w'.ownsMap P k R b n D := by
  obtain ⟨es, clock, hb, r⟩ := h
  exact ⟨es, clock, he.trans hb, r⟩
theorem zero01_key (w : World) : (zeroValue 45).run Try.prog w = .ok (.agg #[.int .i64 0, .string ByteArray.empty]) w := by kernel_rfl
/-- the table behind Put of the first i acts -/
def oneTo (l : List ActT) (i : Nat) : Nat → List ByteArray := (l.take i).foldl (fun L x => putL L x.1 x.2.1) (fun _ => [])
theorem oneTo_succ {l : List ActT} {i : Nat} {x : ActT} (h : l[i]? = some x) : oneTo l (i + 1) = putL (oneTo l i) x.1 x.2.1 := take_foldl _ l _ i x h
theorem few_fold : ∀ (l : List ActT) (L : Nat → List ByteArray), FewL L → FewL (l.foldl (fun L x => putL L x.1 x.2.1) L)
  | [], _, h => h
  | x :: r, _, h => few_fold r _ (fewL_put h _ _)
theorem few_oneTo (l : List ActT) (i : Nat) : FewL (oneTo l i) := few_fold _ _ (fun _ => by simp)
/-- the table's blocks: all but the two maps' -/
def SOne (B M1 M2 : Nat) (w : World) : Nat → Prop := fun j => B ≤ j ∧ j < w.heap.size ∧ j ≠ M1 ∧ j ≠ M2
/-- What the first loop keeps. -/
structure OneG (w : World) (B M1 M2 i : Nat) (L : Nat → List ByteArray) (D1 D2 : DataW Unit) : Prop where
  tab : Tab w B L (SOne B M1 M2 w)
  of_ : w.ownsMap Try.prog 45 (plainElem Try.prog 32) M1 i D1
  ofI : OfI L D1
  from_ : w.ownsMap Try.prog 32 keyR M2 i D2
  fromI : FromI L D2
set_option maxRecDepth 100000 in
theorem neq01 (kd : Int) (s : ByteArray) (w : World) : (binOp .neq 45 (.agg #[.int .i64 kd, .string s]) (.agg #[.int .i64 kd, .string s])).run Try.prog w = .ok (.bool false) w := by
  have u3 := Try.underlying3
  have a3 := Try.isAgg3
  have z3 := Try.sizeOf3
  have u4 := Try.underlying9
  have a4 := Try.isAgg9
  have z4 := Try.sizeOf9
  have hS : Try.prog.underlying 45 = some (.struct (Try.prog.fieldsOf 45)) := by kernel_rfl
  have hp : Try.prog.stoodInHeld 45 = false := by kernel_rfl
  rw [run_neq_struct, show (10000 : Nat) = 9999 + 1 from rfl, run_equalIn_agg w 9999 45 _ _ hS hp]
  simp only [Program.fieldsOf, Try.underlying45]
  go_simp
/-- what is found at a key that is there, or isn't -/
theorem look_of {L : Nat → List ByteArray} {D : DataW Unit} (h : OfI L D) {kd : Int} {s : ByteArray} {kl : Lit} (hk : keyOf Try.prog 45 (keyV kd s) = some kl) {x : Int} (ht : tabE L kd s x) {q : Bool} (hq : Maps.has D kl = q) :
    ∃ c : Int, (q = true → c = x) ∧ ∀ v ps, plainElem Try.prog 32 v = some (D.atKey kl (.lit (.int .u16 0)), ps) → v = .int .u16 c := by
  cases q with
  | true =>
    obtain ⟨a', t1, t2⟩ := h.at_ kd s kl hk hq
    refine ⟨x, fun _ => rfl, fun v ps hv => ?_⟩
    obtain ⟨c, rfl, hc, _⟩ := plainElem_int_inv Try.underlying32 hv
    rw [t2, tab_one t1 ht] at hc
    simp only [Prod.mk.injEq, DataW.lit.injEq, Lit.int.injEq, true_and] at hc
    rw [hc.1]
  | false =>
    refine ⟨0, fun h => (nomatch h), fun v ps hv => ?_⟩
    obtain ⟨c, rfl, hc, _⟩ := plainElem_int_inv Try.underlying32 hv
    rw [atKey_none hq] at hc
    simp only [Prod.mk.injEq, DataW.lit.injEq, Lit.int.injEq, true_and] at hc
    rw [hc.1]
theorem look_from {L : Nat → List ByteArray} (hf : FewL L) {D : DataW Unit} (h : FromI L D) {kd : Int} {s : ByteArray} {x : Int} (ht : tabE L kd s x) {q : Bool} (hq : Maps.has D (.int .u16 x) = q) :
    ∃ (kd' : Int) (s' : ByteArray), (q = true → kd = kd' ∧ s = s') ∧ ∀ v ps, keyR v = some (D.atKey (.int .u16 x) (keyD 0 ByteArray.empty), ps) → v = .agg #[.int .i64 kd', .string s'] := by
  cases q with
  | true =>
    obtain ⟨k2, s2, _, t1, t2⟩ := h.at_ x hq
    refine ⟨kd, s, fun _ => ⟨rfl, rfl⟩, fun v ps hv => ?_⟩
    obtain ⟨k3, s3, rfl, hy⟩ := keyR_inv hv
    rw [t2] at hy
    simp only [Prod.mk.injEq] at hy
    obtain ⟨rfl, rfl⟩ := keyD_inj hy.1
    obtain ⟨rfl, rfl⟩ := tab_inj hf t1 ht
    rfl
  | false =>
    refine ⟨0, ByteArray.empty, fun h => (nomatch h), fun v ps hv => ?_⟩
    obtain ⟨k3, s3, rfl, hy⟩ := keyR_inv hv
    rw [atKey_none hq] at hy
    simp only [Prod.mk.injEq] at hy
    obtain ⟨rfl, rfl⟩ := keyD_inj hy.1
    rfl
set_option maxRecDepth 100000 in
theorem wpList_next_key {L : Nat → List ByteArray} (hf : FewL L) (w : World) {ops : Array Oper} {rest : List Oper} {o : Oper} {a : Act} {Q : Exit → Act → World → Prop} (hg : o.guard = none) (it : Operand) (hop : o.op = Op.next it false) (b r n : Nat) (D : DataW Unit) (hFI : FromI L D) (left : Lit → Bool) (cnt : Nat)
    (hit : a.eval it = .pointer (some ⟨r, 0, none⟩)) (h : w.ranges Try.prog 32 keyR b r n D left cnt)
    (hDone : wpList Try.prog ops Q rest (a.put o.dst (.tuple #[.bool false])) w)
    (hMore : ∀ (x : Nat) (kd : Int) (s : ByteArray) (left' : Lit → Bool) (w' : World) (cnt' : Nat), x < 65536 → s.size ≤ maxLen → Hid (tabE L kd s x ∧ nameB L x = true ∧ nameS L x = s) → w'.ranges Try.prog 32 keyR b r n D left' cnt' → cnt' < cnt →
      w.grownBy w' (some r) → w'.heap.size = w.heap.size → (Instr.entry (.pointer (some ⟨r, 0, none⟩))).run Try.prog w' = .ok (.tuple #[.int .u16 (x : Int), .agg #[.int .i64 kd, .string s]]) w' → wpList Try.prog ops Q rest (a.put o.dst (.tuple #[.bool true, .int .u16 (x : Int), .agg #[.int .i64 kd, .string s]])) w') :
    wpList Try.prog ops Q (o :: rest) a w := by
  refine wpList_next_ranges w hg it hop 32 a01_law keyR (Value.int .u16) (fun p : Int × ByteArray => keyV p.1 p.2) (fun key kl hkey => by obtain ⟨x, rfl, _⟩ := Maps.keyOf_int_inv Try.underlying32 hkey; exact ⟨x, rfl⟩) (fun v y hv => by obtain ⟨kd, s, rfl, _⟩ := keyR_inv hv; exact ⟨(kd, s), rfl⟩) b r n D left cnt hit h (fun _ _ => hDone) ?_
  rintro x ⟨ck, cs⟩ kl y w' cnt' hkey hlk hv hat hrg hlt hgr hsz hen
  obtain ⟨x', e1, rfl, hw⟩ := Maps.keyOf_int_inv Try.underlying32 hkey
  injection e1 with _ e1
  subst e1
  obtain ⟨kd, s, g1, g2, g3⟩ := hFI.at_ x (has_true_of_atKey hat)
  have hy : y.1 = keyD ck cs := by
    rw [keyR_mk] at hv
    injection hv with hv
    rw [← hv]
  obtain ⟨rfl, rfl⟩ := keyD_inj ((g3 y.1).symm.trans ((hat y.1).trans hy))
  obtain ⟨X, rfl, hx, _, _, n1, n2⟩ := tab_name hf g2
  exact hMore X kd s _ w' cnt' hx g1 ⟨g2, n1, n2⟩ hrg hlt hgr hsz hen
theorem one_put {wr X wc : World} {B M1 M2 i : Nat} {L L' : Nat → List ByteArray} {D1 D2 : DataW Unit} (hG : OneG wr B M1 M2 i L D1 D2) (hX : Below wr.heap.size wr X) (hB : B ≤ wr.heap.size) (htc : TabTurned (SOne B M1 M2 wr) B L' X wc) :
    Tab wc B L' (SOne B M1 M2 wc) ∧ wc.ownsMap Try.prog 45 (plainElem Try.prog 32) M1 i D1 ∧ wc.ownsMap Try.prog 32 keyR M2 i D2 ∧ Below B wr wc ∧ ∀ j, wr.heap.size ≤ j → j < X.heap.size → wc.heap[j]? = X.heap[j]? := by
  obtain ⟨hT, hc⟩ := htc
  have z1 := hG.of_.lt
  have z2 := hG.from_.lt
  have z3 := hX.size
  have z4 := hc.size
  refine ⟨hT.mono ?_ (fun j hj => hj.2.1), owns_heap hG.of_ ?_, owns_heap hG.from_ ?_, (hX.mono hB).trans (hc.toBelow (by omega) (fun j hj => hj.1)), fun j h1 h2 => hc.block j h2 (fun h => by have := h.2.1; omega)⟩
  · rintro j (⟨h1, h2, h3, h4⟩ | ⟨h1, h2⟩)
    · exact ⟨h1, by omega, h3, h4⟩
    · exact ⟨by omega, h2, by omega, by omega⟩
  · rw [hc.block M1 (by omega) (fun h => h.2.2.1 rfl), hX.block M1 z1]
  · rw [hc.block M2 (by omega) (fun h => h.2.2.2 rfl), hX.block M2 z2]
theorem one_tab {wc wz : World} {B M1 M2 : Nat} {L : Nat → List ByteArray} (hT : Tab wc B L (SOne B M1 M2 wc)) (hc : Chg (fun j => j = M1 ∨ j = M2) wc wz) : Tab wz B L (SOne B M1 M2 wz) := by
  have z := hc.size
  refine (hT.kept hc ?_).mono ?_ (fun j hj => hj.2.1)
  · rintro j ⟨_, _, h3, h4⟩ (h | h)
    · exact h3 h
    · exact h4 h
  · rintro j ⟨h1, h2, h3, h4⟩
    exact ⟨h1, by omega, h3, h4⟩
set_option maxHeartbeats 8000000 in
set_option maxRecDepth 100000 in
theorem one_walk (a : Option Addr) (n cap : Nat) (l : List ActT) (w : World) (hl : Hid (l.length = n)) (hn : n ≤ 9223372036854775807) (ha : Hid (ActsAt w a l)) (hok : Hid (∀ x ∈ l, ActOk x)) :
    Calls Try.prog 3 #[.slice a n cap] w fun e w' => e = .returned (.bool true) ∧ Below w.heap.size w w' := by
  have hmm := @run_makeMap Try.prog
  go_enter Try.func3, Try.ntmps3
  go_wp2_with fail
  refine (awake_any _).mono ?_
  rintro e w1 ⟨rfl, hb1⟩
  go_wp2_with fail
  refine (large_any _ _ _ l _ hl hn (ha.out.ext hb1) hok).mono ?_
  rintro e w' ⟨b, rfl, rfl⟩
  cases b
  · go_wp2_with fail
    refine (new_any _).mono ?_
    rintro e w2 ⟨rfl, hb2, hz2, hT2⟩
    have hw1 := hb1.size
    have hG0 : OneG ((w2.alloc (.map #[] 0)).alloc (.map #[] 0)) w1.heap.size w2.heap.size (w2.heap.size + 1) 0 (oneTo l 0) (.map []) (.map []) := by
      refine ⟨?_, ((World.ownsMap_made w2 _ _ _).alloc _).mono (Nat.zero_le _), ofI_nil _, ?_, fromI_nil _⟩
      · refine Tab.mono (Tab.kept (S' := fun _ => False) hT2 (Chg.ext (bel2 w2 _ _)) (fun _ _ x => x)) ?_ (fun j hj => hj.2.1)
        rintro j rfl
        refine ⟨Nat.le_refl _, by simp; omega, by omega, by omega⟩
      · have := World.ownsMap_made (H := Unit) (w2.alloc (.map #[] 0)) Try.prog 32 keyR
        simpa using this
    have hB0 : Below w1.heap.size w1 ((w2.alloc (.map #[] 0)).alloc (.map #[] 0)) := (hb2.alloc (by omega) _).alloc (by simp; omega) _
    have hM : w1.heap.size < w2.heap.size := by omega
    clear hT2 hz2 hb2
    go_upto_block 0 with fail
    go_cut [6] (fun _ wx => ∃ (i : Nat) (D1 D2 : DataW Unit), OneG wx w1.heap.size w2.heap.size (w2.heap.size + 1) i (oneTo l i) D1 D2 ∧ Below w1.heap.size w1 wx)
    case first =>
      go_wp2_with fail
      go_loopw [6] (fun t wr => ∃ (i : Nat) (D1 D2 : DataW Unit), i ≤ n ∧ i ≤ 400 ∧ t = .int .i64 i ∧ OneG wr w1.heap.size w2.heap.size (w2.heap.size + 1) i (oneTo l i) D1 D2 ∧ Below w1.heap.size w1 wr) (fun t _ => n - (intOf t).toNat)
      case atStart => exact ⟨0, _, _, by omega, by omega, rfl, hG0, hB0⟩
      case round =>
        clear hG0 hB0
        obtain ⟨i, D1, D2, hi, hi4, rfl, hG, hb⟩ := hrel
        by_cases hlt : i < n
        · have d1 : decide ((i : Int) < (n : Int)) = true := by simp; omega
          by_cases hlt4 : i < 400
          · have d2 : decide ((i : Int) < 400) = true := by simp; omega
            have hil : i < l.length := by have := hl.out; omega
            have hget : l[i]? = some l[i] := by simp [hil]
            obtain ⟨rb, off, rfl, hcell⟩ : ∃ b off, a = some ⟨b, off, none⟩ ∧ _ := ha.out.resolve_left (by intro e; rw [e] at hil; simp at hil)
            obtain ⟨c1, c2, c3⟩ := hcell i l[i] hget
            clear hcell
            have hstep := Lib.hid (oneTo_succ hget)
            have hxo := Lib.hid (hok.out l[i] (List.getElem_mem hil))
            have hrbl : rb < w.heap.size := World.block_lt_of_cell? w _ c1
            have hbw := hb1.trans (hb.mono hw1)
            have e1 : wr.cell? ⟨rb, off + i * 3, none⟩ = some (.int .i64 l[i].1) := by rw [hbw.cell hrbl]; exact c1
            have e2 : wr.cell? ⟨rb, off + i * 3 + 1, none⟩ = some (.string l[i].2.1) := by rw [hbw.cell hrbl]; exact c2
            have e3 : wr.cell? ⟨rb, off + i * 3 + 2, none⟩ = some (.bool l[i].2.2) := by rw [hbw.cell hrbl]; exact c3
            clear c1 c2 c3 hget hbw
            generalize l[i] = xx at e1 e2 e3 hstep hxo
            obtain ⟨xk, xn, xf⟩ := xx
            simp only at e1 e2 e3
            have hxn : xn.size ≤ maxLen := hxo.out.2.2
            have hi0 : (0 : Int) ≤ i := by omega
            have hin : (i : Int) < n := by omega
            obtain ⟨A, hA⟩ : ∃ A, putA (oneTo l i) xk xn = A := ⟨_, rfl⟩
            obtain ⟨E, hE⟩ : ∃ E, putE (oneTo l i) xk xn = E := ⟨_, rfl⟩
            have hput : Hid (∀ wx, Tab wx w1.heap.size (oneTo l i) (SOne w1.heap.size w2.heap.size (w2.heap.size + 1) wr) → Calls Try.prog 9 #[.pointer (some ⟨w1.heap.size, 0, none⟩), .int .i64 xk, .string xn] wx fun e w' => e = .returned (.tuple #[.int .u16 A, .int .i64 E]) ∧ TabTurned (SOne w1.heap.size w2.heap.size (w2.heap.size + 1) wr) w1.heap.size (oneTo l (i + 1)) wx w') := fun wx hx => by
              have := put_any w1.heap.size xk xn (oneTo l i) _ wx hxn hx
              rw [hA, hE, ← hstep.out] at this
              exact this
            have hXb : ∀ o : Obj, Below wr.heap.size wr (wr.alloc o).drew := fun o => (bel1 wr o).drew
            have hTx : ∀ o : Obj, Tab (wr.alloc o).drew w1.heap.size (oneTo l i) (SOne w1.heap.size w2.heap.size (w2.heap.size + 1) wr) := fun o => Tab.kept (S' := fun _ => False) hG.tab (Chg.ext (hXb o)) (fun _ _ x => x)
            have hzr : w1.heap.size ≤ wr.heap.size := hb.size
            go_upto_region 12 with fail
            by_cases hE0 : E = 0
            · subst hE0
              have htab : tabE (oneTo l (i + 1)) xk xn A := by rw [hstep.out, ← hA]; exact tab_put hE
              have hfew := few_oneTo l (i + 1)
              have y1 := hG.of_.lt
              have y2 := hG.from_.lt
              obtain ⟨x, rfl, hx, hx1, hxk, -, -⟩ := tab_name hfew htab
              have hwf : (Lit.int .i64 xk).wf = true := by simp only [Lit.wf, Bool.and_eq_true, decide_eq_true_eq]; exact ⟨hxo.out.1, hxo.out.2.1⟩
              have hwx : (Lit.int .u16 (x : Int)).wf = true := by
                simp only [Lit.wf, Bool.and_eq_true, decide_eq_true_eq]
                have h1 : IntKind.u16.min = 0 := rfl
                have h2 : IntKind.u16.max = 65535 := rfl
                omega
              obtain ⟨kl, hkl⟩ := key_of xk xn hwf hxn
              have hO : OfI (oneTo l (i + 1)) D1 := by rw [hstep.out]; exact ofI_keep hG.ofI _ _
              have hF : FromI (oneTo l (i + 1)) D2 := by rw [hstep.out]; exact fromI_keep hG.fromI _ _
              have hkx := keyOf_int_mk (P := Try.prog) Try.underlying32 hwx
              obtain ⟨q1, hq1⟩ : ∃ q, Maps.has D1 kl = q := ⟨_, rfl⟩
              obtain ⟨q2, hq2⟩ : ∃ q, Maps.has D2 (.int .u16 (x : Int)) = q := ⟨_, rfl⟩
              obtain ⟨c, hc1, hv1⟩ := look_of hO hkl htab hq1
              obtain ⟨kd', s', hc2, hv2⟩ := look_from hfew hF htab hq2
              have hxx : ((x : Int) != x) = false := by simp
              have hx1' : ((x : Int) == 1) = false := by simp; omega
              have hkk : (((x / 8192 : Nat) : Int) != xk) = false := by rw [hxk]; simp
              have HO := Lib.hid hO
              have HF := Lib.hid hF
              have HT := Lib.hid htab
              have HKL := Lib.hid hkl
              have HKX := Lib.hid hkx
              have HQ1 := Lib.hid hq1
              have HQ2 := Lib.hid hq2
              have HC1 := Lib.hid hc1
              have HC2 := Lib.hid hc2
              have HV1 := Lib.hid hv1
              have HV2 := Lib.hid hv2
              have HWX := Lib.hid hwx
              have HXX := Lib.hid hxx
              have HX1 := Lib.hid hx1'
              have HKK := Lib.hid hkk
              clear hO hF htab hkl hkx hq1 hq2 hc1 hc2 hv1 hv2 hwx hwf hxk hx1 hfew hA hE hxx hx1' hkk
              go_region_with (go_at_call 9; refine (hput.out _ (hTx _)).mono ?_; rintro e wc ⟨rfl, htc⟩)
              all_goals
                obtain ⟨k1, k2, k3, k4, k5⟩ := one_put hG (hXb _) hzr htc
                have z1 := k2.lt
                have z2 := k3.lt
                have b0 := k5 wr.heap.size (Nat.le_refl _) (by simp)
                rw [show (wr.alloc (.cells #[.int .i64 xk, .string xn, .bool xf] 30)).drew.heap[wr.heap.size]? = some (.cells #[.int .i64 xk, .string xn, .bool xf] 30) from hp_new wr _] at b0
                have q0 : wc.cell? ⟨wr.heap.size, 0, none⟩ = some (.int .i64 xk) := by simp [World.cell?, b0]
                have q3 : wc.cell? ⟨wr.heap.size, 1, none⟩ = some (.string xn) := by simp [World.cell?, b0]
                clear htc k5
                have hne12 : w2.heap.size ≠ w2.heap.size + 1 := by omega
                cases q1 <;> cases q2 <;> (try (obtain rfl := HC1.out rfl)) <;> (try (obtain ⟨rfl, rfl⟩ := HC2.out rfl))
                all_goals
                  have hxx := HXX.out
                  have hnq := neq01 xk xn
                  go_upto_region 25 with (first
                    | (at_lookup; refine wpList_lookup_is _ rfl _ _ 27 rfl 45 32 k01_law Try.underlying27 (plainElem Try.prog 32) (zeroAtom _) (.lit (.int .u16 0)) [] (plainElem_int Try.underlying32 (by decide)) _ i D1 rfl (k2.alloc _) _ kl rfl HKL.out _ _ HQ1.out HV1.out ?_)
                    | (at_lookup; refine wpList_lookup_is _ rfl _ _ 28 rfl 32 45 a01_law Try.underlying28 keyR (zero01_key _) (keyD 0 ByteArray.empty) [] (keyR_mk 0 ByteArray.empty) _ i D2 rfl (k3.alloc _) _ _ rfl HKX.out _ _ HQ2.out HV2.out ?_)
                    | (at_mapUpdate; refine wpList_mapUpdate_own _ rfl _ _ _ 27 rfl 45 32 k01_law Try.underlying27 _ w2.heap.size i D1 rfl ((k2.alloc _).alloc _) (by unfold maxLen; omega) _ _ kl rfl rfl HKL.out _ [] (plainElem_int Try.underlying32 HWX.out) ?_; intro w5 hown5 hg5; have p0 := grow_cell hg5 (show World.cell? _ ⟨wc.heap.size, 0, none⟩ = some (.int .i64 xk) by simp) (by simp; omega); have p1 := grow_cell hg5 (show World.cell? _ ⟨wc.heap.size, 1, none⟩ = some (.string xn) by simp) (by simp; omega))
                    | (at_mapUpdate; refine wpList_mapUpdate_own _ rfl _ _ _ 28 rfl 32 45 a01_law Try.underlying28 _ (w2.heap.size + 1) i D2 rfl (((k3.alloc _).alloc _).kept hg5 (by simp)) (by unfold maxLen; omega) _ _ _ rfl rfl HKX.out _ [] (keyR_mk xk xn) ?_; intro w6 hown6 hg6)
                    | fail)
                  have p3 : w6.cell? ⟨wr.heap.size, 0, none⟩ = some (.int .i64 xk) := grow_cell hg6 (grow_cell hg5 (cell_alloc (cell_alloc q0 _) _) (by simp; omega)) (by simp; omega)
                  have hx1' := HX1.out
                  have hkk := HKK.out
                  clear p0 p1 q0 q3
                  have hC : Chg (fun j => j = w2.heap.size ∨ j = w2.heap.size + 1) wc w6 := (((Chg.refl _ wc).alloc _).alloc _).grown hg5 (fun k hk _ => .inl (Option.some.inj hk).symm) |>.grown hg6 (fun k hk _ => .inr (Option.some.inj hk).symm)
                  have hown5' := hown5.kept hg6 (by simp)
                  clear hg5 hg6 hown5
                  go_quiet ((go_at_call 10; exact quietCall (kind_any x _ hx)))
                  go_wp2_with fail
                  go_roundw
                  case rel => exact ⟨i + 1, _, _, by omega, by omega, by go_num, ⟨one_tab k1 (hC.drewN _), hown5', ofI_put HO.out HKL.out HT.out, hown6, fromI_put HF.out hxn HT.out⟩, (hb.trans k4).trans ((hC.drewN _).toBelow (by omega) (by rintro j (rfl | rfl) <;> omega))⟩
                  case measure => simp [intOf]; omega
            · have dE : (E != 0) = true := by simpa using hE0
              obtain rfl : A = 0 := by rw [← hA]; unfold putA; rw [if_neg (by rw [hE]; exact hE0)]
              go_region_with (go_at_call 9; refine (hput.out _ (hTx _)).mono ?_; rintro e wc ⟨rfl, htc⟩)
              all_goals
                obtain ⟨k1, k2, k3, k4, k5⟩ := one_put hG (hXb _) hzr htc
                go_wp2_with fail
                go_roundw
                case rel => exact ⟨i + 1, D1, D2, by omega, by omega, by go_num, ⟨k1, k2.mono (by omega), by rw [hstep.out]; exact ofI_keep hG.ofI _ _, k3.mono (by omega), by rw [hstep.out]; exact fromI_keep hG.fromI _ _⟩, hb.trans k4⟩
                case measure => simp [intOf]; omega
          · have d2 : decide ((i : Int) < 400) = false := by simp; omega
            go_wp2_with fail
            go_meet
            exact ⟨i, D1, D2, hG, hb⟩
        · have d1 : decide ((i : Int) < (n : Int)) = false := by simp; omega
          go_wp2_with fail
          go_meet
          exact ⟨i, D1, D2, hG, hb⟩
    case rest =>
      obtain ⟨i, D1, D2, hG, hb⟩ := hcut
      have hfew := few_oneTo l i
      have hown := hG.from_
      have hFI := hG.fromI
      have hT := hG.tab
      have hM2 := hown.lt
      generalize oneTo l i = L at hT hFI hfew
      have HFEW := Lib.hid hfew
      have HFI := Lib.hid hFI
      have HT := Lib.hid hT
      clear hfew hFI hT hG
      have hbz := hb.size
      go_wp2_with (first
        | (at_range; refine wpList_range_own _ rfl _ 28 rfl 32 45 a01_law Try.underlying28 keyR (w2.heap.size + 1) i D2 rfl hown ?_; intro w0 hrg0 hg0 hs0)
        | fail)
      go_frame
      have hC0 : Chg (fun j => j = wc.heap.size) wc w0 := (Chg.refl _ wc).grown hg0 (fun k hk => by cases hk)
      have HTab : Hid (∀ wx, Chg (fun j => j = wc.heap.size) wc wx → Tab wx w1.heap.size L (SOne w1.heap.size w2.heap.size (w2.heap.size + 1) wc)) := fun wx hx => HT.out.kept hx (fun j hj e => by have := hj.2.1; omega)
      clear hg0 hs0 hown
      go_loopw [103] (fun _ wr => ∃ (left : Lit → Bool) (cnt : Nat), wr.ranges Try.prog 32 keyR (w2.heap.size + 1) wc.heap.size i D2 left cnt ∧ Chg (fun j => j = wc.heap.size) wc wr) (fun _ wr => wr.rangeLeft (w2.heap.size + 1) wc.heap.size)
      case atStart => exact ⟨_, _, hrg0, hC0⟩
      case round =>
        obtain ⟨left, cnt, hrg, hcg⟩ := hrel
        clear hrg0 hC0
        go_wp2_with (first
          | (at_next; refine wpList_next_key HFEW.out _ rfl _ rfl (w2.heap.size + 1) wc.heap.size i D2 HFI.out left cnt rfl hrg ?_ ?_)
          | fail)
        · go_ret
          exact ⟨rfl, hb1.trans ((hb.trans (hcg.toBelow hbz (by rintro j rfl; exact hbz))).mono hw1)⟩
        · intro x kd s left' w3 cnt' hx hs hfx hrg3 hlt hg3 hs3 hen
          have hc3 : Chg (fun j => j = wc.heap.size) wc w3 := hcg.grown hg3 (fun k hk _ => (Option.some.inj hk).symm)
          have hN : Hid (∀ wx, Chg (fun j => j = wc.heap.size) wc wx → Calls Try.prog 11 #[.pointer (some ⟨w1.heap.size, 0, none⟩), .int .u16 x] wx fun e w' => e = .returned (.tuple #[.string s, .bool true]) ∧ wx = w') := fun wx h => by
            have := name_any w1.heap.size x L _ wx hx (HTab.out wx h)
            rw [hfx.out.2.1, hfx.out.2.2] at this
            exact this
          have hFd : Hid (∀ wx, Chg (fun j => j = wc.heap.size) wc wx → Calls Try.prog 12 #[.pointer (some ⟨w1.heap.size, 0, none⟩), .int .i64 kd, .string s] wx fun e w' => e = .returned (.tuple #[.int .u16 x, .bool true]) ∧ wx = w') := fun wx h => by
            have := find_any w1.heap.size kd s L _ wx hs (HTab.out wx h)
            rw [hfx.out.1.1, hfx.out.1.2] at this
            exact this
          have hxx : ((x : Int) != x) = false := by simp
          have hss : (!(s.toList == s.toList)) = false := by simp
          have q0 : (w3.alloc (.cells #[.int .i64 kd, .string s] 45)).cell? ⟨wr.heap.size, 0, none⟩ = some (.int .i64 kd) := by rw [← hs3]; simp
          have q1 : (w3.alloc (.cells #[.int .i64 kd, .string s] 45)).cell? ⟨wr.heap.size, 1, none⟩ = some (.string s) := by rw [← hs3]; simp
          go_upto_region 30 with fail
          clear hen hs3
          have hrg4 := hrg3.alloc (.cells #[.int .i64 kd, .string s] 45)
          have hc4 := hc3.alloc (.cells #[.int .i64 kd, .string s] 45)
          generalize w3.alloc (.cells #[.int .i64 kd, .string s] 45) = w4 at q0 q1 hrg4 hc4
          clear hrg3 hc3 hg3
          go_wp2_with fail
          refine (hN.out _ hc4).mono ?_
          rintro e w' ⟨rfl, rfl⟩
          go_wp2_with fail
          go_quiet ((go_at_call 12; exact quietCall (hFd.out _ (hc4.drewN _))))
          go_wp2_with fail
          go_roundw
          case rel => exact ⟨left', cnt', hrg4, hc4.drewN _⟩
          case measure =>
            have m1 := hrg4.left_eq
            have m2 := hrg.left_eq
            rw [m2]
            exact Nat.lt_of_le_of_lt (Nat.le_of_eq m1) hlt
  · go_wp2_with fail
    go_ret
    exact ⟨rfl, hb1⟩
set_option maxRecDepth 100000 in
theorem atomOne_calls {H : Type} {enc : TypeId × Value → H} (W : World) {base : Nat} {v : Value} {d : DataW H} {p : List MemPlace} (hv : Value.okWide Try.prog W .any base 22 v)
    (h : DataW.Trod enc Try.prog W 0 (fun _ => true) true 22 v d p) :
    Calls Try.prog 3 #[v] W fun e w' => e = .returned (.bool true) ∧ Below W.heap.size W w' := by
  obtain ⟨a, n, cap, l, rfl, hl, hn, ha, hok⟩ := open_acts hv h
  exact one_walk a n cap l W hl hn ha hok
end Go.Proofs.Ytpiofcjkekpboaa
