/- Texts of one proof, laid together: Sk Sl Sw. -/
import Derived.Test.YtpiofcjkekpboaaMA6
import Derived.Test.YtpiofcjkekpboaaMA11
import Derived.Test.YtpiofcjkekpboaaMA2
import Derived.Test.YtpiofcjkekpboaaMA16
import Derived.Test.YtpiofcjkekpboaaMA14
import Derived.Maps.OwnSet

/- What set.Of does, by the library's contracts. -/
namespace Go.Proofs.Ytpiofcjkekpboaa
set_option linter.unusedSimpArgs false
set_option linter.unusedVariables false
open Go.RowKit Go.Lib Go.Sort Go.Shelf

set_option maxHeartbeats 400000 in
theorem cmp_any (x y : ByteArray) (w : World) :
    Calls Try.prog 69 #[.string x, .string y] w fun e w' => e = .returned (.int .i64 (cmpW x y)) ∧ ∃ q, w' = w.drewN q := by
  cases h1 : wless x y with
  | true =>
    have H1 := Lib.hid h1
    have e : Hid (cmpW x y = -1) := by show _ = _; unfold cmpW; rw [h1]; rfl
    clear h1
    go_enter Try.func69, Try.ntmps69
    go_wp2_with (go_at_call 75; refine (wless_any _ _ _).mono ?_; rintro e w' ⟨rfl, rfl⟩; rw [H1.out])
    go_ret
    exact ⟨by rw [e.out]; rfl, 0, rfl⟩
  | false =>
    have H1 := Lib.hid h1
    cases h2 : wless y x with
    | true =>
      have H2 := Lib.hid h2
      have e : Hid (cmpW x y = 1) := by show _ = _; unfold cmpW; rw [h1, h2]; rfl
      clear h1 h2
      go_enter Try.func69, Try.ntmps69
      go_wp2_with (go_at_call 75; refine (wless_any _ _ _).mono ?_; rintro e w' ⟨rfl, rfl⟩; first | rw [H1.out] | rw [H2.out])
      go_ret
      exact ⟨by rw [e.out]; rfl, 0, rfl⟩
    | false =>
      have H2 := Lib.hid h2
      have e : Hid (cmpW x y = 0) := by show _ = _; unfold cmpW; rw [h1, h2]; rfl
      clear h1 h2
      go_enter Try.func69, Try.ntmps69
      go_wp2_with (go_at_call 75; refine (wless_any _ _ _).mono ?_; rintro e w' ⟨rfl, rfl⟩; first | rw [H1.out] | rw [H2.out])
      go_ret
      exact ⟨by rw [e.out]; rfl, 0, rfl⟩
theorem holds_row {w : World} {b : Nat} {cur : Array Value} {e : TypeId} {l : List ByteArray} (hb : w.heap[b]? = some (.cells cur e (0, 0))) (ht : cur.toList.take l.length = l.map .string) : Holds Value.string w b 0 l.toArray := by
  intro j hj
  have hj' : j < l.length := by simpa using hj
  refine ⟨?_, by simp [World.frozen?, hb]⟩
  have h1 : (cur.toList.take l.length)[j]? = (l.map Value.string)[j]? := by rw [ht]
  rw [List.getElem?_take_of_lt hj'] at h1
  simp only [World.cell?, hb, Nat.zero_add]
  simp only [Option.isSome_none, Bool.false_eq_true, if_false]
  rw [← Array.getElem?_toList, h1]
  simp [hj']
theorem eql_word (T : TypeId) : EqlAt Try.prog T Value.string (fun x y => decide (x = y)) := ⟨fun x y w => by rw [(EqlAt.string Try.prog T).1 x y w]; simp only [str_iff], (EqlAt.string Try.prog T).2⟩
theorem neq_word (T : TypeId) : NeqAt Try.prog T Value.string (fun x y => decide (x = y)) := ⟨fun x y w => by rw [(NeqAt.string Try.prog T).1 x y w]; simp only [str_iff], (NeqAt.string Try.prog T).2⟩
theorem cmp_lays (blk off size : Nat) (w : World) : CmpLays1 Try.prog 69 #[] Value.string cmpW blk off size w :=
  CmpReads.lays fun _ _ _ _ x y => cmp_any x y _
theorem holds_grow {w : World} {blk off : Nat} {d : Array ByteArray} (os : Array Obj) (hb : blk < w.heap.size) (h : Holds Value.string w blk off d) : Holds Value.string (grow w os) blk off d := by
  have e : (grow w os).heap[blk]? = w.heap[blk]? := by simp only [grow]; rw [Array.getElem?_append_left hb]
  intro j hj
  obtain ⟨h1, h2⟩ := h j hj
  refine ⟨?_, ?_⟩
  · rw [World.cell?_of_block (w := w) e]; exact h1
  · simp only [World.frozen?] at h2 ⊢
    rw [e]; exact h2
theorem below_put {w : World} {B blk off q : Nat} {d : Array ByteArray} (hb : B ≤ blk) : RowKit.Below B w (putRow Value.string (Sort.ahead w q) blk off d) :=
  ⟨rfl, rfl, rfl, by simp [putRow, mapBlock, Sort.ahead], fun k hk => by
    simp only [putRow, mapBlock, Sort.ahead, Array.getElem?_modify]
    rw [if_neg (by omega)]⟩
theorem below_grow {w w' : World} {B : Nat} (os : Array Obj) (hs : B ≤ w.heap.size) (h : RowKit.Below B w w') : RowKit.Below B w (grow w' os) :=
  ⟨h.os, h.tape, h.output, by simp only [grow, Array.size_append]; have := h.size; omega, fun k hk => by
    simp only [grow]
    rw [Array.getElem?_append_left (by have := h.size; omega)]
    exact h.block k hk⟩
set_option maxHeartbeats 400000 in
theorem clip_any (b n c : Nat) (w : World) (hn : 0 < n) (hc : n ≤ c) (hm : n ≤ 9223372036854775807) :
    Calls Try.prog 71 #[.slice (some ⟨b, 0, none⟩) n c] w fun e w' => e = .returned (.slice (some ⟨b, 0, none⟩) n n) ∧ w = w' := by
  go_enter Try.func71, Try.ntmps71
  go_wp2
  go_ret
  exact ⟨rfl, rfl⟩
structure Made (w w' : World) (e : Ending) (r : List ByteArray × Int) : Prop where
  below : Below w.heap.size w w'
  res : (r.2 ≠ 0 ∧ e = .returned (.tuple #[.slice none 0 0, .int .i64 r.2])) ∨ (r.2 = 0 ∧ ∃ b c, w.heap.size ≤ b ∧ e = .returned (.tuple #[.slice (some ⟨b, 0, none⟩) r.1.length c, .int .i64 0]) ∧ r.1.length ≤ c ∧ ∀ i s, r.1[i]? = some s → w'.cell? ⟨b, i, none⟩ = some (.string s))
set_option maxRecDepth 100000 in
set_option maxHeartbeats 2000000 in
theorem sof_any (rb off cap n : Nat) (l : List ByteArray) (w : World) (hl : Hid (l.length = n)) (h0 : 0 < n) (hn : n ≤ 1000000) (hr : Hid (∀ j u, (l.map Value.string)[j]? = some u → w.cell? ⟨rb, off + j, none⟩ = some u)) (hs : Hid (∀ x ∈ l, x.size ≤ 9223372036854775807)) :
    Calls Try.prog 28 #[.slice (some ⟨rb, off, none⟩) n cap] w fun e w' => Made w w' e (ofE l) := by
  go_enter Try.func28, Try.ntmps28
  go_wp2_with fail
  go_loopw [9] (fun t wr => ∃ i : Nat, i ≤ n ∧ t = .int .i64 i ∧ Hid (∀ x ∈ l.take i, wordMay x = true) ∧ Drawn w wr) (fun t _ => n - (intOf t).toNat)
  case atStart => exact ⟨0, by omega, rfl, by intro x hx; simp at hx, 0, rfl⟩
  case round =>
    obtain ⟨i, hi, rfl, hall, q, rfl⟩ := hrel
    by_cases hlt : i < n
    · have hil : i < l.length := by have := hl.out; omega
      have ci : w.cell? ⟨rb, off + i, none⟩ = some (.string l[i]) := hr.out i _ (by simp [hil])
      have hsz := hs.out l[i] (List.getElem_mem hil)
      have hmem := Lib.hid (List.getElem_mem hil)
      have hnext : Hid (wordMay l[i] = true → ∀ x ∈ l.take (i + 1), wordMay x = true) := by
        intro hw x hx
        rw [List.take_succ_eq_append_getElem hil, List.mem_append] at hx
        rcases hx with hx | hx
        · exact hall.out x hx
        · simp at hx; subst hx; exact hw
      generalize l[i] = y at ci hsz hmem hnext
      cases hwy : wordMay y with
      | false =>
        have e : Hid (ofE l = ([], 2)) := by
          show _ = _
          unfold ofE
          rw [if_pos]
          cases hb : l.all wordMay with
          | false => rfl
          | true => rw [List.all_eq_true.1 hb y hmem.out] at hwy; cases hwy
        have HWY := Lib.hid hwy
        clear hwy
        go_wp2_with fail
        refine (wmay_any y _ hsz).mono ?_
        rintro e w' ⟨rfl, m, rfl⟩
        rw [HWY.out]
        go_wp2_with fail
        go_ret2
        rw [e.out]
        exact ⟨⟨rfl, rfl, rfl, Nat.le_refl _, fun _ _ => rfl⟩, .inl ⟨by decide, rfl⟩⟩
      | true =>
        have HWY := Lib.hid hwy
        clear hwy
        go_wp2_with fail
        refine (wmay_any y _ hsz).mono ?_
        rintro e w' ⟨rfl, m, rfl⟩
        rw [HWY.out]
        go_wp2_with fail
        go_roundw
        case rel => exact ⟨i + 1, by omega, by go_num, hnext.out HWY.out, q + m, rfl⟩
        case measure => simp [intOf]; omega
    · have hin : i = n := by omega
      subst hin
      go_wp2_with fail
      obtain ⟨i0, z, hi0, hz, hz1, hz2, hzs, _⟩ := elem_of (P := Try.prog) (e := 72) (sz := 1) (bytes := 16) (by kernel_rfl)
      refine (AnyE.slices_Clone lClone i0 z 1 16 hi0 hz hz1 hz2 hzs (by decide) Try.sizeOf72 rb off i cap (l.map .string) (w.drewN q) (by rw [List.length_map, hl.out, Nat.mul_one]) (by unfold maxLen; omega) (by omega) hr.out (fun u hu => by obtain ⟨s, _, rfl⟩ := List.mem_map.1 hu; rfl)).mono ?_
      rintro e w2 ⟨v', rfl, hown, hnn, hbel⟩
      rcases hown.2 with ⟨rfl, _⟩ | ⟨b, c, cur, rfl, hb, hblk, hnc, hcm, hcs, htake⟩
      · exact absurd rfl hnn
      have hH : Holds Value.string w2 b 0 l.toArray := holds_row hblk (by rw [hl.out]; simpa using htake)
      have hbs : b < w2.heap.size := lt_of_block hblk
      have hd : l.toArray.size = i := by simpa using hl.out
      have hsort := Any.slices_SortFunc lSort Value.string (fun _ => rfl) cmpW swo_cmp 69 #[] b 0 c l.toArray w2 (enters_of Try.func69 (by kernel_rfl) rfl) (cmp_lays b 0 _ w2) hH hbs (by rw [hd]; omega)
      rw [hd] at hsort
      have HH := Lib.hid hH
      have HB := Lib.hid hbel
      clear hH hbel htake hcs hown
      go_wp2_with fail
      refine hsort.mono ?_
      rintro e w3 ⟨rfl, d', q2, os, hperm, hsorted, hw3⟩
      have hd' : d'.size = i := by rw [hperm.1, hd]
      have hH3 : Holds Value.string w3 b 0 d' := by
        rw [hw3]
        unfold sortWorld
        exact holds_grow os (by simpa [putRow, mapBlock, Sort.ahead] using hbs) (holds_putRow _ _ b 0 l.toArray d' (holds_ahead _ _ _ _ _ _ HH.out) (by rw [hd', hd]))
      have hB3 : Hid (RowKit.Below w.heap.size w w3) := by
        have h1 : RowKit.Below w.heap.size w w2 := ⟨HB.out.os, HB.out.tape, HB.out.output, HB.out.size, HB.out.block⟩
        refine h1.trans ?_
        rw [hw3]
        unfold sortWorld
        exact below_grow os h1.size (below_put hb)
      have hcomp : Hid (compactUpTo d' d'.size = nrm l) := by
        refine compact_nrm (fun a b' hab hb' => ?_) (fun x => ?_)
        · have := hsorted a b' (Nat.zero_le _) hab (by omega)
          rwa [ltOf_cmp] at this
        · have hp := hperm.2.2.mem_iff (a := x)
          have e1 : (d'.extract 0 i).toList = d'.toList := by simp [← hd']
          have e2 : (l.toArray.extract 0 i).toList = l := by simp; exact List.take_of_length_le (by rw [hl.out]; exact Nat.le_refl _)
          rw [e1, e2] at hp
          exact hp
      have hsize3 : Hid (b < w3.heap.size) := by
        show _ < _
        rw [hw3]
        simp only [sortWorld, grow, Array.size_append, putRow, mapBlock, Sort.ahead, Array.size_modify]
        omega
      have hcompact := AnyE.slices_Compact lCompact Value.string (fun _ => rfl) (eql_word _) (neq_word _) ByteArray.empty Try.zeroValue72 b 0 c d' w3 hH3 (by rw [hd']; omega) (by rw [hd']; exact hnc)
      rw [hcomp.out, hd'] at hcompact
      have HH3 := Lib.hid hH3
      have hlen : Hid ((nrm l).length ≤ i ∧ 0 < (nrm l).length) := by
        have h1 : ∀ l : List ByteArray, (nrm l).length ≤ l.length := by
          have h : ∀ (x : ByteArray) (l : List ByteArray), (ins x l).length ≤ l.length + 1 := by
            intro x l
            induction l with
            | nil => simp [ins]
            | cons y l ih => simp only [ins]; split; simp; split <;> simp only [List.length_cons] <;> omega
          intro l
          induction l with
          | nil => simp [nrm]
          | cons x l ih => simp only [nrm, List.length_cons]; have := h x (nrm l); omega
        refine ⟨by have := h1 l; rw [hl.out] at this; exact this, ?_⟩
        have hne : 0 < l.length := by rw [hl.out]; exact h0
        exact List.length_pos_of_mem (mem_nrm.2 (List.getElem_mem hne))
      have hmay : Hid (∀ x ∈ l, wordMay x = true) := by
        have := hall.out
        rwa [List.take_of_length_le (by rw [hl.out]; exact Nat.le_refl _)] at this
      have hof : Hid (ofE l = if 1 ≤ (nrm l).length ∧ (nrm l).length ≤ 16 then (nrm l, 0) else ([], 3)) := by
        show _ = _
        unfold ofE
        rw [if_neg (by rw [List.all_eq_true.2 hmay.out]; simp)]
      have hdd := hd'
      clear hsort hH3 hsorted hperm hw3 hd'
      obtain ⟨m, hm⟩ : ∃ m, m = (nrm l).length := ⟨_, rfl⟩
      rw [← hm] at hcompact
      have HM := Lib.hid hm
      have hmi : m ≤ i ∧ 0 < m := by rw [hm]; exact hlen.out
      clear hm
      go_wp2_with fail
      refine hcompact.mono ?_
      rintro e w4 ⟨rfl, q3, hw4⟩
      have HB4 : Hid (RowKit.Below w.heap.size w w4) := by
        show RowKit.Below _ _ _
        rw [hw4]
        exact hB3.out.trans (below_put hb)
      have HC4 : Hid (∀ j s, (nrm l)[j]? = some s → w4.cell? ⟨b, j, none⟩ = some (.string s)) := by
        intro j s hj
        have hjl : j < (nrm l).length := (List.getElem?_eq_some_iff.1 hj).1
        have hsz : (nrm l ++ List.replicate (i - m) ByteArray.empty).toArray.size = d'.size := by
          have e1 : d'.size = i := by have := hcomp; exact hdd
          rw [e1, List.size_toArray, List.length_append, List.length_replicate, ← HM.out]; omega
        have hh := holds_putRow Value.string (Sort.ahead w3 q3) b 0 d' (nrm l ++ List.replicate (i - m) ByteArray.empty).toArray (holds_ahead _ _ _ _ _ _ HH3.out) hsz
        rw [← hw4] at hh
        have := (hh j (by simp; omega)).1
        rw [Nat.zero_add] at this
        rw [this]
        congr 2
        rw [getElem!_pos _ j (by simp; omega)]
        simp only [List.getElem_toArray]
        rw [List.getElem_append_left hjl]
        exact (List.getElem?_eq_some_iff.1 hj).2
      clear hw4 hcompact
      have g1 : decide ((m : Int) < 1) = false := by simp; omega
      by_cases h16 : 16 < m
      · have g2 : decide (16 < (m : Int)) = true := by simp; omega
        go_wp2_with fail
        go_ret2
        rw [hof.out, if_neg (by rw [← HM.out]; omega)]
        exact ⟨HB4.out, .inl ⟨by decide, rfl⟩⟩
      · have g2 : decide (16 < (m : Int)) = false := by simp; omega
        go_wp2_with fail
        refine (clip_any b m c w4 (by omega) (by omega) (by omega)).mono ?_
        rintro e w' ⟨rfl, rfl⟩
        go_wp2_with fail
        go_ret2
        rw [hof.out, if_pos (by rw [← HM.out]; omega)]
        exact ⟨HB4.out, .inr ⟨rfl, b, m, hb, by rw [← HM.out]; rfl, by rw [← HM.out]; exact Nat.le_refl _, HC4.out⟩⟩
set_option maxRecDepth 100000 in
set_option maxHeartbeats 2000000 in
theorem clone_none (ad : Addr) (c : Nat) (w : World) :
    Calls Try.prog 67 #[.slice (some ad) 0 c] w fun e w' => ∃ a' cap', e = .returned (.slice a' 0 cap') ∧ Below w.heap.size w w' := by
  obtain ⟨i0, z, hi, hz0, hz1, hz2, hzs, _⟩ := elem_of (P := Try.prog) (e := 72) (sz := 1) (bytes := 16) (by kernel_rfl)
  have q22 : ∀ (w : World) (a : Option Addr) (n c n' c' : Nat), (binOp .eql 55 (.slice a n c) (.slice none n' c')).run Try.prog w = .ok (.bool a.isNone) w := fun w a n c n' c' => Lib.run_eql_slice_nil w _ _ a n c n' c' Try.underlying55
  go_enter Try.func67, Try.ntmps67
  go_wp2_with (at_builtin; refine wpList_append_row _ rfl _ _ 55 rfl w.heap.size 72 i0 z 1 16 Try.underlying55 hi hz0 hz1 hz2 hzs (by decide) (.slice (some ⟨w.heap.size, 0, none⟩) 0 0) 0 [] rfl (World.ownsRow_made w #[] 0 (Nat.le_refl _) (Nat.zero_le _) (by simp)) (some ad) 0 c [] rfl (by simp) (RowOf.nil _ _) (by intro h; cases h) (by simp) (by unfold maxLen; omega) (by omega) (by simp) ?_; intro a' cap' w1 hown hgrow _ _)
  go_ret
  exact ⟨a', cap', rfl, ((Below.refl _ w).alloc (Nat.le_refl _) _).grown hgrow (by simp) (by simp [Value.ownBlock])⟩
theorem clone_zero (a : Option Addr) (c : Nat) (w : World) :
    Calls Try.prog 67 #[.slice a 0 c] w fun e w' => ∃ a' cap', e = .returned (.slice a' 0 cap') ∧ Below w.heap.size w w' := by
  cases a with
  | none => exact (AnyE.slices_Clone_nil lClone 0 c w).mono (by rintro e w' ⟨rfl, rfl⟩; exact ⟨_, _, rfl, Below.refl _ _⟩)
  | some ad => exact clone_none ad c w
set_option maxRecDepth 100000 in
set_option maxHeartbeats 2000000 in
theorem compact_zero (a : Option Addr) (c : Nat) (w : World) :
    Calls Try.prog 70 #[.slice a 0 c] w fun e w' => e = .returned (.slice a 0 c) ∧ w = w' := by
  go_enter Try.func70, Try.ntmps70
  go_wp2
  go_ret
  exact ⟨rfl, rfl⟩
set_option maxRecDepth 100000 in
set_option maxHeartbeats 2000000 in
theorem sof_none (a : Option Addr) (c : Nat) (w : World) :
    Calls Try.prog 28 #[.slice a 0 c] w fun e w' => Made w w' e (ofE []) := by
  have hsort := fun (p : Option Addr) (cap : Nat) (fv : Value) (w : World) => AnyF.slices_SortFunc_none (P := Try.prog) { lSort with } p cap fv w
  go_enter Try.func28, Try.ntmps28
  go_wp2_with fail
  go_loopw [9] (fun t wr => t = .int .i64 0 ∧ wr = w) (fun _ _ => 0)
  case atStart => exact ⟨rfl, rfl⟩
  case round =>
    obtain ⟨rfl, rfl⟩ := hrel
    go_wp2_with fail
    refine (clone_zero a c _).mono ?_
    rintro e w1 ⟨a', cap', rfl, hb1⟩
    have HB := Lib.hid hb1
    clear hb1
    go_wp2_with fail
    refine (hsort a' cap' _ w1).mono ?_
    rintro e w2 ⟨rfl, rfl⟩
    go_wp2_with fail
    refine (compact_zero a' cap' w2).mono ?_
    rintro e w3 ⟨rfl, rfl⟩
    go_wp2_with fail
    go_ret2
    exact ⟨HB.out, .inl ⟨by decide, rfl⟩⟩
end Go.Proofs.Ytpiofcjkekpboaa

/- set.Of as a call that leaves all objects alone. -/
namespace Go.Proofs.Ytpiofcjkekpboaa
set_option linter.unusedSimpArgs false
set_option linter.unusedVariables false
open Go.RowKit Go.Lib

theorem ofE_snd (l : List ByteArray) (h : (ofE l).2 ≠ 0) : (ofE l).1 = [] := by
  unfold ofE at h ⊢
  split
  · rfl
  · next h1 =>
    rw [if_neg h1] at h
    split
    · next h2 => rw [if_pos h2] at h; exact absurd rfl h
    · rfl
theorem cells_news {g : Gh} {w w' : World} {b : Nat} {l : List ByteArray} (hb : w.heap.size ≤ b) (hc : ∀ i s, l[i]? = some s → w'.cell? ⟨b, i, none⟩ = some (.string s)) : CellsAt (g.news w w') b 0 (l.map .string) := by
  intro i v hv
  rw [List.getElem?_map] at hv
  cases hs : l[i]? with
  | none => rw [hs] at hv; cases hv
  | some s =>
    rw [hs] at hv
    cases hv
    rw [Nat.zero_add]
    exact news_new hb (hc i s hs) rfl
theorem repL_strs (g : Gh) : ∀ l : List ByteArray, RepL g (l.map .string) (l.map .str)
  | [] => .nil
  | s :: l => .cons (.str s) (repL_strs g l)
theorem plains_strs (l : List ByteArray) : plains (l.map .str) := by
  intro a ha
  obtain ⟨s, _, rfl⟩ := List.mem_map.1 ha
  rfl
theorem rep_new {g : Gh} {w w' : World} {b c : Nat} {f : Fl} {l : List ByteArray} (hb : w.heap.size ≤ b) (hn : l.length ≤ c) (hf : f = .clip → c = l.length) (hc : ∀ i s, l[i]? = some s → w'.cell? ⟨b, i, none⟩ = some (.string s)) : Rep (g.news w w') (.slice (some ⟨b, 0, none⟩) l.length c) (.lst f l.length (l.map .str)) :=
  .lst b 0 _ c f _ _ (cells_news hb hc) (plains_strs l) hn hf (repL_strs _ l)
theorem p_sof (l : List ByteArray) (hl : l.length ≤ 1000000) (hs : ∀ x ∈ l, x.size ≤ 9223372036854775807) : PCalls Try.prog 28 [.lst .ro l.length (l.map .str)] (vSet (ofE l)) := by
  refine pcalls_calls (by simp [free, free.frees, frees_str]) (free_vSet _) (by simp [vSet, plain]) (by kernel_rfl) ?_
  intro g w vargs hsim hr
  obtain ⟨v, vs, rfl, hv, hvs⟩ : ∃ v vs, vargs = v :: vs ∧ Rep g v (.lst .ro l.length (l.map .str)) ∧ RepL g vs [] := by
    cases hr with
    | cons h1 h2 => exact ⟨_, _, rfl, h1, h2⟩
  cases hvs
  obtain ⟨a, c, rfl, hrow⟩ := rep_strs hsim hv
  have hm : ∀ e w', Made w w' e (ofE l) → ∃ x, e = .returned x ∧ Below w.heap.size w w' ∧ Rep (g.news w w') x (vSet (ofE l)) := by
    rintro e w' ⟨hb, h | ⟨h0, b, c, hbb, rfl, hnc, hcell⟩⟩
    · obtain ⟨h1, rfl⟩ := h
      refine ⟨_, rfl, hb, ?_⟩
      unfold vSet
      rw [ofE_snd l h1]
      exact .tup [_, _] _ (by intro a ha; simp at ha; rcases ha with rfl | rfl <;> rfl) (.cons (.lst0 none 0 .ro (fun _ => rfl)) (.cons (.int .i64 _) .nil))
    · refine ⟨_, rfl, hb, ?_⟩
      unfold vSet
      rw [h0]
      exact .tup [_, _] _ (by intro a ha; simp at ha; rcases ha with rfl | rfl <;> rfl) (.cons (rep_new hbb hnc (fun h => nomatch h) hcell) (.cons (.int .i64 _) .nil))
  rcases hrow with h0 | ⟨b, off, rfl, hcells⟩
  · have hl0 : l = [] := by simpa using h0
    subst hl0
    exact (sof_none a c w).mono hm
  · by_cases h0 : l = []
    · subst h0
      exact (sof_none _ c w).mono hm
    · exact (sof_any b off c l.length l w rfl (List.length_pos_iff.2 h0) hl hcells hs).mono hm
end Go.Proofs.Ytpiofcjkekpboaa

/- set.Within: a map that the call keeps to itself. -/
namespace Go.Proofs.Ytpiofcjkekpboaa
set_option linter.unusedSimpArgs false
set_option linter.unusedVariables false
open Go.RowKit Go.Lib Go.Maps Go.WideMaps

theorem lawW : Keyed Try.prog 72 := string_keyed Try.underlying72
theorem zeroU (w : World) : (zeroValue 147).run Try.prog w = .ok (.agg #[]) w := by kernel_rfl
def litW (s : ByteArray) : Lit := .string s.data.toList
def setW (l : List ByteArray) : DataW Unit := setOf (.agg []) (l.map litW)
theorem setW_snoc (l : List ByteArray) (s : ByteArray) : setW (l ++ [s]) = (setW l).put (litW s) (.agg []) := by
  unfold setW
  rw [List.map_append, List.map_cons, List.map_nil, setOf_snoc]
theorem has_setW (l : List ByteArray) (s : ByteArray) : Maps.has (setW l) (litW s) = hasW l s := by
  unfold setW
  rw [has_setOf]
  · unfold hasW
    rw [List.any_map]
    congr 1
    funext y
    simp only [Function.comp]
    by_cases h : s = y
    · subst h
      rw [decide_eq_true rfl, WideAt.sameKey_self (by exact trivial)]
    · rw [decide_eq_false h, sameKey_ne]
      intro e
      unfold litW at e
      injection e with e
      exact h (WideShapes.bytes_inj e.symm)
  · intro x hx
    obtain ⟨s, _, rfl⟩ := List.mem_map.1 hx
    exact trivial
theorem run_makeMap_hint (n : Int) (w : World) : (Instr.makeMap 146 (some (.int .i64 n))).run Try.prog w = .ok (.map (some w.heap.size)) (w.alloc (.map #[] 0)) := by
  simp only [Instr.makeMap, Sem.run_bind, run_underlying Try.underlying146, Result.andThen_ok, asInt, asIntOf]
  rfl
set_option maxRecDepth 100000 in
set_option maxHeartbeats 2000000 in
theorem within_any (a1 a2 : Option Addr) (n1 n2 c1 c2 : Nat) (l1 l2 : List ByteArray) (w : World) (h1 : n1 ≤ 1000000) (h2 : n2 ≤ 1000000) (hl1 : Hid (l1.length = n1)) (hl2 : Hid (l2.length = n2))
    (r1 : Hid (RowOf w a1 (l1.map .string))) (r2 : Hid (RowOf w a2 (l2.map .string))) (s1 : Hid (∀ x ∈ l1, x.size ≤ maxLen)) (s2 : Hid (∀ x ∈ l2, x.size ≤ maxLen)) :
    Calls Try.prog 63 #[.slice a1 n1 c1, .slice a2 n2 c2] w fun e w' => e = .returned (.bool (withinE l1 l2)) ∧ Below w.heap.size w w' := by
  have hmm := run_makeMap_hint
  go_enter Try.func63, Try.ntmps63
  go_wp2_with fail
  go_loopw [17] (fun t wr => ∃ k : Nat, k ≤ n2 ∧ t = .int .i64 k ∧ Hid (wr.ownsMap Try.prog 72 unitElem w.heap.size k (setW (l2.take k))) ∧ Hid (Below w.heap.size w wr)) (fun t _ => n2 - (intOf t).toNat)
  case atStart => exact ⟨0, Nat.zero_le _, rfl, World.ownsMap_made _ _ _ _, (Below.refl _ _).alloc (Nat.le_refl _) _⟩
  case round =>
    obtain ⟨k, hk, rfl, HO, HB⟩ := hrel
    by_cases hlt : k < n2
    · have hkl : k < l2.length := by have := hl2.out; omega
      obtain ⟨b, off, ha, hcell⟩ : ∃ b off, a2 = some ⟨b, off, none⟩ ∧ w.cell? ⟨b, off + k, none⟩ = some (.string l2[k]) := by
        rcases r2.out with h | ⟨b, off, h, hc⟩
        · simp at h; rw [h] at hkl; simp at hkl
        · exact ⟨b, off, h, hc k _ (by simp [hkl])⟩
      have hc : wr.cell? ⟨b, off + k, none⟩ = some (.string l2[k]) := (HB.out.cell (World.block_lt_of_cell? w _ hcell)).trans hcell
      have hkey : keyOf Try.prog 72 (.string l2[k]) = some (litW l2[k]) := keyOf_string_mk Try.underlying72 (s2.out _ (List.getElem_mem hkl))
      have hnext : Hid (setW (l2.take (k + 1)) = (setW (l2.take k)).put (litW l2[k]) (.agg [])) := by show _ = _; rw [List.take_succ_eq_append_getElem hkl, setW_snoc]
      generalize l2[k] = y at hc hkey hnext
      subst ha
      clear hcell r2
      go_wp2_with (first | (at_mapUpdate; refine wpList_mapUpdate_own _ rfl _ _ _ 146 rfl 72 147 lawW Try.underlying146 (unitElem (H := Unit)) w.heap.size k _ rfl HO.out (by unfold maxLen; omega) _ _ _ rfl rfl hkey _ [] unitElem_mk ?_; intro w1 hown1 hgrow1; have HO1 := Lib.hid hown1; have HB1 := Lib.hid (HB.out.grown hgrow1 HB.out.size (fun j hj => by cases hj; exact Nat.le_refl _)); clear hown1 hgrow1))
      exact ⟨⟨k + 1, by omega, by go_num, by rw [hnext.out]; exact HO1.out, HB1⟩, by simp [intOf]; omega⟩
    · have hkn : k = n2 := by omega
      subst hkn
      go_wp2_with fail
      have HO' : Hid (wr.ownsMap Try.prog 72 unitElem w.heap.size k (setW l2)) := by
        have := HO.out
        rw [List.take_of_length_le (by rw [hl2.out]; exact Nat.le_refl _)] at this
        exact this
      clear HO r2 s2
      go_loopw [27] (fun t wr => ∃ k' : Nat, k' ≤ n1 ∧ t = .int .i64 k' ∧ Hid (wr.ownsMap Try.prog 72 unitElem w.heap.size k (setW l2)) ∧ Hid (Below w.heap.size w wr) ∧ Hid (∀ x ∈ l1.take k', hasW l2 x = true)) (fun t _ => n1 - (intOf t).toNat)
      case atStart => exact ⟨0, Nat.zero_le _, rfl, HO', HB, by intro x hx; simp at hx⟩
      case round =>
        clear HO' HB
        obtain ⟨i, hi, rfl, HO, HB, HA⟩ := hrel
        by_cases hlt : i < n1
        · have hkl : i < l1.length := by have := hl1.out; omega
          obtain ⟨b, off, ha, hcell⟩ : ∃ b off, a1 = some ⟨b, off, none⟩ ∧ w.cell? ⟨b, off + i, none⟩ = some (.string l1[i]) := by
            rcases r1.out with h | ⟨b, off, h, hc⟩
            · simp at h; rw [h] at hkl; simp at hkl
            · exact ⟨b, off, h, hc i _ (by simp [hkl])⟩
          have hc : wr.cell? ⟨b, off + i, none⟩ = some (.string l1[i]) := (HB.out.cell (World.block_lt_of_cell? w _ hcell)).trans hcell
          have hkey : keyOf Try.prog 72 (.string l1[i]) = some (litW l1[i]) := keyOf_string_mk Try.underlying72 (s1.out _ (List.getElem_mem hkl))
          have hmem := Lib.hid (List.getElem_mem hkl)
          have hnext : Hid (hasW l2 l1[i] = true → ∀ x ∈ l1.take (i + 1), hasW l2 x = true) := by
            intro hw x hx
            rw [List.take_succ_eq_append_getElem hkl, List.mem_append] at hx
            rcases hx with hx | hx
            · exact HA.out x hx
            · simp at hx; subst hx; exact hw
          generalize l1[i] = y at hc hkey hnext hmem
          subst ha
          clear hcell r1
          cases hh : hasW l2 y with
          | true =>
            have HH : Maps.has (setW l2) (litW y) = true := by rw [has_setW]; exact hh
            have HN := Lib.hid (hnext.out hh)
            clear hh hnext
            go_wp2_with (first | (at_lookup; refine wpList_lookup_own_unit _ rfl _ _ 146 rfl 72 147 lawW Try.underlying146 (zeroU _) w.heap.size k _ rfl HO.out _ _ rfl hkey ?_; rw [HH]))
            exact ⟨⟨i + 1, by omega, by go_num, HO.out.alloc _, HB.out.alloc HB.out.size _, HN⟩, by simp [intOf]; omega⟩
          | false =>
            have HH : Maps.has (setW l2) (litW y) = false := by rw [has_setW]; exact hh
            have HN : Hid (withinE l1 l2 = false) := by
              show _ = _
              cases hb : withinE l1 l2 with
              | false => rfl
              | true => rw [hasW_iff.2 (withinE_iff.1 hb y hmem.out)] at hh; cases hh
            clear hh hnext
            go_wp2_with (first | (at_lookup; refine wpList_lookup_own_unit _ rfl _ _ 146 rfl 72 147 lawW Try.underlying146 (zeroU _) w.heap.size k _ rfl HO.out _ _ rfl hkey ?_; rw [HH]))
            go_ret
            exact ⟨ret_bool HN.out.symm, HB.out.alloc HB.out.size _⟩
        · have hin : i = n1 := by omega
          subst hin
          go_wp2_with fail
          go_ret
          refine ⟨ret_bool ?_, HB.out⟩
          have := HA.out
          rw [List.take_of_length_le (by rw [hl1.out]; exact Nat.le_refl _)] at this
          exact (withinE_iff.2 fun w hw => hasW_iff.1 (this w hw)).symm
theorem p_within (l1 l2 : List ByteArray) (h1 : l1.length ≤ 1000000) (h2 : l2.length ≤ 1000000) (s1 : ∀ x ∈ l1, x.size ≤ maxLen) (s2 : ∀ x ∈ l2, x.size ≤ maxLen) :
    PCalls Try.prog 63 [.lst .ro l1.length (l1.map .str), .lst .ro l2.length (l2.map .str)] (.bool (withinE l1 l2)) := by
  refine pcalls_calls (by simp [free, free.frees, frees_str]) rfl rfl (by kernel_rfl) ?_
  intro g w vargs hsim hr
  obtain ⟨v1, v2, rfl, hv1, hv2⟩ : ∃ v1 v2, vargs = [v1, v2] ∧ Rep g v1 (.lst .ro l1.length (l1.map .str)) ∧ Rep g v2 (.lst .ro l2.length (l2.map .str)) := by
    cases hr with
    | cons q1 q2 =>
      cases q2 with
      | cons q3 q4 => cases q4; exact ⟨_, _, rfl, q1, q3⟩
  obtain ⟨a1, c1, rfl, r1⟩ := rep_strs hsim hv1
  obtain ⟨a2, c2, rfl, r2⟩ := rep_strs hsim hv2
  refine (within_any a1 a2 l1.length l2.length c1 c2 l1 l2 w h1 h2 rfl rfl r1 r2 s1 s2).mono ?_
  rintro e w' ⟨rfl, hb⟩
  exact ⟨_, rfl, hb, .bool _⟩
theorem p_same (l1 l2 : List ByteArray) (h1 : l1.length ≤ 1000000) (h2 : l2.length ≤ 1000000) (s1 : ∀ x ∈ l1, x.size ≤ maxLen) (s2 : ∀ x ∈ l2, x.size ≤ maxLen) :
    PCalls Try.prog 64 [.lst .ro l1.length (l1.map .str), .lst .ro l2.length (l2.map .str)] (.bool (withinE l1 l2 && withinE l2 l1)) := by
  refine pcalls_of (by first | rfl | simp [free, free.frees, frees_str, frees_u8, frees_u16]) (by first | rfl | simp [free, free.frees, frees_str, frees_u8, frees_u16]) (acalls_of mixed J_set_Same_ok (Nat.le_of_ble_eq_true rfl) ?_); simp only [J_set_Same, wk,if_true,if_false,forall_const,implies_true,ne_eq,eq_self,Nat.reduceEqDiff,Nat.reduceAdd,Nat.reduceMul,Nat.reduceSub,Nat.reduceLeDiff,Nat.reduceLT,Int.reduceEq,Int.reduceLT,Int.reduceLE,Int.reduceAdd,Int.reduceSub,Int.reduceMul,Int.reduceNeg,Int.reduceNe,reduceCtorEq,Int.reduceToNat,↓reduceIte]
  refine PCalls.use (p_within l1 l2 h1 h2 s1 s2) ?_; simp only [wk,if_true,if_false,forall_const,implies_true,ne_eq,eq_self,Nat.reduceEqDiff,Nat.reduceAdd,Nat.reduceMul,Nat.reduceSub,Nat.reduceLeDiff,Nat.reduceLT,Int.reduceEq,Int.reduceLT,Int.reduceLE,Int.reduceAdd,Int.reduceSub,Int.reduceMul,Int.reduceNeg,Int.reduceNe,reduceCtorEq,Int.reduceToNat,↓reduceIte]
  cases hw : withinE l1 l2 with
  | true =>
    simp only [wk,if_true,if_false,forall_const,implies_true,ne_eq,eq_self,Nat.reduceEqDiff,Nat.reduceAdd,Nat.reduceMul,Nat.reduceSub,Nat.reduceLeDiff,Nat.reduceLT,Int.reduceEq,Int.reduceLT,Int.reduceLE,Int.reduceAdd,Int.reduceSub,Int.reduceMul,Int.reduceNeg,Int.reduceNe,reduceCtorEq,Int.reduceToNat,↓reduceIte]
    refine PCalls.use (p_within l2 l1 h2 h1 s2 s1) ?_; simp only [wk,if_true,if_false,forall_const,implies_true,ne_eq,eq_self,Nat.reduceEqDiff,Nat.reduceAdd,Nat.reduceMul,Nat.reduceSub,Nat.reduceLeDiff,Nat.reduceLT,Int.reduceEq,Int.reduceLT,Int.reduceLE,Int.reduceAdd,Int.reduceSub,Int.reduceMul,Int.reduceNeg,Int.reduceNe,reduceCtorEq,Int.reduceToNat,↓reduceIte]
    rfl
  | false =>
    simp only [wk,if_true,if_false,forall_const,implies_true,ne_eq,eq_self,Nat.reduceEqDiff,Nat.reduceAdd,Nat.reduceMul,Nat.reduceSub,Nat.reduceLeDiff,Nat.reduceLT,Int.reduceEq,Int.reduceLT,Int.reduceLE,Int.reduceAdd,Int.reduceSub,Int.reduceMul,Int.reduceNeg,Int.reduceNe,reduceCtorEq,Int.reduceToNat,↓reduceIte]
    rfl
end Go.Proofs.Ytpiofcjkekpboaa
