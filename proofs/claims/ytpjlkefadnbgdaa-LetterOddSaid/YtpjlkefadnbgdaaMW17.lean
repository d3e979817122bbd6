/- Texts of one proof, laid together: Sk Sl Sn Sw Su Sv Sx Sy Ca Sz Cb Cd Ce Cf Cg Ch Cj Ck Cl Cn Ya Yb Yc Yd Ye Yf Yg Yh Yi Yj Ys Yk. -/
import Derived.Test.YtpjlkefadnbgdaaMW4
import Derived.Test.YtpjlkefadnbgdaaMW10
import Derived.Test.YtpjlkefadnbgdaaMW1
import Derived.Test.YtpjlkefadnbgdaaMW15
import Derived.Test.YtpjlkefadnbgdaaMW13
import Derived.Maps.OwnSet
import Derived.Test.YtpjlkefadnbgdaaMW14

/- What set.Of does, by the library's contracts. -/
namespace Go.Proofs.Ytpjlkefadnbgdaa
set_option linter.unusedSimpArgs false
set_option linter.unusedVariables false
open Go.RowKit Go.Lib Go.Sort Go.Shelf

set_option maxHeartbeats 400000 in
theorem cmp_any (x y : ByteArray) (w : World) :
    Calls Try.prog 74 #[.string x, .string y] w fun e w' => e = .returned (.int .i64 (cmpW x y)) ∧ ∃ q, w' = w.drewN q := by
  cases h1 : wless x y with
  | true =>
    have H1 := Lib.hid h1
    have e : Hid (cmpW x y = -1) := by show _ = _; unfold cmpW; rw [h1]; rfl
    clear h1
    go_enter Try.func74, Try.ntmps74
    go_wp2_with (go_at_call 62; refine (wless_any _ _ _).mono ?_; rintro e w' ⟨rfl, rfl⟩; rw [H1.out])
    go_ret
    exact ⟨by rw [e.out]; rfl, 0, rfl⟩
  | false =>
    have H1 := Lib.hid h1
    cases h2 : wless y x with
    | true =>
      have H2 := Lib.hid h2
      have e : Hid (cmpW x y = 1) := by show _ = _; unfold cmpW; rw [h1, h2]; rfl
      clear h1 h2
      go_enter Try.func74, Try.ntmps74
      go_wp2_with (go_at_call 62; refine (wless_any _ _ _).mono ?_; rintro e w' ⟨rfl, rfl⟩; first | rw [H1.out] | rw [H2.out])
      go_ret
      exact ⟨by rw [e.out]; rfl, 0, rfl⟩
    | false =>
      have H2 := Lib.hid h2
      have e : Hid (cmpW x y = 0) := by show _ = _; unfold cmpW; rw [h1, h2]; rfl
      clear h1 h2
      go_enter Try.func74, Try.ntmps74
      go_wp2_with (go_at_call 62; refine (wless_any _ _ _).mono ?_; rintro e w' ⟨rfl, rfl⟩; first | rw [H1.out] | rw [H2.out])
      go_ret
      exact ⟨by rw [e.out]; rfl, 0, rfl⟩
theorem holds_row {w : World} {b : Nat} {cur : Array Value} {e : TypeId} {l : List ByteArray} (hb : w.heap[b]? = some (.cells cur e (0, 0))) (ht : cur.toList.take l.length = l.map .string) : Holds Value.string w b 0 l.toArray := by
  intro j hj
  have hj' : j < l.length := by simpa using hj
  refine ⟨?_, by simp [World.frozen?, hb]⟩
  have h1 : (cur.toList.take l.length)[j]? = (l.map Value.string)[j]? := by rw [ht]
  rw [List.getElem?_take_of_lt hj'] at h1
  simp only [World.cell?, hb, Nat.zero_add]
  simp only [Option.isSome_none, Bool.false_eq_true, if_false]
  rw [← Array.getElem?_toList, h1]
  simp [hj']
theorem eql_word (T : TypeId) : EqlAt Try.prog T Value.string (fun x y => decide (x = y)) := ⟨fun x y w => by rw [(EqlAt.string Try.prog T).1 x y w]; simp only [str_iff], (EqlAt.string Try.prog T).2⟩
theorem neq_word (T : TypeId) : NeqAt Try.prog T Value.string (fun x y => decide (x = y)) := ⟨fun x y w => by rw [(NeqAt.string Try.prog T).1 x y w]; simp only [str_iff], (NeqAt.string Try.prog T).2⟩
theorem cmp_lays (blk off size : Nat) (w : World) : CmpLays1 Try.prog 74 #[] Value.string cmpW blk off size w :=
  CmpReads.lays fun _ _ _ _ x y => cmp_any x y _
theorem holds_grow {w : World} {blk off : Nat} {d : Array ByteArray} (os : Array Obj) (hb : blk < w.heap.size) (h : Holds Value.string w blk off d) : Holds Value.string (grow w os) blk off d := by
  have e : (grow w os).heap[blk]? = w.heap[blk]? := by simp only [grow]; rw [Array.getElem?_append_left hb]
  intro j hj
  obtain ⟨h1, h2⟩ := h j hj
  refine ⟨?_, ?_⟩
  · rw [World.cell?_of_block (w := w) e]; exact h1
  · simp only [World.frozen?] at h2 ⊢
    rw [e]; exact h2
theorem below_put {w : World} {B blk off q : Nat} {d : Array ByteArray} (hb : B ≤ blk) : RowKit.Below B w (putRow Value.string (Sort.ahead w q) blk off d) :=
  ⟨rfl, rfl, rfl, by simp [putRow, mapBlock, Sort.ahead], fun k hk => by
    simp only [putRow, mapBlock, Sort.ahead, Array.getElem?_modify]
    rw [if_neg (by omega)]⟩
theorem below_grow {w w' : World} {B : Nat} (os : Array Obj) (hs : B ≤ w.heap.size) (h : RowKit.Below B w w') : RowKit.Below B w (grow w' os) :=
  ⟨h.os, h.tape, h.output, by simp only [grow, Array.size_append]; have := h.size; omega, fun k hk => by
    simp only [grow]
    rw [Array.getElem?_append_left (by have := h.size; omega)]
    exact h.block k hk⟩
set_option maxHeartbeats 400000 in
theorem clip_any (b n c : Nat) (w : World) (hn : 0 < n) (hc : n ≤ c) (hm : n ≤ 9223372036854775807) :
    Calls Try.prog 76 #[.slice (some ⟨b, 0, none⟩) n c] w fun e w' => e = .returned (.slice (some ⟨b, 0, none⟩) n n) ∧ w = w' := by
  go_enter Try.func76, Try.ntmps76
  go_wp2
  go_ret
  exact ⟨rfl, rfl⟩
structure Made (w w' : World) (e : Ending) (r : List ByteArray × Int) : Prop where
  below : Below w.heap.size w w'
  res : (r.2 ≠ 0 ∧ e = .returned (.tuple #[.slice none 0 0, .int .i64 r.2])) ∨ (r.2 = 0 ∧ ∃ b c, w.heap.size ≤ b ∧ e = .returned (.tuple #[.slice (some ⟨b, 0, none⟩) r.1.length c, .int .i64 0]) ∧ r.1.length ≤ c ∧ ∀ i s, r.1[i]? = some s → w'.cell? ⟨b, i, none⟩ = some (.string s))
set_option maxRecDepth 100000 in
set_option maxHeartbeats 2000000 in
theorem sof_any (rb off cap n : Nat) (l : List ByteArray) (w : World) (hl : Hid (l.length = n)) (h0 : 0 < n) (hn : n ≤ 1000000) (hr : Hid (∀ j u, (l.map Value.string)[j]? = some u → w.cell? ⟨rb, off + j, none⟩ = some u)) (hs : Hid (∀ x ∈ l, x.size ≤ 9223372036854775807)) :
    Calls Try.prog 69 #[.slice (some ⟨rb, off, none⟩) n cap] w fun e w' => Made w w' e (ofE l) := by
  go_enter Try.func69, Try.ntmps69
  go_wp2_with fail
  go_loopw [9] (fun t wr => ∃ i : Nat, i ≤ n ∧ t = .int .i64 i ∧ Hid (∀ x ∈ l.take i, wordMay x = true) ∧ Drawn w wr) (fun t _ => n - (intOf t).toNat)
  case atStart => exact ⟨0, by omega, rfl, by intro x hx; simp at hx, 0, rfl⟩
  case round =>
    obtain ⟨i, hi, rfl, hall, q, rfl⟩ := hrel
    by_cases hlt : i < n
    · have hil : i < l.length := by have := hl.out; omega
      have ci : w.cell? ⟨rb, off + i, none⟩ = some (.string l[i]) := hr.out i _ (by simp [hil])
      have hsz := hs.out l[i] (List.getElem_mem hil)
      have hmem := Lib.hid (List.getElem_mem hil)
      have hnext : Hid (wordMay l[i] = true → ∀ x ∈ l.take (i + 1), wordMay x = true) := by
        intro hw x hx
        rw [List.take_succ_eq_append_getElem hil, List.mem_append] at hx
        rcases hx with hx | hx
        · exact hall.out x hx
        · simp at hx; subst hx; exact hw
      generalize l[i] = y at ci hsz hmem hnext
      cases hwy : wordMay y with
      | false =>
        have e : Hid (ofE l = ([], 2)) := by
          show _ = _
          unfold ofE
          rw [if_pos]
          cases hb : l.all wordMay with
          | false => rfl
          | true => rw [List.all_eq_true.1 hb y hmem.out] at hwy; cases hwy
        have HWY := Lib.hid hwy
        clear hwy
        go_wp2_with fail
        refine (wmay_any y _ hsz).mono ?_
        rintro e w' ⟨rfl, m, rfl⟩
        rw [HWY.out]
        go_wp2_with fail
        go_ret2
        rw [e.out]
        exact ⟨⟨rfl, rfl, rfl, Nat.le_refl _, fun _ _ => rfl⟩, .inl ⟨by decide, rfl⟩⟩
      | true =>
        have HWY := Lib.hid hwy
        clear hwy
        go_wp2_with fail
        refine (wmay_any y _ hsz).mono ?_
        rintro e w' ⟨rfl, m, rfl⟩
        rw [HWY.out]
        go_wp2_with fail
        go_roundw
        case rel => exact ⟨i + 1, by omega, by go_num, hnext.out HWY.out, q + m, rfl⟩
        case measure => simp [intOf]; omega
    · have hin : i = n := by omega
      subst hin
      go_wp2_with fail
      obtain ⟨i0, z, hi0, hz, hz1, hz2, hzs, _⟩ := elem_of (P := Try.prog) (e := 31) (sz := 1) (bytes := 16) (by kernel_rfl)
      refine (AnyE.slices_Clone lClone i0 z 1 16 hi0 hz hz1 hz2 hzs (by decide) Try.sizeOf31 rb off i cap (l.map .string) (w.drewN q) (by rw [List.length_map, hl.out, Nat.mul_one]) (by unfold maxLen; omega) (by omega) hr.out (fun u hu => by obtain ⟨s, _, rfl⟩ := List.mem_map.1 hu; rfl)).mono ?_
      rintro e w2 ⟨v', rfl, hown, hnn, hbel⟩
      rcases hown.2 with ⟨rfl, _⟩ | ⟨b, c, cur, rfl, hb, hblk, hnc, hcm, hcs, htake⟩
      · exact absurd rfl hnn
      have hH : Holds Value.string w2 b 0 l.toArray := holds_row hblk (by rw [hl.out]; simpa using htake)
      have hbs : b < w2.heap.size := lt_of_block hblk
      have hd : l.toArray.size = i := by simpa using hl.out
      have hsort := Any.slices_SortFunc lSort Value.string (fun _ => rfl) cmpW swo_cmp 74 #[] b 0 c l.toArray w2 (enters_of Try.func74 (by kernel_rfl) rfl) (cmp_lays b 0 _ w2) hH hbs (by rw [hd]; omega)
      rw [hd] at hsort
      have HH := Lib.hid hH
      have HB := Lib.hid hbel
      clear hH hbel htake hcs hown
      go_wp2_with fail
      refine hsort.mono ?_
      rintro e w3 ⟨rfl, d', q2, os, hperm, hsorted, hw3⟩
      have hd' : d'.size = i := by rw [hperm.1, hd]
      have hH3 : Holds Value.string w3 b 0 d' := by
        rw [hw3]
        unfold sortWorld
        exact holds_grow os (by simpa [putRow, mapBlock, Sort.ahead] using hbs) (holds_putRow _ _ b 0 l.toArray d' (holds_ahead _ _ _ _ _ _ HH.out) (by rw [hd', hd]))
      have hB3 : Hid (RowKit.Below w.heap.size w w3) := by
        have h1 : RowKit.Below w.heap.size w w2 := ⟨HB.out.os, HB.out.tape, HB.out.output, HB.out.size, HB.out.block⟩
        refine h1.trans ?_
        rw [hw3]
        unfold sortWorld
        exact below_grow os h1.size (below_put hb)
      have hcomp : Hid (compactUpTo d' d'.size = nrm l) := by
        refine compact_nrm (fun a b' hab hb' => ?_) (fun x => ?_)
        · have := hsorted a b' (Nat.zero_le _) hab (by omega)
          rwa [ltOf_cmp] at this
        · have hp := hperm.2.2.mem_iff (a := x)
          have e1 : (d'.extract 0 i).toList = d'.toList := by simp [← hd']
          have e2 : (l.toArray.extract 0 i).toList = l := by simp; exact List.take_of_length_le (by rw [hl.out]; exact Nat.le_refl _)
          rw [e1, e2] at hp
          exact hp
      have hsize3 : Hid (b < w3.heap.size) := by
        show _ < _
        rw [hw3]
        simp only [sortWorld, grow, Array.size_append, putRow, mapBlock, Sort.ahead, Array.size_modify]
        omega
      have hcompact := AnyE.slices_Compact lCompact Value.string (fun _ => rfl) (eql_word _) (neq_word _) ByteArray.empty Try.zeroValue31 b 0 c d' w3 hH3 (by rw [hd']; omega) (by rw [hd']; exact hnc)
      rw [hcomp.out, hd'] at hcompact
      have HH3 := Lib.hid hH3
      have hlen : Hid ((nrm l).length ≤ i ∧ 0 < (nrm l).length) := by
        have h1 : ∀ l : List ByteArray, (nrm l).length ≤ l.length := by
          have h : ∀ (x : ByteArray) (l : List ByteArray), (ins x l).length ≤ l.length + 1 := by
            intro x l
            induction l with
            | nil => simp [ins]
            | cons y l ih => simp only [ins]; split; simp; split <;> simp only [List.length_cons] <;> omega
          intro l
          induction l with
          | nil => simp [nrm]
          | cons x l ih => simp only [nrm, List.length_cons]; have := h x (nrm l); omega
        refine ⟨by have := h1 l; rw [hl.out] at this; exact this, ?_⟩
        have hne : 0 < l.length := by rw [hl.out]; exact h0
        exact List.length_pos_of_mem (mem_nrm.2 (List.getElem_mem hne))
      have hmay : Hid (∀ x ∈ l, wordMay x = true) := by
        have := hall.out
        rwa [List.take_of_length_le (by rw [hl.out]; exact Nat.le_refl _)] at this
      have hof : Hid (ofE l = if 1 ≤ (nrm l).length ∧ (nrm l).length ≤ 16 then (nrm l, 0) else ([], 3)) := by
        show _ = _
        unfold ofE
        rw [if_neg (by rw [List.all_eq_true.2 hmay.out]; simp)]
      have hdd := hd'
      clear hsort hH3 hsorted hperm hw3 hd'
      obtain ⟨m, hm⟩ : ∃ m, m = (nrm l).length := ⟨_, rfl⟩
      rw [← hm] at hcompact
      have HM := Lib.hid hm
      have hmi : m ≤ i ∧ 0 < m := by rw [hm]; exact hlen.out
      clear hm
      go_wp2_with fail
      refine hcompact.mono ?_
      rintro e w4 ⟨rfl, q3, hw4⟩
      have HB4 : Hid (RowKit.Below w.heap.size w w4) := by
        show RowKit.Below _ _ _
        rw [hw4]
        exact hB3.out.trans (below_put hb)
      have HC4 : Hid (∀ j s, (nrm l)[j]? = some s → w4.cell? ⟨b, j, none⟩ = some (.string s)) := by
        intro j s hj
        have hjl : j < (nrm l).length := (List.getElem?_eq_some_iff.1 hj).1
        have hsz : (nrm l ++ List.replicate (i - m) ByteArray.empty).toArray.size = d'.size := by
          have e1 : d'.size = i := by have := hcomp; exact hdd
          rw [e1, List.size_toArray, List.length_append, List.length_replicate, ← HM.out]; omega
        have hh := holds_putRow Value.string (Sort.ahead w3 q3) b 0 d' (nrm l ++ List.replicate (i - m) ByteArray.empty).toArray (holds_ahead _ _ _ _ _ _ HH3.out) hsz
        rw [← hw4] at hh
        have := (hh j (by simp; omega)).1
        rw [Nat.zero_add] at this
        rw [this]
        congr 2
        rw [getElem!_pos _ j (by simp; omega)]
        simp only [List.getElem_toArray]
        rw [List.getElem_append_left hjl]
        exact (List.getElem?_eq_some_iff.1 hj).2
      clear hw4 hcompact
      have g1 : decide ((m : Int) < 1) = false := by simp; omega
      by_cases h16 : 16 < m
      · have g2 : decide (16 < (m : Int)) = true := by simp; omega
        go_wp2_with fail
        go_ret2
        rw [hof.out, if_neg (by rw [← HM.out]; omega)]
        exact ⟨HB4.out, .inl ⟨by decide, rfl⟩⟩
      · have g2 : decide (16 < (m : Int)) = false := by simp; omega
        go_wp2_with fail
        refine (clip_any b m c w4 (by omega) (by omega) (by omega)).mono ?_
        rintro e w' ⟨rfl, rfl⟩
        go_wp2_with fail
        go_ret2
        rw [hof.out, if_pos (by rw [← HM.out]; omega)]
        exact ⟨HB4.out, .inr ⟨rfl, b, m, hb, by rw [← HM.out]; rfl, by rw [← HM.out]; exact Nat.le_refl _, HC4.out⟩⟩
set_option maxRecDepth 100000 in
set_option maxHeartbeats 2000000 in
theorem clone_none (ad : Addr) (c : Nat) (w : World) :
    Calls Try.prog 72 #[.slice (some ad) 0 c] w fun e w' => ∃ a' cap', e = .returned (.slice a' 0 cap') ∧ Below w.heap.size w w' := by
  obtain ⟨i0, z, hi, hz0, hz1, hz2, hzs, _⟩ := elem_of (P := Try.prog) (e := 31) (sz := 1) (bytes := 16) (by kernel_rfl)
  have q22 : ∀ (w : World) (a : Option Addr) (n c n' c' : Nat), (binOp .eql 24 (.slice a n c) (.slice none n' c')).run Try.prog w = .ok (.bool a.isNone) w := fun w a n c n' c' => Lib.run_eql_slice_nil w _ _ a n c n' c' Try.underlying24
  go_enter Try.func72, Try.ntmps72
  go_wp2_with (at_builtin; refine wpList_append_row _ rfl _ _ 24 rfl w.heap.size 31 i0 z 1 16 Try.underlying24 hi hz0 hz1 hz2 hzs (by decide) (.slice (some ⟨w.heap.size, 0, none⟩) 0 0) 0 [] rfl (World.ownsRow_made w #[] 0 (Nat.le_refl _) (Nat.zero_le _) (by simp)) (some ad) 0 c [] rfl (by simp) (RowOf.nil _ _) (by intro h; cases h) (by simp) (by unfold maxLen; omega) (by omega) (by simp) ?_; intro a' cap' w1 hown hgrow _ _)
  go_ret
  exact ⟨a', cap', rfl, ((Below.refl _ w).alloc (Nat.le_refl _) _).grown hgrow (by simp) (by simp [Value.ownBlock])⟩
theorem clone_zero (a : Option Addr) (c : Nat) (w : World) :
    Calls Try.prog 72 #[.slice a 0 c] w fun e w' => ∃ a' cap', e = .returned (.slice a' 0 cap') ∧ Below w.heap.size w w' := by
  cases a with
  | none => exact (AnyE.slices_Clone_nil lClone 0 c w).mono (by rintro e w' ⟨rfl, rfl⟩; exact ⟨_, _, rfl, Below.refl _ _⟩)
  | some ad => exact clone_none ad c w
set_option maxRecDepth 100000 in
set_option maxHeartbeats 2000000 in
theorem compact_zero (a : Option Addr) (c : Nat) (w : World) :
    Calls Try.prog 75 #[.slice a 0 c] w fun e w' => e = .returned (.slice a 0 c) ∧ w = w' := by
  go_enter Try.func75, Try.ntmps75
  go_wp2
  go_ret
  exact ⟨rfl, rfl⟩
set_option maxRecDepth 100000 in
set_option maxHeartbeats 2000000 in
theorem sof_none (a : Option Addr) (c : Nat) (w : World) :
    Calls Try.prog 69 #[.slice a 0 c] w fun e w' => Made w w' e (ofE []) := by
  have hsort := fun (p : Option Addr) (cap : Nat) (fv : Value) (w : World) => AnyF.slices_SortFunc_none (P := Try.prog) { lSort with } p cap fv w
  go_enter Try.func69, Try.ntmps69
  go_wp2_with fail
  go_loopw [9] (fun t wr => t = .int .i64 0 ∧ wr = w) (fun _ _ => 0)
  case atStart => exact ⟨rfl, rfl⟩
  case round =>
    obtain ⟨rfl, rfl⟩ := hrel
    go_wp2_with fail
    refine (clone_zero a c _).mono ?_
    rintro e w1 ⟨a', cap', rfl, hb1⟩
    have HB := Lib.hid hb1
    clear hb1
    go_wp2_with fail
    refine (hsort a' cap' _ w1).mono ?_
    rintro e w2 ⟨rfl, rfl⟩
    go_wp2_with fail
    refine (compact_zero a' cap' w2).mono ?_
    rintro e w3 ⟨rfl, rfl⟩
    go_wp2_with fail
    go_ret2
    exact ⟨HB.out, .inl ⟨by decide, rfl⟩⟩
end Go.Proofs.Ytpjlkefadnbgdaa

/- set.Of as a call that leaves all objects alone. -/
namespace Go.Proofs.Ytpjlkefadnbgdaa
set_option linter.unusedSimpArgs false
set_option linter.unusedVariables false
open Go.RowKit Go.Lib

theorem ofE_snd (l : List ByteArray) (h : (ofE l).2 ≠ 0) : (ofE l).1 = [] := by
  unfold ofE at h ⊢
  split
  · rfl
  · next h1 =>
    rw [if_neg h1] at h
    split
    · next h2 => rw [if_pos h2] at h; exact absurd rfl h
    · rfl
theorem cells_news {g : Gh} {w w' : World} {b : Nat} {l : List ByteArray} (hb : w.heap.size ≤ b) (hc : ∀ i s, l[i]? = some s → w'.cell? ⟨b, i, none⟩ = some (.string s)) : CellsAt (g.news w w') b 0 (l.map .string) := by
  intro i v hv
  rw [List.getElem?_map] at hv
  cases hs : l[i]? with
  | none => rw [hs] at hv; cases hv
  | some s =>
    rw [hs] at hv
    cases hv
    rw [Nat.zero_add]
    exact news_new hb (hc i s hs) rfl
theorem repL_strs (g : Gh) : ∀ l : List ByteArray, RepL g (l.map .string) (l.map .str)
  | [] => .nil
  | s :: l => .cons (.str s) (repL_strs g l)
theorem plains_strs (l : List ByteArray) : plains (l.map .str) := by
  intro a ha
  obtain ⟨s, _, rfl⟩ := List.mem_map.1 ha
  rfl
theorem rep_new {g : Gh} {w w' : World} {b c : Nat} {f : Fl} {l : List ByteArray} (hb : w.heap.size ≤ b) (hn : l.length ≤ c) (hf : f = .clip → c = l.length) (hc : ∀ i s, l[i]? = some s → w'.cell? ⟨b, i, none⟩ = some (.string s)) : Rep (g.news w w') (.slice (some ⟨b, 0, none⟩) l.length c) (.lst f l.length (l.map .str)) :=
  .lst b 0 _ c f _ _ (cells_news hb hc) (plains_strs l) hn hf (repL_strs _ l)
theorem p_sof (l : List ByteArray) (hl : l.length ≤ 1000000) (hs : ∀ x ∈ l, x.size ≤ 9223372036854775807) : PCalls Try.prog 69 [.lst .ro l.length (l.map .str)] (vSet (ofE l)) := by
  refine pcalls_calls (by simp [free, free.frees, frees_str]) (free_vSet _) (by simp [vSet, plain]) (by kernel_rfl) ?_
  intro g w vargs hsim hr
  obtain ⟨v, vs, rfl, hv, hvs⟩ : ∃ v vs, vargs = v :: vs ∧ Rep g v (.lst .ro l.length (l.map .str)) ∧ RepL g vs [] := by
    cases hr with
    | cons h1 h2 => exact ⟨_, _, rfl, h1, h2⟩
  cases hvs
  obtain ⟨a, c, rfl, hrow⟩ := rep_strs hsim hv
  have hm : ∀ e w', Made w w' e (ofE l) → ∃ x, e = .returned x ∧ Below w.heap.size w w' ∧ Rep (g.news w w') x (vSet (ofE l)) := by
    rintro e w' ⟨hb, h | ⟨h0, b, c, hbb, rfl, hnc, hcell⟩⟩
    · obtain ⟨h1, rfl⟩ := h
      refine ⟨_, rfl, hb, ?_⟩
      unfold vSet
      rw [ofE_snd l h1]
      exact .tup [_, _] _ (by intro a ha; simp at ha; rcases ha with rfl | rfl <;> rfl) (.cons (.lst0 none 0 .ro (fun _ => rfl)) (.cons (.int .i64 _) .nil))
    · refine ⟨_, rfl, hb, ?_⟩
      unfold vSet
      rw [h0]
      exact .tup [_, _] _ (by intro a ha; simp at ha; rcases ha with rfl | rfl <;> rfl) (.cons (rep_new hbb hnc (fun h => nomatch h) hcell) (.cons (.int .i64 _) .nil))
  rcases hrow with h0 | ⟨b, off, rfl, hcells⟩
  · have hl0 : l = [] := by simpa using h0
    subst hl0
    exact (sof_none a c w).mono hm
  · by_cases h0 : l = []
    · subst h0
      exact (sof_none _ c w).mono hm
    · exact (sof_any b off c l.length l w rfl (List.length_pos_iff.2 h0) hl hcells hs).mono hm
end Go.Proofs.Ytpjlkefadnbgdaa

/- slices.Concat of two sets. -/
namespace Go.Proofs.Ytpjlkefadnbgdaa
set_option linter.unusedSimpArgs false
set_option linter.unusedVariables false
open Go.RowKit Go.Lib Go.Sort Go.Shelf

end Go.Proofs.Ytpjlkefadnbgdaa

/- set.Within: a map that the call keeps to itself. -/
namespace Go.Proofs.Ytpjlkefadnbgdaa
set_option linter.unusedSimpArgs false
set_option linter.unusedVariables false
open Go.RowKit Go.Lib Go.Maps Go.WideMaps

theorem lawW : Keyed Try.prog 31 := string_keyed Try.underlying31
theorem zeroU (w : World) : (zeroValue 123).run Try.prog w = .ok (.agg #[]) w := by kernel_rfl
def litW (s : ByteArray) : Lit := .string s.data.toList
def setW (l : List ByteArray) : DataW Unit := setOf (.agg []) (l.map litW)
theorem setW_snoc (l : List ByteArray) (s : ByteArray) : setW (l ++ [s]) = (setW l).put (litW s) (.agg []) := by
  unfold setW
  rw [List.map_append, List.map_cons, List.map_nil, setOf_snoc]
theorem has_setW (l : List ByteArray) (s : ByteArray) : Maps.has (setW l) (litW s) = hasW l s := by
  unfold setW
  rw [has_setOf]
  · unfold hasW
    rw [List.any_map]
    congr 1
    funext y
    simp only [Function.comp]
    by_cases h : s = y
    · subst h
      rw [decide_eq_true rfl, WideAt.sameKey_self (by exact trivial)]
    · rw [decide_eq_false h, sameKey_ne]
      intro e
      unfold litW at e
      injection e with e
      exact h (WideShapes.bytes_inj e.symm)
  · intro x hx
    obtain ⟨s, _, rfl⟩ := List.mem_map.1 hx
    exact trivial
theorem run_makeMap_hint (n : Int) (w : World) : (Instr.makeMap 122 (some (.int .i64 n))).run Try.prog w = .ok (.map (some w.heap.size)) (w.alloc (.map #[] 0)) := by
  simp only [Instr.makeMap, Sem.run_bind, run_underlying Try.underlying122, Result.andThen_ok, asInt, asIntOf]
  rfl
set_option maxRecDepth 100000 in
set_option maxHeartbeats 2000000 in
theorem within_any (a1 a2 : Option Addr) (n1 n2 c1 c2 : Nat) (l1 l2 : List ByteArray) (w : World) (h1 : n1 ≤ 1000000) (h2 : n2 ≤ 1000000) (hl1 : Hid (l1.length = n1)) (hl2 : Hid (l2.length = n2))
    (r1 : Hid (RowOf w a1 (l1.map .string))) (r2 : Hid (RowOf w a2 (l2.map .string))) (s1 : Hid (∀ x ∈ l1, x.size ≤ maxLen)) (s2 : Hid (∀ x ∈ l2, x.size ≤ maxLen)) :
    Calls Try.prog 77 #[.slice a1 n1 c1, .slice a2 n2 c2] w fun e w' => e = .returned (.bool (withinE l1 l2)) ∧ Below w.heap.size w w' := by
  have hmm := run_makeMap_hint
  go_enter Try.func77, Try.ntmps77
  go_wp2_with fail
  go_loopw [17] (fun t wr => ∃ k : Nat, k ≤ n2 ∧ t = .int .i64 k ∧ Hid (wr.ownsMap Try.prog 31 unitElem w.heap.size k (setW (l2.take k))) ∧ Hid (Below w.heap.size w wr)) (fun t _ => n2 - (intOf t).toNat)
  case atStart => exact ⟨0, Nat.zero_le _, rfl, World.ownsMap_made _ _ _ _, (Below.refl _ _).alloc (Nat.le_refl _) _⟩
  case round =>
    obtain ⟨k, hk, rfl, HO, HB⟩ := hrel
    by_cases hlt : k < n2
    · have hkl : k < l2.length := by have := hl2.out; omega
      obtain ⟨b, off, ha, hcell⟩ : ∃ b off, a2 = some ⟨b, off, none⟩ ∧ w.cell? ⟨b, off + k, none⟩ = some (.string l2[k]) := by
        rcases r2.out with h | ⟨b, off, h, hc⟩
        · simp at h; rw [h] at hkl; simp at hkl
        · exact ⟨b, off, h, hc k _ (by simp [hkl])⟩
      have hc : wr.cell? ⟨b, off + k, none⟩ = some (.string l2[k]) := (HB.out.cell (World.block_lt_of_cell? w _ hcell)).trans hcell
      have hkey : keyOf Try.prog 31 (.string l2[k]) = some (litW l2[k]) := keyOf_string_mk Try.underlying31 (s2.out _ (List.getElem_mem hkl))
      have hnext : Hid (setW (l2.take (k + 1)) = (setW (l2.take k)).put (litW l2[k]) (.agg [])) := by show _ = _; rw [List.take_succ_eq_append_getElem hkl, setW_snoc]
      generalize l2[k] = y at hc hkey hnext
      subst ha
      clear hcell r2
      go_wp2_with (first | (at_mapUpdate; refine wpList_mapUpdate_own _ rfl _ _ _ 122 rfl 31 123 lawW Try.underlying122 (unitElem (H := Unit)) w.heap.size k _ rfl HO.out (by unfold maxLen; omega) _ _ _ rfl rfl hkey _ [] unitElem_mk ?_; intro w1 hown1 hgrow1; have HO1 := Lib.hid hown1; have HB1 := Lib.hid (HB.out.grown hgrow1 HB.out.size (fun j hj => by cases hj; exact Nat.le_refl _)); clear hown1 hgrow1))
      exact ⟨⟨k + 1, by omega, by go_num, by rw [hnext.out]; exact HO1.out, HB1⟩, by simp [intOf]; omega⟩
    · have hkn : k = n2 := by omega
      subst hkn
      go_wp2_with fail
      have HO' : Hid (wr.ownsMap Try.prog 31 unitElem w.heap.size k (setW l2)) := by
        have := HO.out
        rw [List.take_of_length_le (by rw [hl2.out]; exact Nat.le_refl _)] at this
        exact this
      clear HO r2 s2
      go_loopw [27] (fun t wr => ∃ k' : Nat, k' ≤ n1 ∧ t = .int .i64 k' ∧ Hid (wr.ownsMap Try.prog 31 unitElem w.heap.size k (setW l2)) ∧ Hid (Below w.heap.size w wr) ∧ Hid (∀ x ∈ l1.take k', hasW l2 x = true)) (fun t _ => n1 - (intOf t).toNat)
      case atStart => exact ⟨0, Nat.zero_le _, rfl, HO', HB, by intro x hx; simp at hx⟩
      case round =>
        clear HO' HB
        obtain ⟨i, hi, rfl, HO, HB, HA⟩ := hrel
        by_cases hlt : i < n1
        · have hkl : i < l1.length := by have := hl1.out; omega
          obtain ⟨b, off, ha, hcell⟩ : ∃ b off, a1 = some ⟨b, off, none⟩ ∧ w.cell? ⟨b, off + i, none⟩ = some (.string l1[i]) := by
            rcases r1.out with h | ⟨b, off, h, hc⟩
            · simp at h; rw [h] at hkl; simp at hkl
            · exact ⟨b, off, h, hc i _ (by simp [hkl])⟩
          have hc : wr.cell? ⟨b, off + i, none⟩ = some (.string l1[i]) := (HB.out.cell (World.block_lt_of_cell? w _ hcell)).trans hcell
          have hkey : keyOf Try.prog 31 (.string l1[i]) = some (litW l1[i]) := keyOf_string_mk Try.underlying31 (s1.out _ (List.getElem_mem hkl))
          have hmem := Lib.hid (List.getElem_mem hkl)
          have hnext : Hid (hasW l2 l1[i] = true → ∀ x ∈ l1.take (i + 1), hasW l2 x = true) := by
            intro hw x hx
            rw [List.take_succ_eq_append_getElem hkl, List.mem_append] at hx
            rcases hx with hx | hx
            · exact HA.out x hx
            · simp at hx; subst hx; exact hw
          generalize l1[i] = y at hc hkey hnext hmem
          subst ha
          clear hcell r1
          cases hh : hasW l2 y with
          | true =>
            have HH : Maps.has (setW l2) (litW y) = true := by rw [has_setW]; exact hh
            have HN := Lib.hid (hnext.out hh)
            clear hh hnext
            go_wp2_with (first | (at_lookup; refine wpList_lookup_own_unit _ rfl _ _ 122 rfl 31 123 lawW Try.underlying122 (zeroU _) w.heap.size k _ rfl HO.out _ _ rfl hkey ?_; rw [HH]))
            exact ⟨⟨i + 1, by omega, by go_num, HO.out.alloc _, HB.out.alloc HB.out.size _, HN⟩, by simp [intOf]; omega⟩
          | false =>
            have HH : Maps.has (setW l2) (litW y) = false := by rw [has_setW]; exact hh
            have HN : Hid (withinE l1 l2 = false) := by
              show _ = _
              cases hb : withinE l1 l2 with
              | false => rfl
              | true => rw [hasW_iff.2 (withinE_iff.1 hb y hmem.out)] at hh; cases hh
            clear hh hnext
            go_wp2_with (first | (at_lookup; refine wpList_lookup_own_unit _ rfl _ _ 122 rfl 31 123 lawW Try.underlying122 (zeroU _) w.heap.size k _ rfl HO.out _ _ rfl hkey ?_; rw [HH]))
            go_ret
            exact ⟨ret_bool HN.out.symm, HB.out.alloc HB.out.size _⟩
        · have hin : i = n1 := by omega
          subst hin
          go_wp2_with fail
          go_ret
          refine ⟨ret_bool ?_, HB.out⟩
          have := HA.out
          rw [List.take_of_length_le (by rw [hl1.out]; exact Nat.le_refl _)] at this
          exact (withinE_iff.2 fun w hw => hasW_iff.1 (this w hw)).symm
theorem p_within (l1 l2 : List ByteArray) (h1 : l1.length ≤ 1000000) (h2 : l2.length ≤ 1000000) (s1 : ∀ x ∈ l1, x.size ≤ maxLen) (s2 : ∀ x ∈ l2, x.size ≤ maxLen) :
    PCalls Try.prog 77 [.lst .ro l1.length (l1.map .str), .lst .ro l2.length (l2.map .str)] (.bool (withinE l1 l2)) := by
  refine pcalls_calls (by simp [free, free.frees, frees_str]) rfl rfl (by kernel_rfl) ?_
  intro g w vargs hsim hr
  obtain ⟨v1, v2, rfl, hv1, hv2⟩ : ∃ v1 v2, vargs = [v1, v2] ∧ Rep g v1 (.lst .ro l1.length (l1.map .str)) ∧ Rep g v2 (.lst .ro l2.length (l2.map .str)) := by
    cases hr with
    | cons q1 q2 =>
      cases q2 with
      | cons q3 q4 => cases q4; exact ⟨_, _, rfl, q1, q3⟩
  obtain ⟨a1, c1, rfl, r1⟩ := rep_strs hsim hv1
  obtain ⟨a2, c2, rfl, r2⟩ := rep_strs hsim hv2
  refine (within_any a1 a2 l1.length l2.length c1 c2 l1 l2 w h1 h2 rfl rfl r1 r2 s1 s2).mono ?_
  rintro e w' ⟨rfl, hb⟩
  exact ⟨_, rfl, hb, .bool _⟩
theorem p_same (l1 l2 : List ByteArray) (h1 : l1.length ≤ 1000000) (h2 : l2.length ≤ 1000000) (s1 : ∀ x ∈ l1, x.size ≤ maxLen) (s2 : ∀ x ∈ l2, x.size ≤ maxLen) :
    PCalls Try.prog 70 [.lst .ro l1.length (l1.map .str), .lst .ro l2.length (l2.map .str)] (.bool (withinE l1 l2 && withinE l2 l1)) := by
  refine pcalls_of (by first | rfl | simp [free, free.frees, frees_str, frees_u8, frees_u16]) (by first | rfl | simp [free, free.frees, frees_str, frees_u8, frees_u16]) (acalls_of mixed J_set_Same_ok (Nat.le_of_ble_eq_true rfl) ?_); simp only [J_set_Same, wk,if_true,if_false,forall_const,implies_true,ne_eq,eq_self,Nat.reduceEqDiff,Nat.reduceAdd,Nat.reduceMul,Nat.reduceSub,Nat.reduceLeDiff,Nat.reduceLT,Int.reduceEq,Int.reduceLT,Int.reduceLE,Int.reduceAdd,Int.reduceSub,Int.reduceMul,Int.reduceNeg,Int.reduceNe,reduceCtorEq,Int.reduceToNat,↓reduceIte]
  refine PCalls.use (p_within l1 l2 h1 h2 s1 s2) ?_; simp only [wk,if_true,if_false,forall_const,implies_true,ne_eq,eq_self,Nat.reduceEqDiff,Nat.reduceAdd,Nat.reduceMul,Nat.reduceSub,Nat.reduceLeDiff,Nat.reduceLT,Int.reduceEq,Int.reduceLT,Int.reduceLE,Int.reduceAdd,Int.reduceSub,Int.reduceMul,Int.reduceNeg,Int.reduceNe,reduceCtorEq,Int.reduceToNat,↓reduceIte]
  cases hw : withinE l1 l2 with
  | true =>
    simp only [wk,if_true,if_false,forall_const,implies_true,ne_eq,eq_self,Nat.reduceEqDiff,Nat.reduceAdd,Nat.reduceMul,Nat.reduceSub,Nat.reduceLeDiff,Nat.reduceLT,Int.reduceEq,Int.reduceLT,Int.reduceLE,Int.reduceAdd,Int.reduceSub,Int.reduceMul,Int.reduceNeg,Int.reduceNe,reduceCtorEq,Int.reduceToNat,↓reduceIte]
    refine PCalls.use (p_within l2 l1 h2 h1 s2 s1) ?_; simp only [wk,if_true,if_false,forall_const,implies_true,ne_eq,eq_self,Nat.reduceEqDiff,Nat.reduceAdd,Nat.reduceMul,Nat.reduceSub,Nat.reduceLeDiff,Nat.reduceLT,Int.reduceEq,Int.reduceLT,Int.reduceLE,Int.reduceAdd,Int.reduceSub,Int.reduceMul,Int.reduceNeg,Int.reduceNe,reduceCtorEq,Int.reduceToNat,↓reduceIte]
    rfl
  | false =>
    simp only [wk,if_true,if_false,forall_const,implies_true,ne_eq,eq_self,Nat.reduceEqDiff,Nat.reduceAdd,Nat.reduceMul,Nat.reduceSub,Nat.reduceLeDiff,Nat.reduceLT,Int.reduceEq,Int.reduceLT,Int.reduceLE,Int.reduceAdd,Int.reduceSub,Int.reduceMul,Int.reduceNeg,Int.reduceNe,reduceCtorEq,Int.reduceToNat,↓reduceIte]
    rfl
end Go.Proofs.Ytpjlkefadnbgdaa

/- And, Quote, As, For of package set. -/
namespace Go.Proofs.Ytpjlkefadnbgdaa
set_option linter.unusedSimpArgs false
set_option linter.unusedVariables false
open Go.RowKit Go.Lib

theorem setMay_ne {l : List ByteArray} (h : setMay l = true) : l ≠ [] := by
  rintro rfl
  have := (setMay_words h).1.1
  simp at this
end Go.Proofs.Ytpjlkefadnbgdaa

/- awake of the laws on sets: what each call comes to. -/
namespace Go.Proofs.Ytpjlkefadnbgdaa
set_option linter.unusedSimpArgs false
set_option linter.unusedVariables false
open Go.RowKit Go.Lib

end Go.Proofs.Ytpjlkefadnbgdaa

/- large of the laws on sets; what stays small. -/
namespace Go.Proofs.Ytpjlkefadnbgdaa
set_option linter.unusedSimpArgs false
set_option linter.unusedVariables false
open Go.RowKit Go.Lib

end Go.Proofs.Ytpjlkefadnbgdaa

/- SetAnd: the plain law, and the walk. -/
namespace Go.Proofs.Ytpjlkefadnbgdaa
set_option linter.unusedSimpArgs false
set_option linter.unusedVariables false
open Go.RowKit Go.Lib

theorem and_may {a b : List ByteArray} (ha : setMay a = true) (hb : setMay b = true) : andE a b = boundE (nrm (a ++ b)) := by
  unfold andE
  rw [if_neg (by simp [ha, hb]), ofE_may (fun x hx => by rcases List.mem_append.1 hx with h | h; exact (setMay_words ha).2 x h; exact (setMay_words hb).2 x h)]
theorem nrm_pos {l : List ByteArray} (h : l ≠ []) : 1 ≤ (nrm l).length := by
  cases l with
  | nil => exact absurd rfl h
  | cons x l => exact List.length_pos_of_mem (mem_nrm.2 (List.mem_cons_self ..))
theorem and_fit {a b : List ByteArray} (ha : setMay a = true) (hb : setMay b = true) (h : (nrm (a ++ b)).length ≤ 16) : andE a b = (nrm (a ++ b), 0) ∧ setMay (nrm (a ++ b)) = true := by
  have h1 := nrm_pos (l := a ++ b) (by simp [setMay_ne ha])
  refine ⟨by rw [and_may ha hb]; unfold boundE; rw [if_pos ⟨h1, h⟩], setMay_mk h1 h (fun x hx => ?_) (rising_nrm _)⟩
  rcases List.mem_append.1 (mem_nrm.1 hx) with h | h
  · exact (setMay_words ha).2 x h
  · exact (setMay_words hb).2 x h
theorem and_self {a : List ByteArray} (ha : setMay a = true) : andE a a = (a, 0) := by
  have e : nrm (a ++ a) = a := (nrm_eq (setMay_rising ha) (fun x => by simp)).symm
  have := (and_fit ha ha (by rw [e]; exact (setMay_small ha).1)).1
  rwa [e] at this
theorem smallS_nrm {a : List ByteArray} (h : setMay a = true) : a.length ≤ 10000 ∧ (∀ x ∈ a, x.size ≤ 1000000) ∧ ∀ x ∈ a, x.size ≤ maxLen := by
  have := setMay_small h
  exact ⟨by omega, fun x hx => by have := this.2 x hx; omega, fun x hx => by have := this.2 x hx; unfold maxLen; omega⟩
theorem ofE_small (l : List ByteArray) : (ofE l).1.length ≤ 16 := by
  unfold ofE
  split
  · simp
  · split
    · next h => exact h.2
    · simp
end Go.Proofs.Ytpjlkefadnbgdaa

/- Certificates: the plain structure, and the small functions of cert and its reference. -/
namespace Go.Proofs.Ytpjlkefadnbgdaa
set_option linter.unusedSimpArgs false
set_option linter.unusedVariables false
open Go.RowKit Go.Lib

structure Crt where
  kind : Int
  signer : Nat
  speaker : ByteArray
  words : List ByteArray
  since : Int
  till : Int
  serial : Int
def cC (c : Crt) : List AV := [.int .i64 c.kind, .int .u16 c.signer, .str c.speaker, .lst .ro c.words.length (c.words.map .str), .int .i64 c.since, .int .i64 c.till, .int .i64 c.serial]
def vC (c : Crt) : AV := .agg (cC c)
theorem free_vC (c : Crt) : free (vC c) = true := by unfold vC cC; simp [free, free.frees, frees_str]
def sameE (a b : Crt) : Bool := decide (a.kind = b.kind ∧ a.signer = b.signer ∧ a.speaker = b.speaker ∧ a.words = b.words ∧ a.since = b.since ∧ a.till = b.till ∧ a.serial = b.serial)
theorem drop_ints {l : List Int} {i : Nat} (h : i < l.length) : (l.map (AV.int .i64)).drop i = .int .i64 l[i] :: (l.map (AV.int .i64)).drop (i + 1) := by
  rw [← List.map_drop, List.drop_eq_getElem_cons h, List.map_cons, List.map_drop]
def idxI (x : Int) : List Int → Int
  | [] => -1
  | y :: l => if x = y then 0 else if idxI x l < 0 then -1 else idxI x l + 1
def hasI (l : List Int) (x : Int) : Bool := l.any fun y => decide (x = y)
theorem hasI_iff {l : List Int} {x : Int} : hasI l x = true ↔ x ∈ l := by
  unfold hasI
  rw [List.any_eq_true]
  constructor
  · rintro ⟨y, hy, h⟩; simp only [decide_eq_true_eq] at h; subst h; exact hy
  · intro h; exact ⟨x, h, by simp⟩
theorem idxI_none {x : Int} : ∀ {l : List Int}, x ∉ l → idxI x l = -1
  | [], _ => rfl
  | y :: r, h => by
    simp only [List.mem_cons, not_or] at h
    simp only [idxI]
    rw [if_neg h.1, idxI_none h.2]; rfl
theorem idxI_at {x : Int} : ∀ {l : List Int} {i : Nat}, l[i]? = some x → x ∉ l.take i → idxI x l = i
  | [], i, h, _ => by simp at h
  | y :: r, 0, h, _ => by simp at h; subst h; simp [idxI]
  | y :: r, i + 1, h, hn => by
    simp only [List.getElem?_cons_succ] at h
    simp only [List.take_succ_cons, List.mem_cons, not_or] at hn
    have := idxI_at h hn.2
    simp only [idxI]
    rw [if_neg hn.1, if_neg (by omega), this]; omega
theorem idxI_mem (x : Int) (l : List Int) : decide (0 ≤ idxI x l) = hasI l x := by
  by_cases h : x ∈ l
  · have hk : ∀ (l : List Int), x ∈ l → 0 ≤ idxI x l := by
      intro l
      induction l with
      | nil => intro h; simp at h
      | cons y r ih =>
        intro h
        simp only [idxI]
        split
        · omega
        · next hx =>
          have := ih (by rcases List.mem_cons.1 h with h | h; exact absurd h hx; exact h)
          rw [if_neg (by omega)]; omega
    rw [decide_eq_true (hk l h), hasI_iff.2 h]
  · rw [idxI_none h]
    cases hh : hasI l x with
    | false => rfl
    | true => exact absurd (hasI_iff.1 hh) h
theorem frees_ints (l : List Int) : free.frees (l.map (AV.int .i64)) = true := by
  induction l with
  | nil => rfl
  | cons s ls ih => simp only [List.map_cons, free.frees, ih, free, Bool.and_true]
set_option maxHeartbeats 1000000 in
theorem p_indexI (l : List Int) (x : Int) (hl : l.length ≤ 9223372036854775807) : PCalls Try.prog 67 [.lst .ro l.length (l.map (.int .i64)), .int .i64 x] (.int .i64 (idxI x l)) := by
  refine pcalls_of (by simp [free.frees, free, frees_ints]) rfl (acalls_of mixed J_slices_Index_int_int_ok (Nat.le_of_ble_eq_true rfl) ?_); simp only [J_slices_Index_int_int, wk,if_true,if_false,forall_const,implies_true,ne_eq,eq_self,Nat.reduceEqDiff,Nat.reduceAdd,Nat.reduceMul,Nat.reduceSub,Nat.reduceLeDiff,Nat.reduceLT,Int.reduceEq,Int.reduceLT,Int.reduceLE,Int.reduceAdd,Int.reduceSub,Int.reduceMul,Int.reduceNeg,Int.reduceNe,reduceCtorEq,Int.reduceToNat,↓reduceIte]
  refine W_loop (fun n fr h => ∃ i : Nat, i ≤ l.length ∧ n = l.length - i ∧ fr = [(0, .lst .ro l.length (l.map (.int .i64))), (1, .int .i64 x), (7, .int .i64 l.length), (8, .int .i64 i)] ∧ x ∉ l.take i) l.length ⟨0, by omega, by omega, rfl, by simp⟩ ?_
  rintro n fr h ⟨i, hi, rfl, rfl, hno⟩
  simp only [J_slices_Index_int_int_j2, J_slices_Index_int_int_j1, wk,if_true,if_false,forall_const,implies_true,ne_eq,eq_self,Nat.reduceEqDiff,Nat.reduceAdd,Nat.reduceMul,Nat.reduceSub,Nat.reduceLeDiff,Nat.reduceLT,Int.reduceEq,Int.reduceLT,Int.reduceLE,Int.reduceAdd,Int.reduceSub,Int.reduceMul,Int.reduceNeg,Int.reduceNe,reduceCtorEq,Int.reduceToNat,↓reduceIte]
  refine ⟨fun hlt => ?_, fun hge => int_eq ?_⟩
  · have hil : i < l.length := by omega
    (repeat (refine And.intro (by first | omega | exact inR_of (by omega) (by omega) | exact ⟨by omega, by omega⟩ | exact ⟨by omega, by omega, by omega⟩ | rfl) ?_))
    rw [show (i : Int).toNat = i by omega, drop_ints hil]
    simp only [wk,if_true,if_false,forall_const,implies_true,ne_eq,eq_self,Nat.reduceEqDiff,Nat.reduceAdd,Nat.reduceMul,Nat.reduceSub,Nat.reduceLeDiff,Nat.reduceLT,Int.reduceEq,Int.reduceLT,Int.reduceLE,Int.reduceAdd,Int.reduceSub,Int.reduceMul,Int.reduceNeg,Int.reduceNe,reduceCtorEq,Int.reduceToNat,↓reduceIte]
    refine ⟨fun he => int_eq ?_, fun hne => ⟨inR_of (by omega) (by omega), l.length - (i + 1), by omega, i + 1, by omega, rfl, rfl, fun hm => ?_⟩⟩
    · rw [idxI_at (i := i) (by rw [List.getElem?_eq_getElem hil, he]) hno]
    · rcases (take_mem_succ hil).1 hm with h | h
      · exact hno h
      · exact hne h
  · rw [List.take_of_length_le (by omega)] at hno
    rw [idxI_none hno]
theorem p_containsI (l : List Int) (x : Int) (hl : l.length ≤ 9223372036854775807) : PCalls Try.prog 63 [.lst .ro l.length (l.map (.int .i64)), .int .i64 x] (.bool (hasI l x)) := by
  refine pcalls_of (by simp [free.frees, free, frees_ints]) rfl (acalls_of mixed J_slices_Contains_int_int_ok (Nat.le_of_ble_eq_true rfl) ?_); simp only [J_slices_Contains_int_int, wk,if_true,if_false,forall_const,implies_true,ne_eq,eq_self,Nat.reduceEqDiff,Nat.reduceAdd,Nat.reduceMul,Nat.reduceSub,Nat.reduceLeDiff,Nat.reduceLT,Int.reduceEq,Int.reduceLT,Int.reduceLE,Int.reduceAdd,Int.reduceSub,Int.reduceMul,Int.reduceNeg,Int.reduceNe,reduceCtorEq,Int.reduceToNat,↓reduceIte]
  refine PCalls.use (p_indexI l x hl) ?_; simp only [wk,if_true,if_false,forall_const,implies_true,ne_eq,eq_self,Nat.reduceEqDiff,Nat.reduceAdd,Nat.reduceMul,Nat.reduceSub,Nat.reduceLeDiff,Nat.reduceLT,Int.reduceEq,Int.reduceLT,Int.reduceLE,Int.reduceAdd,Int.reduceSub,Int.reduceMul,Int.reduceNeg,Int.reduceNe,reduceCtorEq,Int.reduceToNat,↓reduceIte]
  exact bool_eq (idxI_mem x l)
theorem p_isOf (a : Nat) (l : List Int) (h : a < 65536) (hl : l.length ≤ 9223372036854775807) : PCalls Try.prog 59 [.int .u16 a, .lst .ro l.length (l.map (.int .i64))] (.bool (hasI l ((a / 8192 : Nat) : Int))) := by
  refine pcalls_of (by simp [free.frees, free, frees_ints]) rfl (acalls_of mixed J_cert_isOf_ok (Nat.le_of_ble_eq_true rfl) ?_); simp only [J_cert_isOf, wk,if_true,if_false,forall_const,implies_true,ne_eq,eq_self,Nat.reduceEqDiff,Nat.reduceAdd,Nat.reduceMul,Nat.reduceSub,Nat.reduceLeDiff,Nat.reduceLT,Int.reduceEq,Int.reduceLT,Int.reduceLE,Int.reduceAdd,Int.reduceSub,Int.reduceMul,Int.reduceNeg,Int.reduceNe,reduceCtorEq,Int.reduceToNat,↓reduceIte]
  have hw : IntKind.wrap .i64 (a : Int) = a := by rw [IntKind.wrap_i64]; omega
  have hd : (a : Int).tdiv 8192 = ((a / 8192 : Nat) : Int) := by rw [Int.tdiv_eq_ediv_of_nonneg (by omega)]; omega
  rw [hw, hd]
  refine ⟨inR_of (by omega) (by omega), ?_⟩
  refine PCalls.use (p_containsI l ((a / 8192 : Nat) : Int) hl) ?_; simp only [wk,if_true,if_false,forall_const,implies_true,ne_eq,eq_self,Nat.reduceEqDiff,Nat.reduceAdd,Nat.reduceMul,Nat.reduceSub,Nat.reduceLeDiff,Nat.reduceLT,Int.reduceEq,Int.reduceLT,Int.reduceLE,Int.reduceAdd,Int.reduceSub,Int.reduceMul,Int.reduceNeg,Int.reduceNe,reduceCtorEq,Int.reduceToNat,↓reduceIte]
theorem p_alone (w : ByteArray) (l : List Int) (hw : w.size ≤ 9223372036854775807) (hl : l.length ≤ 9223372036854775807) : PCalls Try.prog 65 [.str w, .lst .ro l.length (l.map (.int .i64))] (.bool (decide (w.size / 2 = 1) && hasI l ((atomAt w 0 / 8192 : Nat) : Int))) := by
  refine pcalls_of (by simp [free.frees, free, frees_ints]) rfl (acalls_of mixed J_cert_alone_ok (Nat.le_of_ble_eq_true rfl) ?_); simp only [J_cert_alone, wk,if_true,if_false,forall_const,implies_true,ne_eq,eq_self,Nat.reduceEqDiff,Nat.reduceAdd,Nat.reduceMul,Nat.reduceSub,Nat.reduceLeDiff,Nat.reduceLT,Int.reduceEq,Int.reduceLT,Int.reduceLE,Int.reduceAdd,Int.reduceSub,Int.reduceMul,Int.reduceNeg,Int.reduceNe,reduceCtorEq,Int.reduceToNat,↓reduceIte]
  refine PCalls.use (p_wlen w hw) ?_; simp only [wk,if_true,if_false,forall_const,implies_true,ne_eq,eq_self,Nat.reduceEqDiff,Nat.reduceAdd,Nat.reduceMul,Nat.reduceSub,Nat.reduceLeDiff,Nat.reduceLT,Int.reduceEq,Int.reduceLT,Int.reduceLE,Int.reduceAdd,Int.reduceSub,Int.reduceMul,Int.reduceNeg,Int.reduceNe,reduceCtorEq,Int.reduceToNat,↓reduceIte]
  refine ⟨fun h1 => ?_, fun h1 => bool_eq (by rw [decide_eq_false (by omega)]; rfl)⟩
  refine PCalls.use (p_wat w 0 hw (by omega)) ?_; simp only [wk,if_true,if_false,forall_const,implies_true,ne_eq,eq_self,Nat.reduceEqDiff,Nat.reduceAdd,Nat.reduceMul,Nat.reduceSub,Nat.reduceLeDiff,Nat.reduceLT,Int.reduceEq,Int.reduceLT,Int.reduceLE,Int.reduceAdd,Int.reduceSub,Int.reduceMul,Int.reduceNeg,Int.reduceNe,reduceCtorEq,Int.reduceToNat,↓reduceIte]
  refine PCalls.use (p_isOf (atomAt w 0) l (atomAt_lt w 0) hl) ?_; simp only [wk,if_true,if_false,forall_const,implies_true,ne_eq,eq_self,Nat.reduceEqDiff,Nat.reduceAdd,Nat.reduceMul,Nat.reduceSub,Nat.reduceLeDiff,Nat.reduceLT,Int.reduceEq,Int.reduceLT,Int.reduceLE,Int.reduceAdd,Int.reduceSub,Int.reduceMul,Int.reduceNeg,Int.reduceNe,reduceCtorEq,Int.reduceToNat,↓reduceIte]
  rw [decide_eq_true (show w.size / 2 = 1 by omega)]
  rfl
def numL (l : List Int) : Bool := l.all fun x => decide (0 ≤ x) && decide (x ≤ 4611686018427387904)
theorem p_cnum (l : List Int) (hl : l.length ≤ 9223372036854775807) : PCalls Try.prog 60 [.lst .ro l.length (l.map (.int .i64))] (.bool (numL l)) := by
  refine pcalls_of (by simp [free.frees, free, frees_ints]) rfl (acalls_of mixed J_cert_num_ok (Nat.le_of_ble_eq_true rfl) ?_); simp only [J_cert_num, wk,if_true,if_false,forall_const,implies_true,ne_eq,eq_self,Nat.reduceEqDiff,Nat.reduceAdd,Nat.reduceMul,Nat.reduceSub,Nat.reduceLeDiff,Nat.reduceLT,Int.reduceEq,Int.reduceLT,Int.reduceLE,Int.reduceAdd,Int.reduceSub,Int.reduceMul,Int.reduceNeg,Int.reduceNe,reduceCtorEq,Int.reduceToNat,↓reduceIte]
  refine W_loop (fun n fr h => ∃ i : Nat, i ≤ l.length ∧ n = l.length - i ∧ fr = [(5, .lst .ro l.length (l.map (.int .i64))), (6, .int .i64 l.length), (7, .int .i64 i)] ∧ ∀ x ∈ l.take i, 0 ≤ x ∧ x ≤ 4611686018427387904) l.length ⟨0, by omega, by omega, rfl, by simp⟩ ?_
  rintro n fr h ⟨i, hi, rfl, rfl, hall⟩
  simp only [J_cert_num_j2, J_cert_num_j1, wk,if_true,if_false,forall_const,implies_true,ne_eq,eq_self,Nat.reduceEqDiff,Nat.reduceAdd,Nat.reduceMul,Nat.reduceSub,Nat.reduceLeDiff,Nat.reduceLT,Int.reduceEq,Int.reduceLT,Int.reduceLE,Int.reduceAdd,Int.reduceSub,Int.reduceMul,Int.reduceNeg,Int.reduceNe,reduceCtorEq,Int.reduceToNat,↓reduceIte]
  refine ⟨fun hlt => ?_, fun hge => bool_eq ?_⟩
  · have hil : i < l.length := by omega
    (repeat (refine And.intro (by first | omega | exact inR_of (by omega) (by omega) | exact ⟨by omega, by omega⟩ | exact ⟨by omega, by omega, by omega⟩ | rfl) ?_))
    rw [show (i : Int).toNat = i by omega, drop_ints hil]
    simp only [wk,if_true,if_false,forall_const,implies_true,ne_eq,eq_self,Nat.reduceEqDiff,Nat.reduceAdd,Nat.reduceMul,Nat.reduceSub,Nat.reduceLeDiff,Nat.reduceLT,Int.reduceEq,Int.reduceLT,Int.reduceLE,Int.reduceAdd,Int.reduceSub,Int.reduceMul,Int.reduceNeg,Int.reduceNe,reduceCtorEq,Int.reduceToNat,↓reduceIte]
    have hno : ¬ (0 ≤ l[i] ∧ l[i] ≤ 4611686018427387904) → numL l = false := by
      intro h
      cases hn : numL l with
      | false => rfl
      | true =>
        have := List.all_eq_true.1 hn l[i] (List.getElem_mem hil)
        simp only [Bool.and_eq_true, decide_eq_true_eq] at this
        exact absurd this h
    have hyes : 0 ≤ l[i] → l[i] ≤ 4611686018427387904 → ∀ x ∈ l.take (i + 1), 0 ≤ x ∧ x ≤ 4611686018427387904 := by
      intro h1 h2 x hx
      rcases (take_mem_succ hil).1 hx with h | h
      · exact hall x h
      · subst h; exact ⟨h1, h2⟩
    refine ⟨fun h0 => ⟨fun h1 => bool_eq (hno (by omega)).symm, fun h1 => ⟨inR_of (by omega) (by omega), l.length - (i + 1), by omega, i + 1, by omega, rfl, rfl, hyes (by omega) (by omega)⟩⟩, fun h0 => bool_eq (hno (by omega)).symm⟩
  · rw [List.take_of_length_le (by omega)] at hall
    unfold numL
    symm
    rw [List.all_eq_true]
    intro x hx
    have := hall x hx
    simp only [Bool.and_eq_true, decide_eq_true_eq]
    exact this
theorem p_csame (a b : Crt) (h : a.words.length ≤ 9223372036854775807) : PCalls Try.prog 25 [vC a, vC b] (.bool (sameE a b)) := by
  refine pcalls_of (by simp [free.frees, free_vC]) rfl (acalls_of mixed J_cert_Same_ok (Nat.le_of_ble_eq_true rfl) ?_); simp only [J_cert_Same, vC, cC, wk,if_true,if_false,forall_const,implies_true,ne_eq,eq_self,Nat.reduceEqDiff,Nat.reduceAdd,Nat.reduceMul,Nat.reduceSub,Nat.reduceLeDiff,Nat.reduceLT,Int.reduceEq,Int.reduceLT,Int.reduceLE,Int.reduceAdd,Int.reduceSub,Int.reduceMul,Int.reduceNeg,Int.reduceNe,reduceCtorEq,Int.reduceToNat,↓reduceIte]
  refine ⟨fun h1 => ⟨fun h2 => ⟨fun h3 => ?_, fun h3 => bool_eq (by simp [sameE, h3])⟩, fun h2 => bool_eq (by simp only [sameE]; symm; simp; intro _ h; omega)⟩, fun h1 => bool_eq (by simp [sameE, h1])⟩
  refine PCalls.use (p_sequal a.words b.words h) ?_; simp only [wk,if_true,if_false,forall_const,implies_true,ne_eq,eq_self,Nat.reduceEqDiff,Nat.reduceAdd,Nat.reduceMul,Nat.reduceSub,Nat.reduceLeDiff,Nat.reduceLT,Int.reduceEq,Int.reduceLT,Int.reduceLE,Int.reduceAdd,Int.reduceSub,Int.reduceMul,Int.reduceNeg,Int.reduceNe,reduceCtorEq,Int.reduceToNat,↓reduceIte]
  have hs : a.signer = b.signer := by omega
  refine ⟨fun h4 => ⟨fun h5 => ⟨fun h6 => bool_eq (by simp [sameE, h1, hs, h3, h4, h5, h6]), fun h6 => bool_eq (by simp [sameE, h6])⟩, fun h5 => bool_eq (by simp [sameE, h5])⟩, fun h4 => bool_eq (by simp [sameE, h4])⟩
end Go.Proofs.Ytpjlkefadnbgdaa

/- SetQuote, SetFor: the plain laws. -/
namespace Go.Proofs.Ytpjlkefadnbgdaa
set_option linter.unusedSimpArgs false
set_option linter.unusedVariables false
open Go.RowKit Go.Lib

theorem ofE_ok {l : List ByteArray} (h : (ofE l).2 = 0) : ofE l = (nrm l, 0) := by
  unfold ofE at h ⊢
  split at h
  · cases h
  · next h1 =>
    split at h
    · next h2 => rw [if_neg h1, if_pos h2]
    · cases h
end Go.Proofs.Ytpjlkefadnbgdaa

/- cert.delegate: a certificate of delegation. -/
namespace Go.Proofs.Ytpjlkefadnbgdaa
set_option linter.unusedSimpArgs false
set_option linter.unusedVariables false
open Go.RowKit Go.Lib

theorem p_wwithin (w : ByteArray) (hw : w.size ≤ 1000000) (h : 2 ≤ w.size) : PCalls Try.prog 71 [.str w, .int .i64 0, .int .i64 1] (.bool true) := by
  refine pcalls_of (by first | rfl | simp [free, free.frees, frees_str, frees_u8, frees_u16]) (by first | rfl | simp [free, free.frees, frees_str, frees_u8, frees_u16]) (acalls_of mixed J_word_within_ok (Nat.le_of_ble_eq_true rfl) ?_); simp only [J_word_within, wk,if_true,if_false,forall_const,implies_true,ne_eq,eq_self,Nat.reduceEqDiff,Nat.reduceAdd,Nat.reduceMul,Nat.reduceSub,Nat.reduceLeDiff,Nat.reduceLT,Int.reduceEq,Int.reduceLT,Int.reduceLE,Int.reduceAdd,Int.reduceSub,Int.reduceMul,Int.reduceNeg,Int.reduceNe,reduceCtorEq,Int.reduceToNat,↓reduceIte]
  refine PCalls.use (p_wlen w (by omega)) ?_; simp only [wk,if_true,if_false,forall_const,implies_true,ne_eq,eq_self,Nat.reduceEqDiff,Nat.reduceAdd,Nat.reduceMul,Nat.reduceSub,Nat.reduceLeDiff,Nat.reduceLT,Int.reduceEq,Int.reduceLT,Int.reduceLE,Int.reduceAdd,Int.reduceSub,Int.reduceMul,Int.reduceNeg,Int.reduceNe,reduceCtorEq,Int.reduceToNat,↓reduceIte]
  refine ⟨fun _ => ?_, fun h0 => by omega⟩
  refine PCalls.use (p_wlen w (by omega)) ?_; simp only [wk,if_true,if_false,forall_const,implies_true,ne_eq,eq_self,Nat.reduceEqDiff,Nat.reduceAdd,Nat.reduceMul,Nat.reduceSub,Nat.reduceLeDiff,Nat.reduceLT,Int.reduceEq,Int.reduceLT,Int.reduceLE,Int.reduceAdd,Int.reduceSub,Int.reduceMul,Int.reduceNeg,Int.reduceNe,reduceCtorEq,Int.reduceToNat,↓reduceIte]
  exact ⟨inR_of (by omega) (by omega), bool_eq (decide_eq_true (by omega))⟩
def toldW (w : ByteArray) : ByteArray := atomW 1 ++ w.extract 2 w.size
theorem p_swap (w : ByteArray) (hev : w.size % 2 = 0) (hw : w.size ≤ 16) (h : 4 ≤ w.size) : PCalls Try.prog 68 [.str w, .int .i64 0, .int .i64 1, .str (atomW 1)] (.tup [.str (toldW w), .int .i64 0]) := by
  refine pcalls_of (by first | rfl | simp [free, free.frees, frees_str, frees_u8, frees_u16]) (by first | rfl | simp [free, free.frees, frees_str, frees_u8, frees_u16]) (acalls_of mixed J_word_Swap_ok (Nat.le_of_ble_eq_true rfl) ?_); simp only [J_word_Swap, wk,if_true,if_false,forall_const,implies_true,ne_eq,eq_self,Nat.reduceEqDiff,Nat.reduceAdd,Nat.reduceMul,Nat.reduceSub,Nat.reduceLeDiff,Nat.reduceLT,Int.reduceEq,Int.reduceLT,Int.reduceLE,Int.reduceAdd,Int.reduceSub,Int.reduceMul,Int.reduceNeg,Int.reduceNe,reduceCtorEq,Int.reduceToNat,↓reduceIte]
  refine PCalls.use (p_wodd w) ?_; simp only [wk,if_true,if_false,forall_const,implies_true,ne_eq,eq_self,Nat.reduceEqDiff,Nat.reduceAdd,Nat.reduceMul,Nat.reduceSub,Nat.reduceLeDiff,Nat.reduceLT,Int.reduceEq,Int.reduceLT,Int.reduceLE,Int.reduceAdd,Int.reduceSub,Int.reduceMul,Int.reduceNeg,Int.reduceNe,reduceCtorEq,Int.reduceToNat,↓reduceIte]
  refine ⟨fun _ => ?_, fun h0 => absurd hev h0⟩
  refine PCalls.use (p_wodd (atomW 1)) ?_; simp only [wk,if_true,if_false,forall_const,implies_true,ne_eq,eq_self,Nat.reduceEqDiff,Nat.reduceAdd,Nat.reduceMul,Nat.reduceSub,Nat.reduceLeDiff,Nat.reduceLT,Int.reduceEq,Int.reduceLT,Int.reduceLE,Int.reduceAdd,Int.reduceSub,Int.reduceMul,Int.reduceNeg,Int.reduceNe,reduceCtorEq,Int.reduceToNat,↓reduceIte]
  refine ⟨fun h0 => absurd rfl h0, fun _ => ?_⟩
  refine PCalls.use (p_wwithin w (by omega) (by omega)) ?_; simp only [wk,if_true,if_false,forall_const,implies_true,ne_eq,eq_self,Nat.reduceEqDiff,Nat.reduceAdd,Nat.reduceMul,Nat.reduceSub,Nat.reduceLeDiff,Nat.reduceLT,Int.reduceEq,Int.reduceLT,Int.reduceLE,Int.reduceAdd,Int.reduceSub,Int.reduceMul,Int.reduceNeg,Int.reduceNe,reduceCtorEq,Int.reduceToNat,↓reduceIte]
  refine PCalls.use (p_wlen w (by omega)) ?_; simp only [wk,if_true,if_false,forall_const,implies_true,ne_eq,eq_self,Nat.reduceEqDiff,Nat.reduceAdd,Nat.reduceMul,Nat.reduceSub,Nat.reduceLeDiff,Nat.reduceLT,Int.reduceEq,Int.reduceLT,Int.reduceLE,Int.reduceAdd,Int.reduceSub,Int.reduceMul,Int.reduceNeg,Int.reduceNe,reduceCtorEq,Int.reduceToNat,↓reduceIte]
  refine ⟨inR_of (by omega) (by omega), ?_⟩
  refine PCalls.use (p_wlen (atomW 1) (by decide)) ?_; simp only [wk,if_true,if_false,forall_const,implies_true,ne_eq,eq_self,Nat.reduceEqDiff,Nat.reduceAdd,Nat.reduceMul,Nat.reduceSub,Nat.reduceLeDiff,Nat.reduceLT,Int.reduceEq,Int.reduceLT,Int.reduceLE,Int.reduceAdd,Int.reduceSub,Int.reduceMul,Int.reduceNeg,Int.reduceNe,reduceCtorEq,Int.reduceToNat,↓reduceIte]
  have hD : (atomW 1).size = 2 := rfl
  rw [hD]
  refine ⟨inR_of (by omega) (by omega), fun h0 => by omega, fun _ => ?_⟩
  have e0 : w.extract 0 0 ++ atomW 1 = atomW 1 := by apply ByteArray.ext; apply Array.ext'; simp
  have e1 : (w.extract 0 0).size = 0 := by simp [ByteArray.size_extract]
  have e2 : (w.size : Int).toNat = w.size := by omega
  rw [e0, e1, e2, hD]
  refine ⟨inR_of (by omega) (by omega), by omega, by omega, inR_of (by omega) (by omega), inR_of (by omega) (by omega), ⟨by omega, by omega⟩, ?_, rfl⟩
  rw [ByteArray.size_extract]; omega
theorem q_wd : PCalls Try.prog 66 [.lst .ro 1 [.int .u16 1]] (.str (atomW 1)) := by
  have := p_wof [1] (by decide) (by decide)
  rw [atomBytes_one] at this
  exact this
def delegE (c : Crt) : Bool := decide (2 ≤ c.speaker.size / 2) && (decide ((ofE [c.speaker, toldW c.speaker]).2 = 0) && (withinE c.words (ofE [c.speaker, toldW c.speaker]).1 && withinE (ofE [c.speaker, toldW c.speaker]).1 c.words))
theorem told_size {w : ByteArray} (h : 2 ≤ w.size) : (toldW w).size = w.size := by
  unfold toldW
  rw [ByteArray.size_append, ByteArray.size_extract]
  have hD : (atomW 1).size = 2 := rfl
  omega
set_option maxRecDepth 100000 in
theorem p_deleg (c : Crt) (hm : wordMay c.speaker = true) (hs : setMay c.words = true) : PCalls Try.prog 64 [vC c] (.bool (delegE c)) := by
  have hsz := wordMay_even hm
  have hsm := smallS_nrm hs
  refine pcalls_of (by simp [free.frees, free_vC]) rfl (acalls_of mixed J_cert_delegate_ok (Nat.le_of_ble_eq_true rfl) ?_); simp only [J_cert_delegate, vC, cC, wk,if_true,if_false,forall_const,implies_true,ne_eq,eq_self,Nat.reduceEqDiff,Nat.reduceAdd,Nat.reduceMul,Nat.reduceSub,Nat.reduceLeDiff,Nat.reduceLT,Int.reduceEq,Int.reduceLT,Int.reduceLE,Int.reduceAdd,Int.reduceSub,Int.reduceMul,Int.reduceNeg,Int.reduceNe,reduceCtorEq,Int.reduceToNat,↓reduceIte]
  refine PCalls.use (p_wlen c.speaker (by omega)) ?_; simp only [wk,if_true,if_false,forall_const,implies_true,ne_eq,eq_self,Nat.reduceEqDiff,Nat.reduceAdd,Nat.reduceMul,Nat.reduceSub,Nat.reduceLeDiff,Nat.reduceLT,Int.reduceEq,Int.reduceLT,Int.reduceLE,Int.reduceAdd,Int.reduceSub,Int.reduceMul,Int.reduceNeg,Int.reduceNe,reduceCtorEq,Int.reduceToNat,↓reduceIte]
  refine ⟨fun h2 => bool_eq (by unfold delegE; rw [decide_eq_false (by omega)]; rfl), fun h2 => ?_⟩
  have hd : decide (2 ≤ c.speaker.size / 2) = true := decide_eq_true (by omega)
  refine ⟨_, q_wd, _, p_swap c.speaker hsz.1 hsz.2 (by omega), ?_⟩
  simp only [wk,if_true,if_false,forall_const,implies_true,ne_eq,eq_self,Nat.reduceEqDiff,Nat.reduceAdd,Nat.reduceMul,Nat.reduceSub,Nat.reduceLeDiff,Nat.reduceLT,Int.reduceEq,Int.reduceLT,Int.reduceLE,Int.reduceAdd,Int.reduceSub,Int.reduceMul,Int.reduceNeg,Int.reduceNe,reduceCtorEq,Int.reduceToNat,↓reduceIte]
  have hts := told_size (w := c.speaker) (by omega)
  have ho := p_sof [c.speaker, toldW c.speaker] (by simp) (by intro x hx; simp at hx; rcases hx with rfl | rfl <;> omega)
  refine PCalls.use ho ?_
  simp only [vSet, wk,if_true,if_false,forall_const,implies_true,ne_eq,eq_self,Nat.reduceEqDiff,Nat.reduceAdd,Nat.reduceMul,Nat.reduceSub,Nat.reduceLeDiff,Nat.reduceLT,Int.reduceEq,Int.reduceLT,Int.reduceLE,Int.reduceAdd,Int.reduceSub,Int.reduceMul,Int.reduceNeg,Int.reduceNe,reduceCtorEq,Int.reduceToNat,↓reduceIte]
  have hos := ofE_small [c.speaker, toldW c.speaker]
  refine ⟨fun h0 => ?_, fun h0 => bool_eq (by unfold delegE; rw [hd, decide_eq_false h0]; rfl)⟩
  have hg : setMay (ofE [c.speaker, toldW c.speaker]).1 = true := by
    have e := ofE_ok h0
    have := ofE_good e
    rw [e]; exact this
  refine PCalls.use (p_same c.words (ofE [c.speaker, toldW c.speaker]).1 (by omega) (by omega) hsm.2.2 (smallS_nrm hg).2.2) ?_; simp only [wk,if_true,if_false,forall_const,implies_true,ne_eq,eq_self,Nat.reduceEqDiff,Nat.reduceAdd,Nat.reduceMul,Nat.reduceSub,Nat.reduceLeDiff,Nat.reduceLT,Int.reduceEq,Int.reduceLT,Int.reduceLE,Int.reduceAdd,Int.reduceSub,Int.reduceMul,Int.reduceNeg,Int.reduceNe,reduceCtorEq,Int.reduceToNat,↓reduceIte]
  exact bool_eq (by unfold delegE; rw [hd, decide_eq_true h0]; rfl)
end Go.Proofs.Ytpjlkefadnbgdaa

/- cert.like. -/
namespace Go.Proofs.Ytpjlkefadnbgdaa
set_option linter.unusedSimpArgs false
set_option linter.unusedVariables false
open Go.RowKit Go.Lib

def kindAt (w : ByteArray) (i : Nat) : Int := ((atomAt w i / 8192 : Nat) : Int)
def aloneE (w : ByteArray) (l : List Int) : Bool := decide (w.size / 2 = 1) && hasI l (kindAt w 0)
def likeOne (c : Crt) (w : ByteArray) : Bool :=
  if c.kind = 1 then aloneE c.speaker [1] && (decide (w.size / 2 = 2) && (hasI [3] (kindAt w 0) && hasI [5] (kindAt w 1)))
  else if c.kind = 2 then aloneE c.speaker [1] && decide (w = atomW c.signer)
  else if c.kind = 3 then aloneE c.speaker [2]
  else if c.kind = 4 then aloneE c.speaker [3] && aloneE w [4]
  else if c.kind = 5 then aloneE c.speaker [1, 2] && (decide (2 ≤ w.size / 2) && hasI [5] (kindAt w (w.size / 2 - 1)))
  else false
def likeE (c : Crt) : Bool :=
  if c.kind = 6 then true else if c.kind = 7 then delegE c else match c.words with
    | [w] => likeOne c w
    | _ => false
set_option maxRecDepth 100000 in
set_option maxHeartbeats 2000000 in
theorem p_like (c : Crt) (hm : wordMay c.speaker = true) (hs : setMay c.words = true) (hg : c.signer < 65536) : PCalls Try.prog 61 [vC c] (.bool (likeE c)) := by
  have hsz := wordMay_even hm
  have hsm := setMay_small hs
  refine pcalls_of (by simp [free.frees, free_vC]) rfl (acalls_of mixed J_cert_like_ok (Nat.le_of_ble_eq_true rfl) ?_); simp only [J_cert_like, vC, cC, wk,if_true,if_false,forall_const,implies_true,ne_eq,eq_self,Nat.reduceEqDiff,Nat.reduceAdd,Nat.reduceMul,Nat.reduceSub,Nat.reduceLeDiff,Nat.reduceLT,Int.reduceEq,Int.reduceLT,Int.reduceLE,Int.reduceAdd,Int.reduceSub,Int.reduceMul,Int.reduceNeg,Int.reduceNe,reduceCtorEq,Int.reduceToNat,↓reduceIte]
  refine ⟨fun h6 => bool_eq (by simp [likeE, h6]), fun h6 => ⟨fun h7 => ?_, fun h7 => ⟨fun h1 => bool_eq ?_, fun h1 => ⟨by omega, ?_⟩⟩⟩⟩
  · have hp := p_deleg c hm hs
    unfold vC cC at hp
    refine PCalls.use (hp) ?_; simp only [wk,if_true,if_false,forall_const,implies_true,ne_eq,eq_self,Nat.reduceEqDiff,Nat.reduceAdd,Nat.reduceMul,Nat.reduceSub,Nat.reduceLeDiff,Nat.reduceLT,Int.reduceEq,Int.reduceLT,Int.reduceLE,Int.reduceAdd,Int.reduceSub,Int.reduceMul,Int.reduceNeg,Int.reduceNe,reduceCtorEq,Int.reduceToNat,↓reduceIte]
    exact bool_eq (by unfold likeE; rw [if_neg h6, if_pos h7])
  · unfold likeE
    rw [if_neg h6, if_neg h7]
    split
    · next w e => rw [e] at h1; exact absurd rfl h1
    · rfl
  obtain ⟨w, hw⟩ : ∃ w, c.words = [w] := by
    cases e : c.words with
    | nil => rw [e] at h1; cases h1
    | cons w l =>
      cases l with
      | nil => exact ⟨w, rfl⟩
      | cons x l => rw [e] at h1; simp at h1; omega
  have hL : likeE c = likeOne c w := by unfold likeE; rw [if_neg h6, if_neg h7, hw]
  have hwz : w.size ≤ 16 := hsm.2 w (by rw [hw]; simp)
  have hmw := (setMay_words hs).2 w (by rw [hw]; simp)
  rw [hL]
  simp only [hw, List.map_cons, List.map_nil, wk,if_true,if_false,forall_const,implies_true,ne_eq,eq_self,Nat.reduceEqDiff,Nat.reduceAdd,Nat.reduceMul,Nat.reduceSub,Nat.reduceLeDiff,Nat.reduceLT,Int.reduceEq,Int.reduceLT,Int.reduceLE,Int.reduceAdd,Int.reduceSub,Int.reduceMul,Int.reduceNeg,Int.reduceNe,reduceCtorEq,Int.reduceToNat,↓reduceIte]
  refine PCalls.use (p_wlen w (by omega)) ?_; simp only [wk,if_true,if_false,forall_const,implies_true,ne_eq,eq_self,Nat.reduceEqDiff,Nat.reduceAdd,Nat.reduceMul,Nat.reduceSub,Nat.reduceLeDiff,Nat.reduceLT,Int.reduceEq,Int.reduceLT,Int.reduceLE,Int.reduceAdd,Int.reduceSub,Int.reduceMul,Int.reduceNeg,Int.reduceNe,reduceCtorEq,Int.reduceToNat,↓reduceIte]
  have qa : ∀ (s : ByteArray) (l : List Int), s.size ≤ 16 → l.length ≤ 2 → PCalls Try.prog 65 [.str s, .lst .ro l.length (l.map (.int .i64))] (.bool (aloneE s l)) := fun s l hz hl => p_alone s l (by omega) (by omega)
  have qo : ∀ (i : Nat) (l : List Int), l.length ≤ 2 → PCalls Try.prog 59 [.int .u16 (atomAt w i), .lst .ro l.length (l.map (.int .i64))] (.bool (hasI l (kindAt w i))) := fun i l hl => p_isOf (atomAt w i) l (atomAt_lt w i) (by omega)
  refine ⟨fun k1 => ?_, fun k1 => ⟨fun k2 => ?_, fun k2 => ⟨fun k3 => ?_, fun k3 => ⟨fun k4 => ?_, fun k4 => ⟨fun k5 => ?_, fun k5 => bool_eq ?_⟩⟩⟩⟩⟩
  · have e : likeOne c w = (aloneE c.speaker [1] && (decide (w.size / 2 = 2) && (hasI [3] (kindAt w 0) && hasI [5] (kindAt w 1)))) := by unfold likeOne; rw [if_pos k1]
    rw [e]
    refine PCalls.use (qa c.speaker [1] hsz.2 (by simp)) ?_; simp only [wk,if_true,if_false,forall_const,implies_true,ne_eq,eq_self,Nat.reduceEqDiff,Nat.reduceAdd,Nat.reduceMul,Nat.reduceSub,Nat.reduceLeDiff,Nat.reduceLT,Int.reduceEq,Int.reduceLT,Int.reduceLE,Int.reduceAdd,Int.reduceSub,Int.reduceMul,Int.reduceNeg,Int.reduceNe,reduceCtorEq,Int.reduceToNat,↓reduceIte]
    cases ha : aloneE c.speaker [1] with
    | false => simp only [wk,if_true,if_false,forall_const,implies_true,ne_eq,eq_self,Nat.reduceEqDiff,Nat.reduceAdd,Nat.reduceMul,Nat.reduceSub,Nat.reduceLeDiff,Nat.reduceLT,Int.reduceEq,Int.reduceLT,Int.reduceLE,Int.reduceAdd,Int.reduceSub,Int.reduceMul,Int.reduceNeg,Int.reduceNe,reduceCtorEq,Int.reduceToNat,↓reduceIte]; rfl
    | true =>
      simp only [wk,if_true,if_false,forall_const,implies_true,ne_eq,eq_self,Nat.reduceEqDiff,Nat.reduceAdd,Nat.reduceMul,Nat.reduceSub,Nat.reduceLeDiff,Nat.reduceLT,Int.reduceEq,Int.reduceLT,Int.reduceLE,Int.reduceAdd,Int.reduceSub,Int.reduceMul,Int.reduceNeg,Int.reduceNe,reduceCtorEq,Int.reduceToNat,↓reduceIte]
      refine ⟨fun h2 => ?_, fun h2 => bool_eq (by rw [decide_eq_false (by omega)]; rfl)⟩
      refine PCalls.use (p_wat w 0 (by omega) (by omega)) ?_; simp only [wk,if_true,if_false,forall_const,implies_true,ne_eq,eq_self,Nat.reduceEqDiff,Nat.reduceAdd,Nat.reduceMul,Nat.reduceSub,Nat.reduceLeDiff,Nat.reduceLT,Int.reduceEq,Int.reduceLT,Int.reduceLE,Int.reduceAdd,Int.reduceSub,Int.reduceMul,Int.reduceNeg,Int.reduceNe,reduceCtorEq,Int.reduceToNat,↓reduceIte]
      refine PCalls.use (qo 0 [3] (by simp)) ?_; simp only [wk,if_true,if_false,forall_const,implies_true,ne_eq,eq_self,Nat.reduceEqDiff,Nat.reduceAdd,Nat.reduceMul,Nat.reduceSub,Nat.reduceLeDiff,Nat.reduceLT,Int.reduceEq,Int.reduceLT,Int.reduceLE,Int.reduceAdd,Int.reduceSub,Int.reduceMul,Int.reduceNeg,Int.reduceNe,reduceCtorEq,Int.reduceToNat,↓reduceIte]
      rw [decide_eq_true (show w.size / 2 = 2 by omega)]
      cases h3 : hasI [3] (kindAt w 0) with
      | false => simp only [wk,if_true,if_false,forall_const,implies_true,ne_eq,eq_self,Nat.reduceEqDiff,Nat.reduceAdd,Nat.reduceMul,Nat.reduceSub,Nat.reduceLeDiff,Nat.reduceLT,Int.reduceEq,Int.reduceLT,Int.reduceLE,Int.reduceAdd,Int.reduceSub,Int.reduceMul,Int.reduceNeg,Int.reduceNe,reduceCtorEq,Int.reduceToNat,↓reduceIte]; rfl
      | true =>
        simp only [wk,if_true,if_false,forall_const,implies_true,ne_eq,eq_self,Nat.reduceEqDiff,Nat.reduceAdd,Nat.reduceMul,Nat.reduceSub,Nat.reduceLeDiff,Nat.reduceLT,Int.reduceEq,Int.reduceLT,Int.reduceLE,Int.reduceAdd,Int.reduceSub,Int.reduceMul,Int.reduceNeg,Int.reduceNe,reduceCtorEq,Int.reduceToNat,↓reduceIte]
        refine PCalls.use (p_wat w 1 (by omega) (by omega)) ?_; simp only [wk,if_true,if_false,forall_const,implies_true,ne_eq,eq_self,Nat.reduceEqDiff,Nat.reduceAdd,Nat.reduceMul,Nat.reduceSub,Nat.reduceLeDiff,Nat.reduceLT,Int.reduceEq,Int.reduceLT,Int.reduceLE,Int.reduceAdd,Int.reduceSub,Int.reduceMul,Int.reduceNeg,Int.reduceNe,reduceCtorEq,Int.reduceToNat,↓reduceIte]
        refine PCalls.use (qo 1 [5] (by simp)) ?_; simp only [wk,if_true,if_false,forall_const,implies_true,ne_eq,eq_self,Nat.reduceEqDiff,Nat.reduceAdd,Nat.reduceMul,Nat.reduceSub,Nat.reduceLeDiff,Nat.reduceLT,Int.reduceEq,Int.reduceLT,Int.reduceLE,Int.reduceAdd,Int.reduceSub,Int.reduceMul,Int.reduceNeg,Int.reduceNe,reduceCtorEq,Int.reduceToNat,↓reduceIte]
        rfl
  · have e : likeOne c w = (aloneE c.speaker [1] && decide (w = atomW c.signer)) := by unfold likeOne; rw [if_neg k1, if_pos k2]
    rw [e]
    refine PCalls.use (qa c.speaker [1] hsz.2 (by simp)) ?_; simp only [wk,if_true,if_false,forall_const,implies_true,ne_eq,eq_self,Nat.reduceEqDiff,Nat.reduceAdd,Nat.reduceMul,Nat.reduceSub,Nat.reduceLeDiff,Nat.reduceLT,Int.reduceEq,Int.reduceLT,Int.reduceLE,Int.reduceAdd,Int.reduceSub,Int.reduceMul,Int.reduceNeg,Int.reduceNe,reduceCtorEq,Int.reduceToNat,↓reduceIte]
    cases ha : aloneE c.speaker [1] with
    | false => simp only [wk,if_true,if_false,forall_const,implies_true,ne_eq,eq_self,Nat.reduceEqDiff,Nat.reduceAdd,Nat.reduceMul,Nat.reduceSub,Nat.reduceLeDiff,Nat.reduceLT,Int.reduceEq,Int.reduceLT,Int.reduceLE,Int.reduceAdd,Int.reduceSub,Int.reduceMul,Int.reduceNeg,Int.reduceNe,reduceCtorEq,Int.reduceToNat,↓reduceIte]; rfl
    | true =>
      simp only [wk,if_true,if_false,forall_const,implies_true,ne_eq,eq_self,Nat.reduceEqDiff,Nat.reduceAdd,Nat.reduceMul,Nat.reduceSub,Nat.reduceLeDiff,Nat.reduceLT,Int.reduceEq,Int.reduceLT,Int.reduceLE,Int.reduceAdd,Int.reduceSub,Int.reduceMul,Int.reduceNeg,Int.reduceNe,reduceCtorEq,Int.reduceToNat,↓reduceIte]
      refine PCalls.use (p_wof [c.signer] (by simp) (by simpa using hg)) ?_; simp only [wk,if_true,if_false,forall_const,implies_true,ne_eq,eq_self,Nat.reduceEqDiff,Nat.reduceAdd,Nat.reduceMul,Nat.reduceSub,Nat.reduceLeDiff,Nat.reduceLT,Int.reduceEq,Int.reduceLT,Int.reduceLE,Int.reduceAdd,Int.reduceSub,Int.reduceMul,Int.reduceNeg,Int.reduceNe,reduceCtorEq,Int.reduceToNat,↓reduceIte]
      rw [atomBytes_one]
      rfl
  · have e : likeOne c w = aloneE c.speaker [2] := by unfold likeOne; rw [if_neg k1, if_neg k2, if_pos k3]
    rw [e]
    refine PCalls.use (qa c.speaker [2] hsz.2 (by simp)) ?_; simp only [wk,if_true,if_false,forall_const,implies_true,ne_eq,eq_self,Nat.reduceEqDiff,Nat.reduceAdd,Nat.reduceMul,Nat.reduceSub,Nat.reduceLeDiff,Nat.reduceLT,Int.reduceEq,Int.reduceLT,Int.reduceLE,Int.reduceAdd,Int.reduceSub,Int.reduceMul,Int.reduceNeg,Int.reduceNe,reduceCtorEq,Int.reduceToNat,↓reduceIte]
  · have e : likeOne c w = (aloneE c.speaker [3] && aloneE w [4]) := by unfold likeOne; rw [if_neg k1, if_neg k2, if_neg k3, if_pos k4]
    rw [e]
    refine PCalls.use (qa c.speaker [3] hsz.2 (by simp)) ?_; simp only [wk,if_true,if_false,forall_const,implies_true,ne_eq,eq_self,Nat.reduceEqDiff,Nat.reduceAdd,Nat.reduceMul,Nat.reduceSub,Nat.reduceLeDiff,Nat.reduceLT,Int.reduceEq,Int.reduceLT,Int.reduceLE,Int.reduceAdd,Int.reduceSub,Int.reduceMul,Int.reduceNeg,Int.reduceNe,reduceCtorEq,Int.reduceToNat,↓reduceIte]
    cases ha : aloneE c.speaker [3] with
    | false => simp only [wk,if_true,if_false,forall_const,implies_true,ne_eq,eq_self,Nat.reduceEqDiff,Nat.reduceAdd,Nat.reduceMul,Nat.reduceSub,Nat.reduceLeDiff,Nat.reduceLT,Int.reduceEq,Int.reduceLT,Int.reduceLE,Int.reduceAdd,Int.reduceSub,Int.reduceMul,Int.reduceNeg,Int.reduceNe,reduceCtorEq,Int.reduceToNat,↓reduceIte]; rfl
    | true =>
      simp only [wk,if_true,if_false,forall_const,implies_true,ne_eq,eq_self,Nat.reduceEqDiff,Nat.reduceAdd,Nat.reduceMul,Nat.reduceSub,Nat.reduceLeDiff,Nat.reduceLT,Int.reduceEq,Int.reduceLT,Int.reduceLE,Int.reduceAdd,Int.reduceSub,Int.reduceMul,Int.reduceNeg,Int.reduceNe,reduceCtorEq,Int.reduceToNat,↓reduceIte]
      refine PCalls.use (qa w [4] hwz (by simp)) ?_; simp only [wk,if_true,if_false,forall_const,implies_true,ne_eq,eq_self,Nat.reduceEqDiff,Nat.reduceAdd,Nat.reduceMul,Nat.reduceSub,Nat.reduceLeDiff,Nat.reduceLT,Int.reduceEq,Int.reduceLT,Int.reduceLE,Int.reduceAdd,Int.reduceSub,Int.reduceMul,Int.reduceNeg,Int.reduceNe,reduceCtorEq,Int.reduceToNat,↓reduceIte]
      rfl
  · have e : likeOne c w = (aloneE c.speaker [1, 2] && (decide (2 ≤ w.size / 2) && hasI [5] (kindAt w (w.size / 2 - 1)))) := by unfold likeOne; rw [if_neg k1, if_neg k2, if_neg k3, if_neg k4, if_pos k5]
    rw [e]
    refine PCalls.use (qa c.speaker [1, 2] hsz.2 (by simp)) ?_; simp only [wk,if_true,if_false,forall_const,implies_true,ne_eq,eq_self,Nat.reduceEqDiff,Nat.reduceAdd,Nat.reduceMul,Nat.reduceSub,Nat.reduceLeDiff,Nat.reduceLT,Int.reduceEq,Int.reduceLT,Int.reduceLE,Int.reduceAdd,Int.reduceSub,Int.reduceMul,Int.reduceNeg,Int.reduceNe,reduceCtorEq,Int.reduceToNat,↓reduceIte]
    cases ha : aloneE c.speaker [1, 2] with
    | false => simp only [wk,if_true,if_false,forall_const,implies_true,ne_eq,eq_self,Nat.reduceEqDiff,Nat.reduceAdd,Nat.reduceMul,Nat.reduceSub,Nat.reduceLeDiff,Nat.reduceLT,Int.reduceEq,Int.reduceLT,Int.reduceLE,Int.reduceAdd,Int.reduceSub,Int.reduceMul,Int.reduceNeg,Int.reduceNe,reduceCtorEq,Int.reduceToNat,↓reduceIte]; rfl
    | true =>
      simp only [wk,if_true,if_false,forall_const,implies_true,ne_eq,eq_self,Nat.reduceEqDiff,Nat.reduceAdd,Nat.reduceMul,Nat.reduceSub,Nat.reduceLeDiff,Nat.reduceLT,Int.reduceEq,Int.reduceLT,Int.reduceLE,Int.reduceAdd,Int.reduceSub,Int.reduceMul,Int.reduceNeg,Int.reduceNe,reduceCtorEq,Int.reduceToNat,↓reduceIte]
      refine ⟨fun h2 => ?_, fun h2 => bool_eq (by rw [decide_eq_false (by omega)]; rfl)⟩
      refine ⟨inR_of (by omega) (by omega), ?_⟩
      rw [show ((w.size / 2 : Nat) : Int) - 1 = ((w.size / 2 - 1 : Nat) : Int) by omega]
      refine PCalls.use (p_wat w (w.size / 2 - 1) (by omega) (by omega)) ?_; simp only [wk,if_true,if_false,forall_const,implies_true,ne_eq,eq_self,Nat.reduceEqDiff,Nat.reduceAdd,Nat.reduceMul,Nat.reduceSub,Nat.reduceLeDiff,Nat.reduceLT,Int.reduceEq,Int.reduceLT,Int.reduceLE,Int.reduceAdd,Int.reduceSub,Int.reduceMul,Int.reduceNeg,Int.reduceNe,reduceCtorEq,Int.reduceToNat,↓reduceIte]
      refine PCalls.use (qo (w.size / 2 - 1) [5] (by simp)) ?_; simp only [wk,if_true,if_false,forall_const,implies_true,ne_eq,eq_self,Nat.reduceEqDiff,Nat.reduceAdd,Nat.reduceMul,Nat.reduceSub,Nat.reduceLeDiff,Nat.reduceLT,Int.reduceEq,Int.reduceLT,Int.reduceLE,Int.reduceAdd,Int.reduceSub,Int.reduceMul,Int.reduceNeg,Int.reduceNe,reduceCtorEq,Int.reduceToNat,↓reduceIte]
      rw [decide_eq_true (show 2 ≤ w.size / 2 by omega)]
      rfl
  · unfold likeOne; rw [if_neg k1, if_neg k2, if_neg k3, if_neg k4, if_neg k5]
end Go.Proofs.Ytpjlkefadnbgdaa

/- cert.Check. -/
namespace Go.Proofs.Ytpjlkefadnbgdaa
set_option linter.unusedSimpArgs false
set_option linter.unusedVariables false
open Go.RowKit Go.Lib

def checkE (c : Crt) : Int :=
  if c.kind < 1 ∨ 7 < c.kind then 1
  else if hasI [1] ((c.signer / 8192 : Nat) : Int) = true ∧ wordMay c.speaker = true ∧ setMay c.words = true ∧ numL [c.since, c.till, c.serial] = true then
    (if c.till < c.since then 5 else if c.words.any (fun w => decide (w.size / 2 < c.speaker.size / 2)) = true then 4 else if likeE c = true then 0 else 13)
  else 2
def smallC (c : Crt) : Prop := c.signer < 65536 ∧ c.speaker.size ≤ 1000000 ∧ c.words.length ≤ 10000 ∧ ∀ x ∈ c.words, x.size ≤ 1000000
set_option maxRecDepth 100000 in
set_option maxHeartbeats 2000000 in
theorem p_check (c : Crt) (h : smallC c) : PCalls Try.prog 45 [vC c] (.int .i64 (checkE c)) := by
  obtain ⟨hg, hz, hl, hx⟩ := h
  refine pcalls_of (by simp [free.frees, free_vC]) rfl (acalls_of mixed J_cert_Check_ok (Nat.le_of_ble_eq_true rfl) ?_); simp only [J_cert_Check, vC, cC, wk,if_true,if_false,forall_const,implies_true,ne_eq,eq_self,Nat.reduceEqDiff,Nat.reduceAdd,Nat.reduceMul,Nat.reduceSub,Nat.reduceLeDiff,Nat.reduceLT,Int.reduceEq,Int.reduceLT,Int.reduceLE,Int.reduceAdd,Int.reduceSub,Int.reduceMul,Int.reduceNeg,Int.reduceNe,reduceCtorEq,Int.reduceToNat,↓reduceIte]
  have e1 : c.kind < 1 ∨ 7 < c.kind → AV.int .i64 1 = .int .i64 (checkE c) := fun h => int_eq (by unfold checkE; rw [if_pos h])
  have e2 : ¬ (c.kind < 1 ∨ 7 < c.kind) → ¬ (hasI [1] ((c.signer / 8192 : Nat) : Int) = true ∧ wordMay c.speaker = true ∧ setMay c.words = true ∧ numL [c.since, c.till, c.serial] = true) → AV.int .i64 2 = .int .i64 (checkE c) := fun h h' => int_eq (by unfold checkE; rw [if_neg h, if_neg h'])
  refine ⟨fun k1 => ⟨fun k2 => e1 (.inr k2), fun k2 => ?_⟩, fun k1 => e1 (.inl k1)⟩
  have hk : ¬ (c.kind < 1 ∨ 7 < c.kind) := by omega
  refine PCalls.use (p_isOf c.signer [1] hg (by simp)) ?_; simp only [wk,if_true,if_false,forall_const,implies_true,ne_eq,eq_self,Nat.reduceEqDiff,Nat.reduceAdd,Nat.reduceMul,Nat.reduceSub,Nat.reduceLeDiff,Nat.reduceLT,Int.reduceEq,Int.reduceLT,Int.reduceLE,Int.reduceAdd,Int.reduceSub,Int.reduceMul,Int.reduceNeg,Int.reduceNe,reduceCtorEq,Int.reduceToNat,↓reduceIte]
  refine ⟨fun a1 => ?_, fun a1 => e2 hk (fun h => by rw [a1] at h; exact absurd h.1 (by simp))⟩
  refine PCalls.use (p_wmay c.speaker (by omega)) ?_; simp only [wk,if_true,if_false,forall_const,implies_true,ne_eq,eq_self,Nat.reduceEqDiff,Nat.reduceAdd,Nat.reduceMul,Nat.reduceSub,Nat.reduceLeDiff,Nat.reduceLT,Int.reduceEq,Int.reduceLT,Int.reduceLE,Int.reduceAdd,Int.reduceSub,Int.reduceMul,Int.reduceNeg,Int.reduceNe,reduceCtorEq,Int.reduceToNat,↓reduceIte]
  refine ⟨fun a2 => ?_, fun a2 => e2 hk (fun h => by rw [a2] at h; exact absurd h.2.1 (by simp))⟩
  refine PCalls.use (p_smay c.words (by omega) (fun x q => by have := hx x q; omega)) ?_; simp only [wk,if_true,if_false,forall_const,implies_true,ne_eq,eq_self,Nat.reduceEqDiff,Nat.reduceAdd,Nat.reduceMul,Nat.reduceSub,Nat.reduceLeDiff,Nat.reduceLT,Int.reduceEq,Int.reduceLT,Int.reduceLE,Int.reduceAdd,Int.reduceSub,Int.reduceMul,Int.reduceNeg,Int.reduceNe,reduceCtorEq,Int.reduceToNat,↓reduceIte]
  refine ⟨fun a3 => ?_, fun a3 => e2 hk (fun h => by rw [a3] at h; exact absurd h.2.2.1 (by simp))⟩
  refine PCalls.use (p_cnum [c.since, c.till, c.serial] (by simp)) ?_; simp only [wk,if_true,if_false,forall_const,implies_true,ne_eq,eq_self,Nat.reduceEqDiff,Nat.reduceAdd,Nat.reduceMul,Nat.reduceSub,Nat.reduceLeDiff,Nat.reduceLT,Int.reduceEq,Int.reduceLT,Int.reduceLE,Int.reduceAdd,Int.reduceSub,Int.reduceMul,Int.reduceNeg,Int.reduceNe,reduceCtorEq,Int.reduceToNat,↓reduceIte]
  refine ⟨fun a4 => e2 hk (fun h => by rw [a4] at h; exact absurd h.2.2.2 (by simp)), fun a4 => ?_⟩
  have e3 : checkE c = (if c.till < c.since then 5 else if c.words.any (fun w => decide (w.size / 2 < c.speaker.size / 2)) = true then 4 else if likeE c = true then 0 else 13) := by
    unfold checkE; rw [if_neg hk, if_pos ⟨a1, a2, a3, a4⟩]
  refine ⟨fun a5 => int_eq (by rw [e3, if_pos a5]), fun a5 => ?_⟩
  rw [if_neg a5] at e3
  refine W_loop (fun n fr h => ∃ i : Nat, i ≤ c.words.length ∧ n = c.words.length - i ∧ h = [some (false, cC c)] ∧ fr = [(1, .ptr 0 0), (47, .lst .ro c.words.length (c.words.map .str)), (48, .int .i64 c.words.length), (49, .int .i64 i)] ∧ ∀ w ∈ c.words.take i, ¬ w.size / 2 < c.speaker.size / 2) c.words.length ⟨0, by omega, by omega, rfl, rfl, by simp⟩ ?_
  rintro n fr h ⟨i, hi, rfl, rfl, rfl, hall⟩
  simp only [J_cert_Check_j2, cC, wk,if_true,if_false,forall_const,implies_true,ne_eq,eq_self,Nat.reduceEqDiff,Nat.reduceAdd,Nat.reduceMul,Nat.reduceSub,Nat.reduceLeDiff,Nat.reduceLT,Int.reduceEq,Int.reduceLT,Int.reduceLE,Int.reduceAdd,Int.reduceSub,Int.reduceMul,Int.reduceNeg,Int.reduceNe,reduceCtorEq,Int.reduceToNat,↓reduceIte]
  refine ⟨fun hlt => ?_, fun hge => ?_⟩
  · have hil : i < c.words.length := by omega
    have hd : (c.words.map AV.str).drop (i : Int).toNat = .str c.words[i] :: (c.words.map AV.str).drop (i + 1) := by rw [show (i : Int).toNat = i by omega, drop_str hil]
    have z := hx _ (List.getElem_mem hil)
    refine ⟨⟨by omega, by omega⟩, ?_⟩
    simp only [hd, wk,if_true,if_false,forall_const,implies_true,ne_eq,eq_self,Nat.reduceEqDiff,Nat.reduceAdd,Nat.reduceMul,Nat.reduceSub,Nat.reduceLeDiff,Nat.reduceLT,Int.reduceEq,Int.reduceLT,Int.reduceLE,Int.reduceAdd,Int.reduceSub,Int.reduceMul,Int.reduceNeg,Int.reduceNe,reduceCtorEq,Int.reduceToNat,↓reduceIte]
    refine PCalls.use (p_wlen c.speaker (by omega)) ?_; simp only [wk,if_true,if_false,forall_const,implies_true,ne_eq,eq_self,Nat.reduceEqDiff,Nat.reduceAdd,Nat.reduceMul,Nat.reduceSub,Nat.reduceLeDiff,Nat.reduceLT,Int.reduceEq,Int.reduceLT,Int.reduceLE,Int.reduceAdd,Int.reduceSub,Int.reduceMul,Int.reduceNeg,Int.reduceNe,reduceCtorEq,Int.reduceToNat,↓reduceIte]
    refine PCalls.use (p_wlen c.words[i] (by omega)) ?_; simp only [wk,if_true,if_false,forall_const,implies_true,ne_eq,eq_self,Nat.reduceEqDiff,Nat.reduceAdd,Nat.reduceMul,Nat.reduceSub,Nat.reduceLeDiff,Nat.reduceLT,Int.reduceEq,Int.reduceLT,Int.reduceLE,Int.reduceAdd,Int.reduceSub,Int.reduceMul,Int.reduceNeg,Int.reduceNe,reduceCtorEq,Int.reduceToNat,↓reduceIte]
    refine ⟨fun h4 => int_eq ?_, fun h4 => ⟨inR_of (by omega) (by omega), c.words.length - (i + 1), by omega, i + 1, by omega, rfl, rfl, fun w hw => ?_⟩⟩
    · rw [e3, if_pos]
      rw [List.any_eq_true]
      exact ⟨_, List.getElem_mem hil, by simp; omega⟩
    · rcases (take_mem_succ hil).1 hw with h | h
      · exact hall w h
      · subst h; omega
  · rw [List.take_of_length_le (by omega)] at hall
    have e4 : ¬ (c.words.any (fun w => decide (w.size / 2 < c.speaker.size / 2)) = true) := by
      rw [List.any_eq_true]
      rintro ⟨w, hw, h1⟩
      simp only [decide_eq_true_eq] at h1
      exact hall w hw h1
    rw [if_neg e4] at e3
    simp only [J_cert_Check_j1, wk,if_true,if_false,forall_const,implies_true,ne_eq,eq_self,Nat.reduceEqDiff,Nat.reduceAdd,Nat.reduceMul,Nat.reduceSub,Nat.reduceLeDiff,Nat.reduceLT,Int.reduceEq,Int.reduceLT,Int.reduceLE,Int.reduceAdd,Int.reduceSub,Int.reduceMul,Int.reduceNeg,Int.reduceNe,reduceCtorEq,Int.reduceToNat,↓reduceIte]
    have hp := p_like c a2 a3 hg
    unfold vC cC at hp
    refine PCalls.use (hp) ?_; simp only [wk,if_true,if_false,forall_const,implies_true,ne_eq,eq_self,Nat.reduceEqDiff,Nat.reduceAdd,Nat.reduceMul,Nat.reduceSub,Nat.reduceLeDiff,Nat.reduceLT,Int.reduceEq,Int.reduceLT,Int.reduceLE,Int.reduceAdd,Int.reduceSub,Int.reduceMul,Int.reduceNeg,Int.reduceNe,reduceCtorEq,Int.reduceToNat,↓reduceIte]
    refine ⟨fun h0 => int_eq ?_, fun h0 => int_eq ?_⟩
    · rw [e3, if_neg (by rw [h0]; simp)]
    · rw [e3, if_pos h0]
end Go.Proofs.Ytpjlkefadnbgdaa

/- The reference's like. -/
namespace Go.Proofs.Ytpjlkefadnbgdaa
set_option linter.unusedSimpArgs false
set_option linter.unusedVariables false
open Go.RowKit Go.Lib

theorem hasI_one {k x : Int} : hasI [k] x = decide (x = k) := by simp [hasI]
end Go.Proofs.Ytpjlkefadnbgdaa

/- The reference's Check. -/
namespace Go.Proofs.Ytpjlkefadnbgdaa
set_option linter.unusedSimpArgs false
set_option linter.unusedVariables false
open Go.RowKit Go.Lib

end Go.Proofs.Ytpjlkefadnbgdaa

/- Encode of certificates, over the abstract code. -/
namespace Go.Proofs.Ytpjlkefadnbgdaa
set_option linter.unusedSimpArgs false
set_option linter.unusedVariables false
open Go.RowKit Go.Lib

def encBytes (c : Crt) : List UInt8 := num c.kind.toNat ++ (num c.signer ++ (wordBytes c.speaker ++ (setBytes c.words ++ (num c.since.toNat ++ (num (c.till - c.since).toNat ++ num c.serial.toNat)))))
def encV (c : Crt) : AV := if checkE c = 0 then .tup [.str ⟨(encBytes c).toArray⟩, .int .i64 0] else .tup [.str ⟨#[]⟩, .int .i64 (checkE c)]
theorem free_encV (c : Crt) : free (encV c) = true := by unfold encV; split <;> rfl
structure Good (c : Crt) : Prop where
  kind : 1 ≤ c.kind ∧ c.kind ≤ 7
  signer : c.signer / 8192 = 1
  speaker : wordMay c.speaker = true
  words : setMay c.words = true
  since : 0 ≤ c.since ∧ c.since ≤ 4611686018427387904
  till : 0 ≤ c.till ∧ c.till ≤ 4611686018427387904
  serial : 0 ≤ c.serial ∧ c.serial ≤ 4611686018427387904
  order : c.since ≤ c.till
  short : ∀ w ∈ c.words, c.speaker.size / 2 ≤ w.size / 2
  like : likeE c = true
theorem good_of {c : Crt} (h : checkE c = 0) : Good c := by
  unfold checkE at h
  split at h
  · simp at h
  · next h1 =>
    split at h
    · next h2 =>
      obtain ⟨a1, a2, a3, a4⟩ := h2
      split at h
      · simp at h
      · next h3 =>
        split at h
        · simp at h
        · next h4 =>
          split at h
          · next h5 =>
            simp only [numL, List.all_cons, List.all_nil, Bool.and_true, Bool.and_eq_true, decide_eq_true_eq] at a4
            refine ⟨by omega, ?_, a2, a3, a4.1, a4.2.1, a4.2.2, by omega, fun w hw => ?_, h5⟩
            · rw [hasI_one] at a1
              simp only [decide_eq_true_eq] at a1
              omega
            · have h4' : ¬ c.words.any (fun w => decide (w.size / 2 < c.speaker.size / 2)) = true := h4
              rw [List.any_eq_true] at h4'
              apply Nat.le_of_not_lt
              intro hlt
              exact h4' ⟨w, hw, by simpa using hlt⟩
          · simp at h
    · simp at h
theorem okNum_of {z : Int} (h0 : 0 ≤ z) (h1 : z ≤ 4611686018427387904) : okNum z = true := by simp [okNum, h0, h1]
theorem wordMay_le {x : ByteArray} (h : wordMay x = true) : x.size ≤ 16 := by
  have := wordMay_size h; omega
set_option maxRecDepth 100000 in
set_option maxHeartbeats 2000000 in
theorem p_cenc (c : Crt) (h : smallC c) : PCalls Try.prog 51 [vC c] (encV c) := by
  refine pcalls_of (by simp [free.frees, free_vC]) (free_encV c) (acalls_of mixed J_cert_Encode_ok (Nat.le_of_ble_eq_true rfl) ?_); simp only [J_cert_Encode, vC, cC, wk,if_true,if_false,forall_const,implies_true,ne_eq,eq_self,Nat.reduceEqDiff,Nat.reduceAdd,Nat.reduceMul,Nat.reduceSub,Nat.reduceLeDiff,Nat.reduceLT,Int.reduceEq,Int.reduceLT,Int.reduceLE,Int.reduceAdd,Int.reduceSub,Int.reduceMul,Int.reduceNeg,Int.reduceNe,reduceCtorEq,Int.reduceToNat,↓reduceIte]
  refine PCalls.use (p_check c h) ?_; simp only [wk,if_true,if_false,forall_const,implies_true,ne_eq,eq_self,Nat.reduceEqDiff,Nat.reduceAdd,Nat.reduceMul,Nat.reduceSub,Nat.reduceLeDiff,Nat.reduceLT,Int.reduceEq,Int.reduceLT,Int.reduceLE,Int.reduceAdd,Int.reduceSub,Int.reduceMul,Int.reduceNeg,Int.reduceNe,reduceCtorEq,Int.reduceToNat,↓reduceIte]
  refine ⟨fun he => ?_, fun he => ?_⟩
  · unfold encV; rw [if_neg he]
  · have g := good_of he
    obtain ⟨w16, ws⟩ := setMay_small g.words
    have wl := wordMay_le g.speaker
    have ws' : ∀ x ∈ c.words, x.size ≤ 1000 := fun x hx => by have := ws x hx; omega
    have l1 : (num c.kind.toNat).length ≤ 9 := (num_len9 (by have := g.kind; omega)).2
    have l2 : (num c.signer).length ≤ 9 := (num_len9 (by have := h.1; omega)).2
    have l3 : (wordBytes c.speaker).length ≤ 17 := by simp [wordBytes]; omega
    have l4 : (setBytes c.words).length ≤ 1002000 := setBytes_len c.words (by omega) ws'
    have l5 : (num c.since.toNat).length ≤ 9 := (num_len9 (by have := g.since; omega)).2
    have l6 : (num (c.till - c.since).toNat).length ≤ 9 := (num_len9 (by have := g.since; have := g.till; omega)).2
    have hw : IntKind.i64.wrap (c.signer : Int) = c.signer := wrap_small (by omega) (by have := h.1; omega)
    have s1 := @wri_yes (num c.kind.toNat) []
    refine ACalls.use (a_onum (s := (false, [])) c.kind rfl (by simp)) ?_; rintro _ _ ⟨rfl, rfl⟩; simp only [wk,if_true,if_false,forall_const,implies_true,ne_eq,eq_self,Nat.reduceEqDiff,Nat.reduceAdd,Nat.reduceMul,Nat.reduceSub,Nat.reduceLeDiff,Nat.reduceLT,Int.reduceEq,Int.reduceLT,Int.reduceLE,Int.reduceAdd,Int.reduceSub,Int.reduceMul,Int.reduceNeg,Int.reduceNe,reduceCtorEq,Int.reduceToNat,↓reduceIte]
    rw [okNum_of (by have := g.kind; omega) (by have := g.kind; omega)]
    simp only [wri_yes, List.nil_append, hw, wk,if_true,if_false,forall_const,implies_true,ne_eq,eq_self,Nat.reduceEqDiff,Nat.reduceAdd,Nat.reduceMul,Nat.reduceSub,Nat.reduceLeDiff,Nat.reduceLT,Int.reduceEq,Int.reduceLT,Int.reduceLE,Int.reduceAdd,Int.reduceSub,Int.reduceMul,Int.reduceNeg,Int.reduceNe,reduceCtorEq,Int.reduceToNat,↓reduceIte]
    refine ACalls.use (a_onum (s := (false, num c.kind.toNat)) c.signer rfl (by simp; omega)) ?_; rintro _ _ ⟨rfl, rfl⟩; simp only [wk,if_true,if_false,forall_const,implies_true,ne_eq,eq_self,Nat.reduceEqDiff,Nat.reduceAdd,Nat.reduceMul,Nat.reduceSub,Nat.reduceLeDiff,Nat.reduceLT,Int.reduceEq,Int.reduceLT,Int.reduceLE,Int.reduceAdd,Int.reduceSub,Int.reduceMul,Int.reduceNeg,Int.reduceNe,reduceCtorEq,Int.reduceToNat,↓reduceIte]
    rw [okNum_of (by omega) (by have := h.1; omega)]
    simp only [wri_yes, Int.toNat_natCast, wk,if_true,if_false,forall_const,implies_true,ne_eq,eq_self,Nat.reduceEqDiff,Nat.reduceAdd,Nat.reduceMul,Nat.reduceSub,Nat.reduceLeDiff,Nat.reduceLT,Int.reduceEq,Int.reduceLT,Int.reduceLE,Int.reduceAdd,Int.reduceSub,Int.reduceMul,Int.reduceNeg,Int.reduceNe,reduceCtorEq,Int.reduceToNat,↓reduceIte]
    refine ACalls.use (a_oword (s := (false, num c.kind.toNat ++ num c.signer)) c.speaker rfl (by simp; omega) (by omega)) ?_; rintro _ _ ⟨rfl, rfl⟩; simp only [wk,if_true,if_false,forall_const,implies_true,ne_eq,eq_self,Nat.reduceEqDiff,Nat.reduceAdd,Nat.reduceMul,Nat.reduceSub,Nat.reduceLeDiff,Nat.reduceLT,Int.reduceEq,Int.reduceLT,Int.reduceLE,Int.reduceAdd,Int.reduceSub,Int.reduceMul,Int.reduceNeg,Int.reduceNe,reduceCtorEq,Int.reduceToNat,↓reduceIte]
    simp only [g.speaker, wri_yes, wk,if_true,if_false,forall_const,implies_true,ne_eq,eq_self,Nat.reduceEqDiff,Nat.reduceAdd,Nat.reduceMul,Nat.reduceSub,Nat.reduceLeDiff,Nat.reduceLT,Int.reduceEq,Int.reduceLT,Int.reduceLE,Int.reduceAdd,Int.reduceSub,Int.reduceMul,Int.reduceNeg,Int.reduceNe,reduceCtorEq,Int.reduceToNat,↓reduceIte]
    refine ACalls.use (a_oset (s := (false, num c.kind.toNat ++ num c.signer ++ wordBytes c.speaker)) c.words rfl (by simp; omega) (by omega) (fun x hx => by have := ws x hx; omega)) ?_; rintro _ _ ⟨rfl, rfl⟩; simp only [wk,if_true,if_false,forall_const,implies_true,ne_eq,eq_self,Nat.reduceEqDiff,Nat.reduceAdd,Nat.reduceMul,Nat.reduceSub,Nat.reduceLeDiff,Nat.reduceLT,Int.reduceEq,Int.reduceLT,Int.reduceLE,Int.reduceAdd,Int.reduceSub,Int.reduceMul,Int.reduceNeg,Int.reduceNe,reduceCtorEq,Int.reduceToNat,↓reduceIte]
    simp only [g.words, wri_yes, wk,if_true,if_false,forall_const,implies_true,ne_eq,eq_self,Nat.reduceEqDiff,Nat.reduceAdd,Nat.reduceMul,Nat.reduceSub,Nat.reduceLeDiff,Nat.reduceLT,Int.reduceEq,Int.reduceLT,Int.reduceLE,Int.reduceAdd,Int.reduceSub,Int.reduceMul,Int.reduceNeg,Int.reduceNe,reduceCtorEq,Int.reduceToNat,↓reduceIte]
    refine ACalls.use (a_onum (s := (false, num c.kind.toNat ++ num c.signer ++ wordBytes c.speaker ++ setBytes c.words)) c.since rfl (by simp; omega)) ?_; rintro _ _ ⟨rfl, rfl⟩; simp only [wk,if_true,if_false,forall_const,implies_true,ne_eq,eq_self,Nat.reduceEqDiff,Nat.reduceAdd,Nat.reduceMul,Nat.reduceSub,Nat.reduceLeDiff,Nat.reduceLT,Int.reduceEq,Int.reduceLT,Int.reduceLE,Int.reduceAdd,Int.reduceSub,Int.reduceMul,Int.reduceNeg,Int.reduceNe,reduceCtorEq,Int.reduceToNat,↓reduceIte]
    rw [okNum_of g.since.1 g.since.2]
    simp only [wri_yes, wk,if_true,if_false,forall_const,implies_true,ne_eq,eq_self,Nat.reduceEqDiff,Nat.reduceAdd,Nat.reduceMul,Nat.reduceSub,Nat.reduceLeDiff,Nat.reduceLT,Int.reduceEq,Int.reduceLT,Int.reduceLE,Int.reduceAdd,Int.reduceSub,Int.reduceMul,Int.reduceNeg,Int.reduceNe,reduceCtorEq,Int.reduceToNat,↓reduceIte]
    refine ⟨inR_of (by have := g.since; have := g.till; omega) (by have := g.since; have := g.till; omega), ?_⟩
    refine ACalls.use (a_onum (s := (false, num c.kind.toNat ++ num c.signer ++ wordBytes c.speaker ++ setBytes c.words ++ num c.since.toNat)) (c.till - c.since) rfl (by simp; omega)) ?_; rintro _ _ ⟨rfl, rfl⟩; simp only [wk,if_true,if_false,forall_const,implies_true,ne_eq,eq_self,Nat.reduceEqDiff,Nat.reduceAdd,Nat.reduceMul,Nat.reduceSub,Nat.reduceLeDiff,Nat.reduceLT,Int.reduceEq,Int.reduceLT,Int.reduceLE,Int.reduceAdd,Int.reduceSub,Int.reduceMul,Int.reduceNeg,Int.reduceNe,reduceCtorEq,Int.reduceToNat,↓reduceIte]
    rw [okNum_of (by have := g.order; omega) (by have := g.since; have := g.till; omega)]
    simp only [wri_yes, wk,if_true,if_false,forall_const,implies_true,ne_eq,eq_self,Nat.reduceEqDiff,Nat.reduceAdd,Nat.reduceMul,Nat.reduceSub,Nat.reduceLeDiff,Nat.reduceLT,Int.reduceEq,Int.reduceLT,Int.reduceLE,Int.reduceAdd,Int.reduceSub,Int.reduceMul,Int.reduceNeg,Int.reduceNe,reduceCtorEq,Int.reduceToNat,↓reduceIte]
    refine ACalls.use (a_onum (s := (false, num c.kind.toNat ++ num c.signer ++ wordBytes c.speaker ++ setBytes c.words ++ num c.since.toNat ++ num (c.till - c.since).toNat)) c.serial rfl (by simp; omega)) ?_; rintro _ _ ⟨rfl, rfl⟩; simp only [wk,if_true,if_false,forall_const,implies_true,ne_eq,eq_self,Nat.reduceEqDiff,Nat.reduceAdd,Nat.reduceMul,Nat.reduceSub,Nat.reduceLeDiff,Nat.reduceLT,Int.reduceEq,Int.reduceLT,Int.reduceLE,Int.reduceAdd,Int.reduceSub,Int.reduceMul,Int.reduceNeg,Int.reduceNe,reduceCtorEq,Int.reduceToNat,↓reduceIte]
    rw [okNum_of g.serial.1 g.serial.2]
    simp only [wri_yes, wk,if_true,if_false,forall_const,implies_true,ne_eq,eq_self,Nat.reduceEqDiff,Nat.reduceAdd,Nat.reduceMul,Nat.reduceSub,Nat.reduceLeDiff,Nat.reduceLT,Int.reduceEq,Int.reduceLT,Int.reduceLE,Int.reduceAdd,Int.reduceSub,Int.reduceMul,Int.reduceNeg,Int.reduceNe,reduceCtorEq,Int.reduceToNat,↓reduceIte]
    refine ACalls.use (a_odone (s := (false, num c.kind.toNat ++ num c.signer ++ wordBytes c.speaker ++ setBytes c.words ++ num c.since.toNat ++ num (c.till - c.since).toNat ++ num c.serial.toNat)) rfl) ?_; rintro _ _ ⟨rfl, rfl⟩; simp only [wk,if_true,if_false,forall_const,implies_true,ne_eq,eq_self,Nat.reduceEqDiff,Nat.reduceAdd,Nat.reduceMul,Nat.reduceSub,Nat.reduceLeDiff,Nat.reduceLT,Int.reduceEq,Int.reduceLT,Int.reduceLE,Int.reduceAdd,Int.reduceSub,Int.reduceMul,Int.reduceNeg,Int.reduceNe,reduceCtorEq,Int.reduceToNat,↓reduceIte]
    simp only [told, eI, wk,if_true,if_false,forall_const,implies_true,ne_eq,eq_self,Nat.reduceEqDiff,Nat.reduceAdd,Nat.reduceMul,Nat.reduceSub,Nat.reduceLeDiff,Nat.reduceLT,Int.reduceEq,Int.reduceLT,Int.reduceLE,Int.reduceAdd,Int.reduceSub,Int.reduceMul,Int.reduceNeg,Int.reduceNe,reduceCtorEq,Int.reduceToNat,↓reduceIte]
    unfold encV; rw [if_pos he]
    simp [encBytes, List.append_assoc]
end Go.Proofs.Ytpjlkefadnbgdaa

/- Decode of certificates: what is read. -/
namespace Go.Proofs.Ytpjlkefadnbgdaa
set_option linter.unusedSimpArgs false
set_option linter.unusedVariables false
open Go.RowKit Go.Lib

def decP (S : ByteArray) (m2 : Int) (m6 : Nat → Int) (tl : Nat → Nat → Int) : Option Crt :=
  match rNum S 7 0 with
  | none => none
  | some (k, p1) => match rNum S m2 p1 with
  | none => none
  | some (g, p2) => match rWord S p2 with
  | none => none
  | some (w, p3) => match rSet S p3 with
  | none => none
  | some (l, p4) => match rNum S 4611686018427387904 p4 with
  | none => none
  | some (f, p5) => match rNum S (m6 f) p5 with
  | none => none
  | some (d, p6) => match rNum S 4611686018427387904 p6 with
  | none => none
  | some (n, p7) => if p7 < S.size then none else if checkE ⟨k, g, w, l, f, tl f d, n⟩ = 0 then some ⟨k, g, w, l, f, tl f d, n⟩ else none
def decE (S : ByteArray) : Option Crt := decP S 49151 (fun f => 4611686018427387904 - f) (fun f d => f + d)
theorem decP_some {S : ByteArray} {m2 : Int} {m6 : Nat → Int} {tl : Nat → Nat → Int} {c : Crt} : decP S m2 m6 tl = some c ↔ ∃ k p1 g p2 w p3 l p4 f p5 d p6 n p7, rNum S 7 0 = some (k, p1) ∧ rNum S m2 p1 = some (g, p2) ∧ rWord S p2 = some (w, p3) ∧ rSet S p3 = some (l, p4) ∧ rNum S 4611686018427387904 p4 = some (f, p5) ∧
    rNum S (m6 f) p5 = some (d, p6) ∧ rNum S 4611686018427387904 p6 = some (n, p7) ∧ ¬ p7 < S.size ∧ checkE c = 0 ∧ c = ⟨k, g, w, l, f, tl f d, n⟩ := by
  constructor
  · intro h
    unfold decP at h
    split at h
    · cases h
    · next k p1 e1 =>
    split at h
    · cases h
    · next g p2 e2 =>
    split at h
    · cases h
    · next w p3 e3 =>
    split at h
    · cases h
    · next l p4 e4 =>
    split at h
    · cases h
    · next f p5 e5 =>
    split at h
    · cases h
    · next d p6 e6 =>
    split at h
    · cases h
    · next n p7 e7 =>
    split at h
    · cases h
    · next hp =>
    split at h
    · next hc =>
      simp only [Option.some.injEq] at h
      subst h
      exact ⟨k, p1, g, p2, w, p3, l, p4, f, p5, d, p6, n, p7, e1, e2, e3, e4, e5, e6, e7, hp, hc, rfl⟩
    · cases h
  · rintro ⟨k, p1, g, p2, w, p3, l, p4, f, p5, d, p6, n, p7, e1, e2, e3, e4, e5, e6, e7, hp, hc, rfl⟩
    simp only [decP, e1, e2, e3, e4, e5, e6, e7]
    rw [if_neg hp, if_pos hc]
def zeroC : Crt := ⟨0, 0, ⟨#[]⟩, [], 0, 0, 0⟩
def decV (r : Option Crt) : AV :=
  match r with
  | some c => .tup [vC c, .int .i64 0]
  | none => .tup [vC zeroC, .int .i64 2]
theorem free_decV (r : Option Crt) : free (decV r) = true := by cases r <;> simp [decV, free, free.frees, free_vC]
theorem dec_chain {S : ByteArray} {m2 : Int} {m6 : Nat → Int} {tl : Nat → Nat → Int} {r1 r2 r5 r6 r7 : Option (Nat × Nat)} {r3 : Option (ByteArray × Nat)} {r4 : Option (List ByteArray × Nat)} {q1 q2 q3 q4 q5 q6 q7 : Nat}
    (e1 : r1 = rN S 7 (false, 0)) (e2 : r2 = rN S m2 (stO r1 q1)) (e3 : r3 = rW S (stO r2 q2)) (e4 : r4 = rL S (stO r3 q3)) (e5 : r5 = rN S 4611686018427387904 (stO r4 q4))
    (e6 : r6 = rN S (m6 (nI r5)) (stO r5 q5)) (e7 : r7 = rN S 4611686018427387904 (stO r6 q6)) :
    ((stO r7 q7).1 = true → decP S m2 m6 tl = none) ∧ ((stO r7 q7).1 = false → (∃ p, r4 = some (nL r4, p)) ∧ decP S m2 m6 tl = if (stO r7 q7).2 < S.size then none else if checkE ⟨nI r1, nI r2, nS r3, nL r4, nI r5, tl (nI r5) (nI r6), nI r7⟩ = 0 then some ⟨nI r1, nI r2, nS r3, nL r4, nI r5, tl (nI r5) (nI r6), nI r7⟩ else none) := by
  have bad : ∀ {α : Type} (q : Nat), stO (none : Option (α × Nat)) q = (true, q) := fun _ => rfl
  have ok : ∀ {α : Type} (x : α) (p q : Nat), stO (some (x, p)) q = (false, p) := fun _ _ _ => rfl
  have b1 : ∀ m q, rN S m (true, q) = none := fun _ _ => rfl
  have b2 : ∀ q, rW S (true, q) = none := fun _ => rfl
  have b3 : ∀ q, rL S (true, q) = none := fun _ => rfl
  have g1 : ∀ m q, rN S m (false, q) = rNum S m q := fun _ _ => rfl
  have g2 : ∀ q, rW S (false, q) = rWord S q := fun _ => rfl
  have g3 : ∀ q, rL S (false, q) = rSet S q := fun _ => rfl
  rw [g1] at e1
  unfold decP
  rw [← e1]
  cases r1 with
  | none => subst e7 e6 e5 e4 e3 e2; simp [bad, b1, b2, b3]
  | some x1 =>
  obtain ⟨k, p1⟩ := x1
  rw [ok, g1] at e2
  simp only
  rw [← e2]
  cases r2 with
  | none => subst e7 e6 e5 e4 e3; simp [bad, b1, b2, b3]
  | some x2 =>
  obtain ⟨g, p2⟩ := x2
  rw [ok, g2] at e3
  simp only
  rw [← e3]
  cases r3 with
  | none => subst e7 e6 e5 e4; simp [bad, b1, b2, b3]
  | some x3 =>
  obtain ⟨w, p3⟩ := x3
  rw [ok, g3] at e4
  simp only
  rw [← e4]
  cases r4 with
  | none => subst e7 e6 e5; simp [bad, b1, b2, b3]
  | some x4 =>
  obtain ⟨l, p4⟩ := x4
  rw [ok, g1] at e5
  simp only
  rw [← e5]
  cases r5 with
  | none => subst e7 e6; simp [bad, b1, b2, b3]
  | some x5 =>
  obtain ⟨f, p5⟩ := x5
  rw [ok, g1] at e6
  simp only [nI] at e6 ⊢
  rw [← e6]
  cases r6 with
  | none => subst e7; simp [bad, b1, b2, b3]
  | some x6 =>
  obtain ⟨d, p6⟩ := x6
  rw [ok, g1] at e7
  simp only
  rw [← e7]
  cases r7 with
  | none => simp [bad]
  | some x7 =>
  obtain ⟨n, p7⟩ := x7
  exact ⟨fun h => (nomatch h), fun _ => ⟨⟨p4, rfl⟩, rfl⟩⟩
end Go.Proofs.Ytpjlkefadnbgdaa

/- Decode of certificates, over the abstract code. -/
namespace Go.Proofs.Ytpjlkefadnbgdaa
set_option linter.unusedSimpArgs false
set_option linter.unusedVariables false
open Go.RowKit Go.Lib

theorem chk_small {k f t n : Int} {g : Nat} {w : ByteArray} {l : List ByteArray} (hg : g < 65536) (hw : w.size ≤ 1000000) (hl : l.length ≤ 10000) (hx : ∀ x ∈ l, x.size ≤ 1000000) : smallC ⟨k, g, w, l, f, t, n⟩ := ⟨hg, hw, hl, hx⟩
theorem wrap16 {n : Nat} (h : n < 65536) : IntKind.u16.wrap (n : Int) = n := by rw [IntKind.wrap_u16]; omega
set_option maxRecDepth 100000 in
set_option maxHeartbeats 4000000 in
theorem p_cdec (S : ByteArray) (hs : S.size ≤ 1000000) : PCalls Try.prog 54 [.str S] (decV (decE S)) := by
  refine pcalls_of rfl (free_decV _) (ACalls.deep (acalls_of mixed J_cert_Decode_ok (Nat.le_of_ble_eq_true rfl) ?_)); simp only [J_cert_Decode, wk,if_true,if_false,forall_const,implies_true,ne_eq,eq_self,Nat.reduceEqDiff,Nat.reduceAdd,Nat.reduceMul,Nat.reduceSub,Nat.reduceLeDiff,Nat.reduceLT,Int.reduceEq,Int.reduceLT,Int.reduceLE,Int.reduceAdd,Int.reduceSub,Int.reduceMul,Int.reduceNeg,Int.reduceNe,reduceCtorEq,Int.reduceToNat,↓reduceIte]
  refine ACalls.use (a_from S) ?_; rintro _ _ ⟨rfl, rfl⟩; simp only [wk,if_true,if_false,forall_const,implies_true,ne_eq,eq_self,Nat.reduceEqDiff,Nat.reduceAdd,Nat.reduceMul,Nat.reduceSub,Nat.reduceLeDiff,Nat.reduceLT,Int.reduceEq,Int.reduceLT,Int.reduceLE,Int.reduceAdd,Int.reduceSub,Int.reduceMul,Int.reduceNeg,Int.reduceNe,reduceCtorEq,Int.reduceToNat,↓reduceIte]
  obtain ⟨r1, e1⟩ : ∃ r, r = rN S 7 (false, 0) := ⟨_, rfl⟩
  obtain ⟨s1, d1⟩ : ∃ s, s = stO r1 0 := ⟨_, rfl⟩
  have b1 : s1.2 ≤ S.size := by rw [d1, e1]; exact rN_le (Nat.zero_le _) (Nat.zero_le _)
  refine ACalls.use (a_num' (S := S) (s := (false, 0)) 7 rfl hs (Nat.zero_le _) e1 d1) ?_; rintro _ _ ⟨rfl, rfl⟩; simp only [wk,if_true,if_false,forall_const,implies_true,ne_eq,eq_self,Nat.reduceEqDiff,Nat.reduceAdd,Nat.reduceMul,Nat.reduceSub,Nat.reduceLeDiff,Nat.reduceLT,Int.reduceEq,Int.reduceLT,Int.reduceLE,Int.reduceAdd,Int.reduceSub,Int.reduceMul,Int.reduceNeg,Int.reduceNe,reduceCtorEq,Int.reduceToNat,↓reduceIte]
  obtain ⟨r2, e2⟩ : ∃ r, r = rN S 49151 s1 := ⟨_, rfl⟩
  obtain ⟨s2, d2⟩ : ∃ s, s = stO r2 s1.2 := ⟨_, rfl⟩
  have b2 : s2.2 ≤ S.size := by rw [d2, e2]; exact rN_le b1 b1
  have n2 : nI r2 ≤ 49151 := by have := (nI_le (S := S) (m := 49151) b1).2 (by omega); rw [← e2] at this; omega
  refine ACalls.use (a_num' (S := S) (s := s1) 49151 rfl hs b1 e2 d2) ?_; rintro _ _ ⟨rfl, rfl⟩; simp only [wk,if_true,if_false,forall_const,implies_true,ne_eq,eq_self,Nat.reduceEqDiff,Nat.reduceAdd,Nat.reduceMul,Nat.reduceSub,Nat.reduceLeDiff,Nat.reduceLT,Int.reduceEq,Int.reduceLT,Int.reduceLE,Int.reduceAdd,Int.reduceSub,Int.reduceMul,Int.reduceNeg,Int.reduceNe,reduceCtorEq,Int.reduceToNat,↓reduceIte, wrap16 (show nI r2 < 65536 by omega)]
  obtain ⟨r3, e3⟩ : ∃ r, r = rW S s2 := ⟨_, rfl⟩
  obtain ⟨q3, hq3, hc3⟩ := a_word' (id := 1) (s := s2) (h := [some (false, [.int .i64 0, .int .u16 0, .str ⟨#[]⟩, .lst .clip 0 [], .int .i64 0, .int .i64 0, .int .i64 0]), iObj S s2, some (false, [.int .i64 (nI r1), .int .u16 (nI r2), .str ⟨#[]⟩, .lst .clip 0 [], .int .i64 0, .int .i64 0, .int .i64 0])]) rfl hs b2 e3
  obtain ⟨s3, d3⟩ : ∃ s, s = stO r3 q3 := ⟨_, rfl⟩
  rw [← d3] at hc3
  have b3 : s3.2 ≤ S.size := by rw [d3, e3]; exact rW_le hq3
  refine ACalls.use (hc3) ?_; rintro _ _ ⟨rfl, rfl⟩; simp only [wk,if_true,if_false,forall_const,implies_true,ne_eq,eq_self,Nat.reduceEqDiff,Nat.reduceAdd,Nat.reduceMul,Nat.reduceSub,Nat.reduceLeDiff,Nat.reduceLT,Int.reduceEq,Int.reduceLT,Int.reduceLE,Int.reduceAdd,Int.reduceSub,Int.reduceMul,Int.reduceNeg,Int.reduceNe,reduceCtorEq,Int.reduceToNat,↓reduceIte]
  obtain ⟨r4, e4⟩ : ∃ r, r = rL S s3 := ⟨_, rfl⟩
  refine ACalls.use (a_set' (id := 1) (s := s3) rfl hs b3 e4) ?_
  rintro _ _ ⟨rfl, q4, hq4, rfl⟩
  obtain ⟨s4, d4⟩ : ∃ s, s = stO r4 q4 := ⟨_, rfl⟩
  rw [← d4]
  have b4 : s4.2 ≤ S.size := by rw [d4, e4]; exact rL_le hq4
  simp only [deg_fL, wk,if_true,if_false,forall_const,implies_true,ne_eq,eq_self,Nat.reduceEqDiff,Nat.reduceAdd,Nat.reduceMul,Nat.reduceSub,Nat.reduceLeDiff,Nat.reduceLT,Int.reduceEq,Int.reduceLT,Int.reduceLE,Int.reduceAdd,Int.reduceSub,Int.reduceMul,Int.reduceNeg,Int.reduceNe,reduceCtorEq,Int.reduceToNat,↓reduceIte]
  obtain ⟨r5, e5⟩ : ∃ r, r = rN S 4611686018427387904 s4 := ⟨_, rfl⟩
  obtain ⟨s5, d5⟩ : ∃ s, s = stO r5 s4.2 := ⟨_, rfl⟩
  have b5 : s5.2 ≤ S.size := by rw [d5, e5]; exact rN_le b4 b4
  have n5 : nI r5 ≤ 4611686018427387904 := by have := (nI_le (S := S) (m := 4611686018427387904) b4).1; rw [← e5] at this; exact this
  refine ACalls.use (a_num' (S := S) (s := s4) 4611686018427387904 rfl hs b4 e5 d5) ?_; rintro _ _ ⟨rfl, rfl⟩; simp only [wk,if_true,if_false,forall_const,implies_true,ne_eq,eq_self,Nat.reduceEqDiff,Nat.reduceAdd,Nat.reduceMul,Nat.reduceSub,Nat.reduceLeDiff,Nat.reduceLT,Int.reduceEq,Int.reduceLT,Int.reduceLE,Int.reduceAdd,Int.reduceSub,Int.reduceMul,Int.reduceNeg,Int.reduceNe,reduceCtorEq,Int.reduceToNat,↓reduceIte, deg_fL]
  obtain ⟨r6, e6⟩ : ∃ r, r = rN S (4611686018427387904 - nI r5) s5 := ⟨_, rfl⟩
  obtain ⟨s6, d6⟩ : ∃ s, s = stO r6 s5.2 := ⟨_, rfl⟩
  have b6 : s6.2 ≤ S.size := by rw [d6, e6]; exact rN_le b5 b5
  have n6 : (nI r6 : Int) ≤ 4611686018427387904 - nI r5 := by have := (nI_le (S := S) (m := 4611686018427387904 - nI r5) b5).2 (by omega); rw [← e6] at this; exact this
  refine ⟨inR_of (by omega) (by omega), _, _, _, rfl, fun h0 hh => a_num' (S := S) (s := s5) (4611686018427387904 - nI r5) hh hs b5 e6 d6, ?_⟩
  simp only [wk,if_true,if_false,forall_const,implies_true,ne_eq,eq_self,Nat.reduceEqDiff,Nat.reduceAdd,Nat.reduceMul,Nat.reduceSub,Nat.reduceLeDiff,Nat.reduceLT,Int.reduceEq,Int.reduceLT,Int.reduceLE,Int.reduceAdd,Int.reduceSub,Int.reduceMul,Int.reduceNeg,Int.reduceNe,reduceCtorEq,Int.reduceToNat,↓reduceIte]
  refine ⟨inR_of (by omega) (by omega), ?_⟩
  obtain ⟨r7, e7⟩ : ∃ r, r = rN S 4611686018427387904 s6 := ⟨_, rfl⟩
  obtain ⟨s7, d7⟩ : ∃ s, s = stO r7 s6.2 := ⟨_, rfl⟩
  have b7 : s7.2 ≤ S.size := by rw [d7, e7]; exact rN_le b6 b6
  refine ACalls.use (a_num' (S := S) (s := s6) 4611686018427387904 rfl hs b6 e7 d7) ?_; rintro _ _ ⟨rfl, rfl⟩; simp only [wk,if_true,if_false,forall_const,implies_true,ne_eq,eq_self,Nat.reduceEqDiff,Nat.reduceAdd,Nat.reduceMul,Nat.reduceSub,Nat.reduceLeDiff,Nat.reduceLT,Int.reduceEq,Int.reduceLT,Int.reduceLE,Int.reduceAdd,Int.reduceSub,Int.reduceMul,Int.reduceNeg,Int.reduceNe,reduceCtorEq,Int.reduceToNat,↓reduceIte, deg_fL]
  subst d1 d2 d3 d4 d5
  obtain ⟨c1, c2⟩ := dec_chain (m6 := fun f => 4611686018427387904 - f) (tl := fun f d => f + d) (q7 := s6.2) e1 e2 e3 e4 e5 e6 (r7 := r7) (by rw [e7, d6])
  rw [← d7] at c1 c2
  rw [show decE S = decP S 49151 (fun f => 4611686018427387904 - f) (fun f d => f + d) from rfl]
  refine ACalls.use (a_idone (S := S) (s := s7) rfl (by omega) b7) ?_; rintro _ _ ⟨rfl, rfl⟩; simp only [wk,if_true,if_false,forall_const,implies_true,ne_eq,eq_self,Nat.reduceEqDiff,Nat.reduceAdd,Nat.reduceMul,Nat.reduceSub,Nat.reduceLeDiff,Nat.reduceLT,Int.reduceEq,Int.reduceLT,Int.reduceLE,Int.reduceAdd,Int.reduceSub,Int.reduceMul,Int.reduceNeg,Int.reduceNe,reduceCtorEq,Int.reduceToNat,↓reduceIte]
  cases hb : s7.1 with
  | true =>
    rw [c1 hb]
    simp only [Bool.true_or, eI, decV, vC, cC, zeroC, rdpw, valL, wk,if_true,if_false,forall_const,implies_true,ne_eq,eq_self,Nat.reduceEqDiff,Nat.reduceAdd,Nat.reduceMul,Nat.reduceSub,Nat.reduceLeDiff,Nat.reduceLT,Int.reduceEq,Int.reduceLT,Int.reduceLE,Int.reduceAdd,Int.reduceSub,Int.reduceMul,Int.reduceNeg,Int.reduceNe,reduceCtorEq,Int.reduceToNat,↓reduceIte]
    simp
  | false =>
    obtain ⟨⟨p, hp⟩, c2⟩ := c2 hb
    rw [c2]
    have hfl : fL r4 = .ro := by rw [hp]; rfl
    simp only [Bool.false_or, hfl, wk,if_true,if_false,forall_const,implies_true,ne_eq,eq_self,Nat.reduceEqDiff,Nat.reduceAdd,Nat.reduceMul,Nat.reduceSub,Nat.reduceLeDiff,Nat.reduceLT,Int.reduceEq,Int.reduceLT,Int.reduceLE,Int.reduceAdd,Int.reduceSub,Int.reduceMul,Int.reduceNeg,Int.reduceNe,reduceCtorEq,Int.reduceToNat,↓reduceIte]
    by_cases hend : s7.2 < S.size
    · simp only [hend, decide_true, if_true, eI, decV, vC, cC, zeroC, rdpw, valL, wk,if_true,if_false,forall_const,implies_true,ne_eq,eq_self,Nat.reduceEqDiff,Nat.reduceAdd,Nat.reduceMul,Nat.reduceSub,Nat.reduceLeDiff,Nat.reduceLT,Int.reduceEq,Int.reduceLT,Int.reduceLE,Int.reduceAdd,Int.reduceSub,Int.reduceMul,Int.reduceNeg,Int.reduceNe,reduceCtorEq,Int.reduceToNat,↓reduceIte]
      simp
    · simp only [hend, decide_false, if_false, eI, wk,if_true,if_false,forall_const,implies_true,ne_eq,eq_self,Nat.reduceEqDiff,Nat.reduceAdd,Nat.reduceMul,Nat.reduceSub,Nat.reduceLeDiff,Nat.reduceLT,Int.reduceEq,Int.reduceLT,Int.reduceLE,Int.reduceAdd,Int.reduceSub,Int.reduceMul,Int.reduceNeg,Int.reduceNe,reduceCtorEq,Int.reduceToNat,↓reduceIte]
      have hsm : smallC ⟨nI r1, nI r2, nS r3, nL r4, nI r5, nI r5 + nI r6, nI r7⟩ := by
        refine chk_small (by omega) ?_ ?_ ?_
        · rw [e3]; exact Nat.le_trans rW_small (by omega)
        · rw [e4]; exact Nat.le_trans rL_small.1 (by omega)
        · rw [e4]; exact fun x hx => Nat.le_trans (rL_small.2 x hx) (by omega)
      have hck := p_check _ hsm
      simp only [vC, cC] at hck
      refine PCalls.use (hck) ?_; simp only [wk,if_true,if_false,forall_const,implies_true,ne_eq,eq_self,Nat.reduceEqDiff,Nat.reduceAdd,Nat.reduceMul,Nat.reduceSub,Nat.reduceLeDiff,Nat.reduceLT,Int.reduceEq,Int.reduceLT,Int.reduceLE,Int.reduceAdd,Int.reduceSub,Int.reduceMul,Int.reduceNeg,Int.reduceNe,reduceCtorEq,Int.reduceToNat,↓reduceIte]
      refine ⟨fun h0 => ?_, fun h0 => ?_⟩
      · simp only [h0, if_true, if_false, decV, vC, cC, zeroC, rdpw, valL, wk,if_true,if_false,forall_const,implies_true,ne_eq,eq_self,Nat.reduceEqDiff,Nat.reduceAdd,Nat.reduceMul,Nat.reduceSub,Nat.reduceLeDiff,Nat.reduceLT,Int.reduceEq,Int.reduceLT,Int.reduceLE,Int.reduceAdd,Int.reduceSub,Int.reduceMul,Int.reduceNeg,Int.reduceNe,reduceCtorEq,Int.reduceToNat,↓reduceIte]
        try simp
      · simp only [h0, if_true, if_false, decV, vC, cC, zeroC, rdpw, valL, wk,if_true,if_false,forall_const,implies_true,ne_eq,eq_self,Nat.reduceEqDiff,Nat.reduceAdd,Nat.reduceMul,Nat.reduceSub,Nat.reduceLeDiff,Nat.reduceLT,Int.reduceEq,Int.reduceLT,Int.reduceLE,Int.reduceAdd,Int.reduceSub,Int.reduceMul,Int.reduceNeg,Int.reduceNe,reduceCtorEq,Int.reduceToNat,↓reduceIte]
        try simp
end Go.Proofs.Ytpjlkefadnbgdaa

/- Decode of certificates in the reference, over the abstract code; it is the same. -/
namespace Go.Proofs.Ytpjlkefadnbgdaa
set_option linter.unusedSimpArgs false
set_option linter.unusedVariables false
open Go.RowKit Go.Lib

theorem rNum_most {S : ByteArray} {m : Int} {p n q : Nat} (h : rNum S m p = some (n, q)) : (n : Int) ≤ m ∧ n ≤ 4611686018427387904 := by
  by_cases hp : p ≤ S.size
  · have := rNum_le h hp; exact ⟨this.2.2.2, this.2.2.1⟩
  · exfalso
    unfold rNum at h
    rw [List.drop_of_length_le (by simp; omega)] at h
    simp [rdNum, rdNumAt] at h
end Go.Proofs.Ytpjlkefadnbgdaa

/- The plain laws of certificates' bytes. No program in sight. -/
namespace Go.Proofs.Ytpjlkefadnbgdaa
set_option linter.unusedSimpArgs false
set_option linter.unusedVariables false
open Go.RowKit Go.Lib

theorem rNum_start {S : ByteArray} {m : Int} {p n q : Nat} (h : rNum S m p = some (n, q)) (hp : p ≤ S.size) : q ≤ S.size := (rNum_le h hp).2.1
theorem dec_enc {S : ByteArray} {c : Crt} (h : decE S = some c) : encBytes c = S.data.toList ∧ checkE c = 0 ∧ smallC c := by
  unfold decE at h
  rw [decP_some] at h
  obtain ⟨k, p1, g, p2, w, p3, l, p4, f, p5, d, p6, n, p7, e1, e2, e3, e4, e5, e6, e7, hp, hc, rfl⟩ := h
  have b1 := rNum_start e1 (Nat.zero_le _)
  have b2 := rNum_start e2 b1
  have b3 := (rWord_le e3).2.1
  have b4 := (upTo_set e4).2.2.2
  have b5 := rNum_start e5 b4
  have b6 := rNum_start e6 b5
  have b7 := rNum_start e7 b6
  have hp7 : p7 = S.size := by omega
  have u1 := upTo_num e1
  have u2 := upTo_num e2
  have u3 := upTo_word e3
  have u4 := (upTo_set e4).1
  have u5 := upTo_num e5
  have u6 := upTo_num e6
  have u7 := upTo_num e7
  have m2 := rNum_most e2
  refine ⟨?_, hc, by show g < 65536; omega, ?_, ?_, ?_⟩
  · rw [← upTo_size S, ← hp7, u7, u6, u5, u4, u3, u2, u1]
    have e0 : upTo S 0 = [] := rfl
    have ed : ((f : Int) + (d : Int) - (f : Int)).toNat = d := by omega
    simp only [encBytes, e0, List.nil_append, List.append_assoc, Int.toNat_natCast, ed]
  · exact Nat.le_trans (wordMay_le (rWord_le e3).2.2.1) (by omega)
  · exact Nat.le_trans (setMay_small (upTo_set e4).2.1).1 (by omega)
  · exact fun x hx => Nat.le_trans ((setMay_small (upTo_set e4).2.1).2 x hx) (by omega)
theorem bytes_bound {c : Crt} (h : checkE c = 0) (hs : smallC c) : (encBytes c).length ≤ 1000000 := by
  have g := good_of h
  obtain ⟨w16, ws⟩ := setMay_small g.words
  have l1 : (num c.kind.toNat).length ≤ 9 := (num_len9 (by have := g.kind; omega)).2
  have l2 : (num c.signer).length ≤ 9 := (num_len9 (by have := hs.1; omega)).2
  have l3 : (wordBytes c.speaker).length ≤ 17 := by have := wordMay_le g.speaker; simp [wordBytes]; omega
  have l4 : (setBytes c.words).length ≤ 300 := by
    have : ∀ l : List ByteArray, (∀ x ∈ l, x.size ≤ 16) → (l.flatMap wordBytes).length ≤ 17 * l.length := by
      intro l
      induction l with
      | nil => simp
      | cons x l ih =>
        intro hx
        have h1 := hx x (by simp)
        have h2 := ih (fun y hy => hx y (by simp [hy]))
        simp only [List.flatMap_cons, List.length_append, List.length_cons]
        have : (wordBytes x).length ≤ 17 := by simp [wordBytes]; omega
        omega
    have := this c.words ws
    simp only [setBytes, List.length_cons]
    omega
  have l5 : (num c.since.toNat).length ≤ 9 := (num_len9 (by have := g.since; omega)).2
  have l6 : (num (c.till - c.since).toNat).length ≤ 9 := (num_len9 (by have := g.since; have := g.till; omega)).2
  have l7 : (num c.serial.toNat).length ≤ 9 := (num_len9 (by have := g.serial; omega)).2
  simp only [encBytes, List.length_append]
  omega
end Go.Proofs.Ytpjlkefadnbgdaa

/- Messages: requests (as in records), the plain structure of a message. -/
namespace Go.Proofs.Ytpjlkefadnbgdaa
set_option linter.unusedSimpArgs false
set_option linter.unusedVariables false
open Go.RowKit Go.Lib

structure Ent where
  op : Int
  who : List ByteArray
def smallE (x : Ent) : Prop := x.who.length ≤ 1000 ∧ ∀ w ∈ x.who, w.size ≤ 1000
def mayEnt (x : Ent) : Bool := decide (0 ≤ x.op) && (decide (x.op < 8) && setMay x.who)
def numOk (n : Int) : Bool := decide (0 ≤ n ∧ n ≤ 4611686018427387904)
theorem p_recnum (n : Int) : PCalls Try.prog 46 [.int .i64 n] (.bool (numOk n)) := by
  refine pcalls_of (by first | rfl | simp [free, free.frees, frees_str, frees_u8, frees_u16]) (by first | rfl | simp [free, free.frees, frees_str, frees_u8, frees_u16]) (acalls_of mixed J_record_number_ok (Nat.le_of_ble_eq_true rfl) ?_); simp only [J_record_number, wk,if_true,if_false,forall_const,implies_true,ne_eq,eq_self,Nat.reduceEqDiff,Nat.reduceAdd,Nat.reduceMul,Nat.reduceSub,Nat.reduceLeDiff,Nat.reduceLT,Int.reduceEq,Int.reduceLT,Int.reduceLE,Int.reduceAdd,Int.reduceSub,Int.reduceMul,Int.reduceNeg,Int.reduceNe,reduceCtorEq,Int.reduceToNat,↓reduceIte]
  refine ⟨fun e => ?_, fun e => ?_⟩
  · congr 1; simp [numOk, e]
  · congr 1; simp [numOk, e]
structure Rqs where
  object : Int
  op : Int
  arg : Int
  ent : Ent
def qC (q : Rqs) : List AV := [.int .i64 q.object, .int .i64 q.op, .int .i64 q.arg, .int .i64 q.ent.op, .lst .ro q.ent.who.length (q.ent.who.map .str)]
def vQ (q : Rqs) : AV := .agg (qC q)
theorem free_vQ (q : Rqs) : free (vQ q) = true := by simp [vQ, qC, free, free.frees, frees_str]
def noneE (x : Ent) : Bool := decide (x.op = 0) && decide (x.who.length = 0)
def asksE (q : Rqs) : Bool :=
  if 0 ≤ q.object ∧ q.object < 4 ∧ numOk q.arg = true then
    (if q.op = 0 then decide (q.arg = 0) && noneE q.ent else if q.op = 1 then noneE q.ent else if q.op = 2 ∨ q.op = 3 then decide (q.arg = 0) && mayEnt q.ent else false)
  else false
set_option maxRecDepth 100000 in
set_option maxHeartbeats 4000000 in
theorem p_asks (q : Rqs) (h : smallE q.ent) : PCalls Try.prog 32 [vQ q] (.bool (asksE q)) := by
  refine pcalls_of (by simp [free.frees, free_vQ]) rfl (acalls_of mixed J_record_Asks_ok (Nat.le_of_ble_eq_true rfl) ?_); simp only [J_record_Asks, J_record_Asks_j1, vQ, qC, wk,if_true,if_false,forall_const,implies_true,ne_eq,eq_self,Nat.reduceEqDiff,Nat.reduceAdd,Nat.reduceMul,Nat.reduceSub,Nat.reduceLeDiff,Nat.reduceLT,Int.reduceEq,Int.reduceLT,Int.reduceLE,Int.reduceAdd,Int.reduceSub,Int.reduceMul,Int.reduceNeg,Int.reduceNe,reduceCtorEq,Int.reduceToNat,↓reduceIte]
  have no : (¬ (0 ≤ q.object ∧ q.object < 4 ∧ numOk q.arg = true)) → AV.bool false = .bool (asksE q) := fun e => by unfold asksE; rw [if_neg e]
  refine ⟨fun h1 => ⟨fun h2 => ?_, fun h2 => no (by omega)⟩, fun h1 => no (by omega)⟩
  refine PCalls.use (p_recnum q.arg) ?_; simp only [wk,if_true,if_false,forall_const,implies_true,ne_eq,eq_self,Nat.reduceEqDiff,Nat.reduceAdd,Nat.reduceMul,Nat.reduceSub,Nat.reduceLeDiff,Nat.reduceLT,Int.reduceEq,Int.reduceLT,Int.reduceLE,Int.reduceAdd,Int.reduceSub,Int.reduceMul,Int.reduceNeg,Int.reduceNe,reduceCtorEq,Int.reduceToNat,↓reduceIte]
  have q1 := p_smay q.ent.who (by have := h.1; omega) (fun w hw => by have := h.2 w hw; omega)
  refine ⟨fun hn => no (by simp [hn]), fun hn => ?_⟩
  have e0 : asksE q = (if q.op = 0 then decide (q.arg = 0) && noneE q.ent else if q.op = 1 then noneE q.ent else if q.op = 2 ∨ q.op = 3 then decide (q.arg = 0) && mayEnt q.ent else false) := by
    unfold asksE; rw [if_pos ⟨by omega, by omega, hn⟩]
  rw [e0]
  clear e0 no
  unfold noneE mayEnt
  repeat' (first | (refine PCalls.use q1 ?_; simp only [wk,if_true,if_false,forall_const,implies_true,ne_eq,eq_self,Nat.reduceEqDiff,Nat.reduceAdd,Nat.reduceMul,Nat.reduceSub,Nat.reduceLeDiff,Nat.reduceLT,Int.reduceEq,Int.reduceLT,Int.reduceLE,Int.reduceAdd,Int.reduceSub,Int.reduceMul,Int.reduceNeg,Int.reduceNe,reduceCtorEq,Int.reduceToNat,↓reduceIte]) | (refine And.intro ?_ ?_) | intro _)
  all_goals first
    | (simp_all; done)
    | (congr 1; simp_all; done)
    | (congr 1; simp_all; omega)
theorem mayEnt_ok {x : Ent} (h : mayEnt x = true) : 0 ≤ x.op ∧ x.op < 8 ∧ setMay x.who = true := by
  simp only [mayEnt, Bool.and_eq_true, decide_eq_true_eq] at h
  exact h
theorem flat_len {α : Type} {f : α → List UInt8} {c : Nat} : ∀ (l : List α), (∀ x ∈ l, (f x).length ≤ c) → (l.flatMap f).length ≤ c * l.length
  | [], _ => by simp
  | x :: l, h => by
    have h1 := h x (by simp)
    have h2 := flat_len l (fun y hy => h y (by simp [hy]))
    simp only [List.flatMap_cons, List.length_append, List.length_cons, Nat.mul_succ]
    omega
def rMany {α : Type} (f : Nat → Option (α × Nat)) (p : Nat) : Nat → Option (List α × Nat)
  | 0 => some ([], p)
  | k + 1 => match rMany f p k with
    | some (l, q) => (match f q with
      | some (x, q') => some (l ++ [x], q')
      | none => none)
    | none => none
theorem rMany_len {α : Type} {f : Nat → Option (α × Nat)} {p : Nat} : ∀ {k : Nat} {l : List α} {q : Nat}, rMany f p k = some (l, q) → l.length = k ∧ ∀ x ∈ l, ∃ a b, f a = some (x, b)
  | 0, l, q, h => by
    simp only [rMany, Option.some.injEq, Prod.mk.injEq] at h
    obtain ⟨rfl, rfl⟩ := h
    simp
  | k + 1, l, q, h => by
    simp only [rMany] at h
    split at h
    · next l' q' h1 =>
      obtain ⟨i1, i2⟩ := rMany_len h1
      split at h
      · next x q2 h2 =>
        simp only [Option.some.injEq, Prod.mk.injEq] at h
        obtain ⟨rfl, rfl⟩ := h
        refine ⟨by simp [i1], fun y hy => ?_⟩
        rcases List.mem_append.1 hy with hy | hy
        · exact i2 y hy
        · simp at hy; subst hy; exact ⟨_, _, h2⟩
      · cases h
    · cases h
theorem upTo_many {α : Type} {S : ByteArray} {g : Nat → Option (α × Nat)} {f : α → List UInt8} (hg : ∀ (p q : Nat) x, g p = some (x, q) → p ≤ S.size → upTo S q = upTo S p ++ f x ∧ q ≤ S.size) {p : Nat} (hp : p ≤ S.size) :
    ∀ (k : Nat) (l : List α) (q : Nat), rMany g p k = some (l, q) → upTo S q = upTo S p ++ l.flatMap f ∧ q ≤ S.size
  | 0, l, q, h => by
    simp only [rMany, Option.some.injEq, Prod.mk.injEq] at h
    obtain ⟨rfl, rfl⟩ := h
    simpa using hp
  | k + 1, l, q, h => by
    simp only [rMany] at h
    split at h
    · next l' q' h1 =>
      obtain ⟨i1, i2⟩ := upTo_many hg hp k l' q' h1
      split at h
      · next x q2 h2 =>
        simp only [Option.some.injEq, Prod.mk.injEq] at h
        obtain ⟨rfl, rfl⟩ := h
        obtain ⟨j1, j2⟩ := hg _ _ _ h2 i2
        refine ⟨?_, j2⟩
        rw [j1, i1, List.flatMap_append]
        simp [List.append_assoc]
      · cases h
    · cases h
theorem rMany_none {α : Type} {f : Nat → Option (α × Nat)} {p : Nat} : ∀ {k n : Nat}, k ≤ n → rMany f p k = none → rMany f p n = none
  | k, 0, h, e => by rw [show k = 0 by omega] at e; exact e
  | k, n + 1, h, e => by
    by_cases hk : k = n + 1
    · rw [← hk]; exact e
    · have := rMany_none (n := n) (by omega) e
      simp only [rMany, this]
structure Lm where
  kind : Int
  chan : Nat
  seq : Int
  ask : Rqs
  err : Int
  value : Int
  word : ByteArray
  certs : List Crt
def certsC (l : List Crt) : List AV := l.flatMap cC
def mC (m : Lm) : List AV := [.int .i64 m.kind, .int .u16 m.chan, .int .i64 m.seq, .int .i64 m.ask.object, .int .i64 m.ask.op, .int .i64 m.ask.arg, .int .i64 m.ask.ent.op, .lst .ro m.ask.ent.who.length (m.ask.ent.who.map .str), .int .i64 m.err, .int .i64 m.value, .str m.word, .lst .ro m.certs.length (certsC m.certs)]
def vM (m : Lm) : AV := .agg (mC m)
def smallM (m : Lm) : Prop := m.chan < 65536 ∧ smallE m.ask.ent ∧ m.word.size ≤ 1000 ∧ m.certs.length ≤ 1000 ∧ ∀ c ∈ m.certs, smallC c
theorem frees_certsC (l : List Crt) : free.frees (certsC l) = true := by
  induction l with
  | nil => rfl
  | cons x l ih => simp only [certsC, List.flatMap_cons, cC, List.cons_append, List.nil_append, free.frees, free, frees_str, Bool.true_and] at ih ⊢; exact ih
theorem free_vM (m : Lm) : free (vM m) = true := by simp [vM, mC, free, free.frees, frees_certsC, frees_str]
theorem certsC_drop : ∀ {l : List Crt} {i : Nat} (h : i < l.length), (certsC l).drop (i * 7) = cC l[i] ++ (certsC l).drop ((i + 1) * 7)
  | [], _, h => by simp at h
  | w :: l, 0, h => by simp [certsC, cC]
  | w :: l, i + 1, h => by
    have := certsC_drop (l := l) (i := i) (by simpa using h)
    simp only [certsC, List.flatMap_cons, cC, List.cons_append, List.nil_append] at this ⊢
    rw [show (i + 1) * 7 = i * 7 + 1 + 1 + 1 + 1 + 1 + 1 + 1 by omega, show (i + 1 + 1) * 7 = (i + 1) * 7 + 1 + 1 + 1 + 1 + 1 + 1 + 1 by omega]
    simp only [List.drop_succ_cons, List.getElem_cons_succ]
    exact this
theorem certsC_sn (l : List Crt) (c : Crt) : certsC (l ++ [c]) = certsC l ++ cC c := by simp [certsC]
def zeroQ : Rqs := ⟨0, 0, 0, ⟨0, []⟩⟩
def zeroM : Lm := ⟨0, 0, 0, zeroQ, 0, 0, ⟨#[]⟩, []⟩
end Go.Proofs.Ytpjlkefadnbgdaa

/- Messages' bytes: the plain answers, and their laws. No program in sight. -/
namespace Go.Proofs.Ytpjlkefadnbgdaa
set_option linter.unusedSimpArgs false
set_option linter.unusedVariables false
open Go.RowKit Go.Lib

def noAsk (q : Rqs) : Bool := decide (q.object = 0 ∧ q.op = 0 ∧ q.arg = 0 ∧ q.ent.op = 0 ∧ q.ent.who = [])
def chanOk (m : Lm) : Bool := decide (16384 ≤ m.chan ∧ m.chan < 24576)
def replyNo (m : Lm) : Bool := decide (m.err = 0 ∧ m.value = 0)
def certsOk (l : List Crt) : Bool := decide (l.length ≤ 8) && l.all fun c => decide (checkE c = 0)
def fitsE (m : Lm) : Bool :=
  certsOk m.certs && (
    if m.kind = 1 then chanOk m && (decide (m.seq = 0) && (noAsk m.ask && (replyNo m && decide (m.word = ⟨#[]⟩))))
    else if m.kind = 2 then chanOk m && (numOk m.seq && (asksE m.ask && (replyNo m && (decide (m.word = ⟨#[]⟩) && decide (m.certs = [])))))
    else if m.kind = 3 then chanOk m && (numOk m.seq && (noAsk m.ask && (decide (0 ≤ m.err ∧ m.err ≤ 100) && (numOk m.value && (decide (m.word = ⟨#[]⟩) && decide (m.certs = []))))))
    else if m.kind = 4 then decide (m.chan = 0 ∧ m.seq = 0) && (noAsk m.ask && (replyNo m && (wordMay m.word && decide (m.certs = []))))
    else if m.kind = 5 then decide (m.chan = 0 ∧ m.seq = 0) && (noAsk m.ask && (replyNo m && decide (m.word = ⟨#[]⟩)))
    else false)
def crtB (c : Crt) : List UInt8 := num (encBytes c).length ++ encBytes c
def crtsB (l : List Crt) : List UInt8 := num l.length ++ l.flatMap crtB
def askB (q : Rqs) : List UInt8 := num q.object.toNat ++ (num q.op.toNat ++ (num q.arg.toNat ++ (if 2 ≤ q.op then num q.ent.op.toNat ++ setBytes q.ent.who else [])))
def msgB (m : Lm) : List UInt8 := num m.kind.toNat ++
  (if m.kind = 1 then num m.chan ++ crtsB m.certs
  else if m.kind = 2 then num m.chan ++ (num m.seq.toNat ++ askB m.ask)
  else if m.kind = 3 then num m.chan ++ (num m.seq.toNat ++ (num m.err.toNat ++ num m.value.toNat))
  else if m.kind = 4 then wordBytes m.word
  else crtsB m.certs)
def okM (m : Lm) : Bool := fitsE m && decide ((msgB m).length ≤ 4000)
def encMS (m : Lm) : ByteArray := if okM m = true then ⟨(msgB m).toArray⟩ else ⟨#[]⟩
def encMN (m : Lm) : Int := if okM m = true then 0 else 2
def bd {α β : Type} (r : Option (α × Nat)) (F : α → Nat → Option β) : Option β := match r with
  | some (x, p) => F x p
  | none => none
theorem bd_some {α β : Type} {r : Option (α × Nat)} {F : α → Nat → Option β} {y : β} (h : bd r F = some y) : ∃ x p, r = some (x, p) ∧ F x p = some y := by
  cases r with
  | none => cases h
  | some z => obtain ⟨x, p⟩ := z; exact ⟨x, p, rfl, h⟩
def rCrt (S : ByteArray) (p : Nat) : Option (Crt × Nat) := bd (rText S 4000 p) fun t q => match decE t with
  | some c => some (c, q)
  | none => none
def finM (S : ByteArray) (m : Lm) (p : Nat) : Option Lm := if p < S.size then none else if fitsE m = true then some m else none
def big : Int := 4611686018427387904
def dOpen (S : ByteArray) (p : Nat) : Option Lm := bd (rNum S 65535 p) fun g p => bd (rNum S 8 p) fun n q => bd (rMany (rCrt S) q n) fun l p => finM S ⟨1, g, 0, zeroQ, 0, 0, ⟨#[]⟩, l⟩ p
def dCall (S : ByteArray) (mo me : Int) (p : Nat) : Option Lm := bd (rNum S 65535 p) fun g p => bd (rNum S big p) fun s p => bd (rNum S mo p) fun o p => bd (rNum S 3 p) fun a p => bd (rNum S big p) fun z p =>
  if 2 ≤ a then bd (rNum S me p) fun e p => bd (rSet S p) fun l p => finM S ⟨2, g, s, ⟨o, a, z, ⟨e, l⟩⟩, 0, 0, ⟨#[]⟩, []⟩ p
  else finM S ⟨2, g, s, ⟨o, a, z, ⟨0, []⟩⟩, 0, 0, ⟨#[]⟩, []⟩ p
def dReply (S : ByteArray) (p : Nat) : Option Lm := bd (rNum S 65535 p) fun g p => bd (rNum S big p) fun s p => bd (rNum S 100 p) fun e p => bd (rNum S big p) fun v p => finM S ⟨3, g, s, zeroQ, e, v, ⟨#[]⟩, []⟩ p
def dFetch (S : ByteArray) (p : Nat) : Option Lm := bd (rWord S p) fun w p => finM S ⟨4, 0, 0, zeroQ, 0, 0, w, []⟩ p
def dCerts (S : ByteArray) (p : Nat) : Option Lm := bd (rNum S 8 p) fun n q => bd (rMany (rCrt S) q n) fun l p => finM S ⟨5, 0, 0, zeroQ, 0, 0, ⟨#[]⟩, l⟩ p
def dKind (S : ByteArray) (mo me : Int) (k p : Nat) : Option Lm :=
  if k = 1 then dOpen S p else if k = 2 then dCall S mo me p else if k = 3 then dReply S p else if k = 4 then dFetch S p else if k = 5 then dCerts S p else none
def decP2 (S : ByteArray) (mo me : Int) : Option Lm := if 4000 < S.size then none else bd (rNum S 5 0) fun k p => dKind S mo me k p
def decM (S : ByteArray) : Option Lm := decP2 S 3 7
theorem rNum_st {S : ByteArray} {m : Int} {p n q : Nat} (h : rNum S m p = some (n, q)) (hp : p ≤ S.size) : q ≤ S.size := (rNum_le h hp).2.1
theorem rCrt_some {S : ByteArray} {p q : Nat} {c : Crt} (h : rCrt S p = some (c, q)) : ∃ t, rText S 4000 p = some (t, q) ∧ decE t = some c := by
  obtain ⟨t, q', h1, h2⟩ := bd_some h
  cases hd : decE t with
  | none => rw [hd] at h2; cases h2
  | some c' => rw [hd] at h2; simp only [Option.some.injEq, Prod.mk.injEq] at h2; obtain ⟨rfl, rfl⟩ := h2; exact ⟨t, h1, hd⟩
theorem rCrt_up {S : ByteArray} (p q : Nat) (c : Crt) (h : rCrt S p = some (c, q)) (hp : p ≤ S.size) : upTo S q = upTo S p ++ crtB c ∧ q ≤ S.size := by
  obtain ⟨t, h1, h2⟩ := rCrt_some h
  have u := upTo_text h1
  have l := rText_le h1 hp
  obtain ⟨e, _, _⟩ := dec_enc h2
  refine ⟨?_, l.2.1⟩
  rw [u, crtB, e]
  simp
theorem rCrt_fit {S : ByteArray} {p q : Nat} {c : Crt} (h : rCrt S p = some (c, q)) : checkE c = 0 ∧ smallC c := by
  obtain ⟨t, h1, h2⟩ := rCrt_some h
  exact (dec_enc h2).2
theorem crts_up {S : ByteArray} {p q n : Nat} {l : List Crt} (h : rMany (rCrt S) p n = some (l, q)) (hp : p ≤ S.size) : upTo S q = upTo S p ++ l.flatMap crtB ∧ q ≤ S.size := upTo_many rCrt_up hp n l q h
theorem finM_some {S : ByteArray} {m m' : Lm} {p : Nat} (h : finM S m p = some m') : ¬ p < S.size ∧ fitsE m = true ∧ m' = m := by
  unfold finM at h
  split at h
  · cases h
  · next hp =>
    split at h
    · next hf => simp only [Option.some.injEq] at h; exact ⟨hp, hf, h.symm⟩
    · cases h
theorem up_end {S : ByteArray} {p : Nat} (h : ¬ p < S.size) (hp : p ≤ S.size) : upTo S p = S.data.toList := by rw [show p = S.size by omega, upTo_size]
theorem smallE_of {e : Int} {l : List ByteArray} (h : setMay l = true) : smallE ⟨e, l⟩ := by
  have := setMay_small h
  exact ⟨by simp only; omega, fun w hw => by have := this.2 w hw; omega⟩
theorem smallE_0 (e : Int) : smallE ⟨e, []⟩ := ⟨by simp, fun w hw => by simp at hw⟩
theorem decP2_up {S : ByteArray} {mo me : Int} {m : Lm} (h : decP2 S mo me = some m) : msgB m = S.data.toList ∧ fitsE m = true ∧ smallM m ∧ S.size ≤ 4000 := by
  unfold decP2 at h
  split at h
  · cases h
  · next hsz =>
  obtain ⟨k, p, h1, h⟩ := bd_some h
  have b1 := rNum_st h1 (Nat.zero_le _)
  have u1 := upTo_num h1
  have e0 : upTo S 0 = [] := rfl
  rw [e0, List.nil_append] at u1
  have bsz : S.size ≤ 4000 := by omega
  have c0 : ∀ x ∈ ([] : List Crt), smallC x := fun x hx => by simp at hx
  unfold dKind at h
  split at h
  · next hk =>
    subst hk
    obtain ⟨g, p2, h2, h⟩ := bd_some h
    obtain ⟨n, p3, h3, h⟩ := bd_some h
    obtain ⟨l, p4, h4, h⟩ := bd_some h
    obtain ⟨hp, hf, rfl⟩ := finM_some h
    have b2 := rNum_st h2 b1
    have b3 := rNum_st h3 b2
    obtain ⟨u4, b4⟩ := crts_up h4 b3
    have hl := rMany_len h4
    have hg := rNum_most h2
    have hn := rNum_most h3
    refine ⟨?_, hf, ⟨by show g < 65536; omega, smallE_0 0, Nat.zero_le _, by show l.length ≤ 1000; omega, fun c hc => by obtain ⟨a, b, e⟩ := hl.2 c hc; exact (rCrt_fit e).2⟩, bsz⟩
    rw [← up_end hp b4, u4, upTo_num h3, upTo_num h2, u1]
    simp [msgB, crtsB, hl.1]
  · split at h
    · next hk =>
      subst hk
      obtain ⟨g, p2, h2, h⟩ := bd_some h
      obtain ⟨s, p3, h3, h⟩ := bd_some h
      obtain ⟨o, p4, h4, h⟩ := bd_some h
      obtain ⟨a, p5, h5, h⟩ := bd_some h
      obtain ⟨z, p6, h6, h⟩ := bd_some h
      have b2 := rNum_st h2 b1
      have b3 := rNum_st h3 b2
      have b4 := rNum_st h4 b3
      have b5 := rNum_st h5 b4
      have b6 := rNum_st h6 b5
      have hg := rNum_most h2
      split at h
      · next ha =>
        obtain ⟨e, p7, h7, h⟩ := bd_some h
        obtain ⟨l, p8, h8, h⟩ := bd_some h
        obtain ⟨hp, hf, rfl⟩ := finM_some h
        have b7 := rNum_st h7 b6
        obtain ⟨u8, hm, _, b8⟩ := upTo_set h8
        refine ⟨?_, hf, ⟨by show g < 65536; omega, smallE_of hm, Nat.zero_le _, Nat.zero_le _, c0⟩, bsz⟩
        rw [← up_end hp b8, u8, upTo_num h7, upTo_num h6, upTo_num h5, upTo_num h4, upTo_num h3, upTo_num h2, u1]
        have ha' : (2 : Int) ≤ (a : Int) := by omega
        simp [msgB, askB, ha', List.append_assoc]
      · next ha =>
        obtain ⟨hp, hf, rfl⟩ := finM_some h
        refine ⟨?_, hf, ⟨by show g < 65536; omega, smallE_0 0, Nat.zero_le _, Nat.zero_le _, c0⟩, bsz⟩
        rw [← up_end hp b6, upTo_num h6, upTo_num h5, upTo_num h4, upTo_num h3, upTo_num h2, u1]
        have ha' : ¬ (2 : Int) ≤ (a : Int) := by omega
        simp [msgB, askB, ha', List.append_assoc]
    · split at h
      · next hk =>
        subst hk
        obtain ⟨g, p2, h2, h⟩ := bd_some h
        obtain ⟨s, p3, h3, h⟩ := bd_some h
        obtain ⟨e, p4, h4, h⟩ := bd_some h
        obtain ⟨v, p5, h5, h⟩ := bd_some h
        obtain ⟨hp, hf, rfl⟩ := finM_some h
        have b2 := rNum_st h2 b1
        have b3 := rNum_st h3 b2
        have b4 := rNum_st h4 b3
        have b5 := rNum_st h5 b4
        have hg := rNum_most h2
        refine ⟨?_, hf, ⟨by show g < 65536; omega, smallE_0 0, Nat.zero_le _, Nat.zero_le _, c0⟩, bsz⟩
        rw [← up_end hp b5, upTo_num h5, upTo_num h4, upTo_num h3, upTo_num h2, u1]
        simp [msgB, List.append_assoc]
      · split at h
        · next hk =>
          subst hk
          obtain ⟨w, p2, h2, h⟩ := bd_some h
          obtain ⟨hp, hf, rfl⟩ := finM_some h
          have b2 := (rWord_le h2).2.1
          have hw := wordMay_le (rWord_le h2).2.2.1
          refine ⟨?_, hf, ⟨by show (0 : Nat) < 65536; omega, smallE_0 0, by show w.size ≤ 1000; omega, Nat.zero_le _, c0⟩, bsz⟩
          rw [← up_end hp b2, upTo_word h2, u1]
          simp [msgB]
        · split at h
          · next hk =>
            subst hk
            obtain ⟨n, p3, h3, h⟩ := bd_some h
            obtain ⟨l, p4, h4, h⟩ := bd_some h
            obtain ⟨hp, hf, rfl⟩ := finM_some h
            have b3 := rNum_st h3 b1
            obtain ⟨u4, b4⟩ := crts_up h4 b3
            have hl := rMany_len h4
            have hn := rNum_most h3
            refine ⟨?_, hf, ⟨by show (0 : Nat) < 65536; omega, smallE_0 0, Nat.zero_le _, by show l.length ≤ 1000; omega, fun c hc => by obtain ⟨a, b, e⟩ := hl.2 c hc; exact (rCrt_fit e).2⟩, bsz⟩
            rw [← up_end hp b4, u4, upTo_num h3, u1]
            simp [msgB, crtsB, hl.1]
          · cases h
theorem certsOk_all {l : List Crt} (h : certsOk l = true) : l.length ≤ 8 ∧ ∀ c ∈ l, checkE c = 0 := by
  simp only [certsOk, Bool.and_eq_true, decide_eq_true_eq, List.all_eq_true] at h
  exact h
end Go.Proofs.Ytpjlkefadnbgdaa

/- Messages: what is the same, and the small functions, over the abstract code. -/
namespace Go.Proofs.Ytpjlkefadnbgdaa
set_option linter.unusedSimpArgs false
set_option linter.unusedVariables false
open Go.RowKit Go.Lib

theorem certsC_at {l : List Crt} {i : Nat} (h : i < l.length) : (certsC l).drop ((i : Int).toNat * 7) = .int .i64 l[i].kind :: .int .u16 l[i].signer :: .str l[i].speaker :: .lst .ro l[i].words.length (l[i].words.map .str) :: .int .i64 l[i].since :: .int .i64 l[i].till :: .int .i64 l[i].serial :: (certsC l).drop ((i + 1) * 7) := by
  rw [show (i : Int).toNat = i by omega, certsC_drop h]
  rfl
theorem sameE_iff {a b : Crt} : sameE a b = true ↔ a = b := by
  obtain ⟨a1, a2, a3, a4, a5, a6, a7⟩ := a
  obtain ⟨b1, b2, b3, b4, b5, b6, b7⟩ := b
  simp [sameE]
def sameLs : List Crt → List Crt → Bool
  | [], [] => true
  | x :: a, y :: b => sameE x y && sameLs a b
  | _, _ => false
theorem sameLs_iff : ∀ {a b : List Crt}, sameLs a b = true ↔ a = b
  | [], [] => by simp [sameLs]
  | [], y :: b => by simp [sameLs]
  | x :: a, [] => by simp [sameLs]
  | x :: a, y :: b => by simp [sameLs, sameE_iff, sameLs_iff]
def sameQ (a b : Rqs) : Bool := decide (a.object = b.object ∧ a.op = b.op ∧ a.arg = b.arg ∧ a.ent.op = b.ent.op ∧ a.ent.who = b.ent.who)
theorem sameQ_iff {a b : Rqs} : sameQ a b = true ↔ a = b := by
  obtain ⟨a1, a2, a3, a4, a5⟩ := a
  obtain ⟨b1, b2, b3, b4, b5⟩ := b
  simp [sameQ]
def sameM (a b : Lm) : Bool := decide (a.kind = b.kind ∧ a.chan = b.chan ∧ a.seq = b.seq ∧ a.err = b.err ∧ a.value = b.value ∧ a.word = b.word) && (sameQ a.ask b.ask && sameLs a.certs b.certs)
theorem sameM_iff {a b : Lm} : sameM a b = true ↔ a = b := by
  obtain ⟨a1, a2, a3, a4, a5, a6, a7, a8⟩ := a
  obtain ⟨b1, b2, b3, b4, b5, b6, b7, b8⟩ := b
  simp only [sameM, Bool.and_eq_true, decide_eq_true_eq, sameQ_iff, sameLs_iff, Lm.mk.injEq]
  constructor
  · rintro ⟨⟨h1, h2, h3, h4, h5, h6⟩, h7, h8⟩; exact ⟨h1, h2, h3, h7, h4, h5, h6, h8⟩
  · rintro ⟨h1, h2, h3, h7, h4, h5, h6, h8⟩; exact ⟨⟨h1, h2, h3, h4, h5, h6⟩, h7, h8⟩
theorem take_same {a b : List Crt} (h : a.length = b.length) {i : Nat} (hi : i < a.length) (h1 : a.take i = b.take i) (h2 : a[i] = b[i]'(by omega)) : a.take (i + 1) = b.take (i + 1) := by
  rw [List.take_succ_eq_append_getElem hi, List.take_succ_eq_append_getElem (show i < b.length by omega), h1, h2]
theorem end_get2 (h : Hp) (x y : Option (Bool × List AV)) : ((h ++ [x]) ++ [y])[h.length]? = some x := by simp
theorem end_len2 (h : Hp) (x : Option (Bool × List AV)) : (h ++ [x]).length = h.length + 1 := by simp
theorem end_get1 (h : Hp) (x y : Option (Bool × List AV)) : ((h ++ [x]) ++ [y])[h.length + 1]? = some y := by simp
theorem end_set1 (h : Hp) (x y z : Option (Bool × List AV)) : ((h ++ [x]) ++ [y]).set (h.length + 1) z = (h ++ [x]) ++ [z] := by simp
set_option maxRecDepth 100000 in
set_option maxHeartbeats 4000000 in
theorem p_eqf (a b : List Crt) (ha : a.length ≤ 9223372036854775807) (hw : ∀ c ∈ a, c.words.length ≤ 9223372036854775807) : PCalls Try.prog 24 [.lst .ro a.length (certsC a), .lst .ro b.length (certsC b), .fn 25 []] (.bool (sameLs a b)) := by
  refine pcalls_of (by simp [free.frees, free, frees_certsC]) rfl (acalls_of mixed J_slices_EqualFunc_api_Cert_api_Cert_api_Cert_api_Cert_ok (Nat.le_of_ble_eq_true rfl) ?_); simp only [J_slices_EqualFunc_api_Cert_api_Cert_api_Cert_api_Cert, wk,if_true,if_false,forall_const,implies_true,ne_eq,eq_self,Nat.reduceEqDiff,Nat.reduceAdd,Nat.reduceMul,Nat.reduceSub,Nat.reduceLeDiff,Nat.reduceLT,Int.reduceEq,Int.reduceLT,Int.reduceLE,Int.reduceAdd,Int.reduceSub,Int.reduceMul,Int.reduceNeg,Int.reduceNe,reduceCtorEq,Int.reduceToNat,↓reduceIte]
  refine ⟨fun h => bool_eq ?_, fun h => ?_⟩
  · cases hs : sameLs a b with
    | false => rfl
    | true => rw [sameLs_iff] at hs; subst hs; simp at h
  have hl : a.length = b.length := by omega
  refine W_loop (fun n fr h => ∃ i : Nat, i ≤ a.length ∧ n = a.length - i ∧ a.take i = b.take i ∧ fr = [(1, .lst .ro b.length (certsC b)), (2, .fn 25 []), (15, .lst .ro a.length (certsC a)), (16, .int .i64 a.length), (17, .int .i64 i)]) a.length ⟨0, by omega, by omega, by simp, rfl⟩ ?_
  rintro n fr h' ⟨i, hi, rfl, htk, rfl⟩
  simp only [J_slices_EqualFunc_api_Cert_api_Cert_api_Cert_api_Cert_j2, wk,if_true,if_false,forall_const,implies_true,ne_eq,eq_self,Nat.reduceEqDiff,Nat.reduceAdd,Nat.reduceMul,Nat.reduceSub,Nat.reduceLeDiff,Nat.reduceLT,Int.reduceEq,Int.reduceLT,Int.reduceLE,Int.reduceAdd,Int.reduceSub,Int.reduceMul,Int.reduceNeg,Int.reduceNe,reduceCtorEq,Int.reduceToNat,↓reduceIte]
  refine ⟨fun hlt => ?_, fun hge => ?_⟩
  · have hil : i < a.length := by omega
    have hd := certsC_at hil
    have hd2 := certsC_at (show i < b.length by omega)
    have q := p_csame a[i] (b[i]'(by omega)) (hw _ (List.getElem_mem hil))
    simp only [vC, cC] at q
    have hin : ((0 ≤ (i : Int)) ∧ (i : Int) < (a.length : Int)) = True := by simp; omega
    have hin2 : ((0 ≤ (i : Int)) ∧ (i : Int) < (b.length : Int)) = True := by simp; omega
    simp only [hin, hin2, hd, hd2, true_and, end_get2, end_len2, end_get1, end_set1, wk,if_true,if_false,forall_const,implies_true,ne_eq,eq_self,Nat.reduceEqDiff,Nat.reduceAdd,Nat.reduceMul,Nat.reduceSub,Nat.reduceLeDiff,Nat.reduceLT,Int.reduceEq,Int.reduceLT,Int.reduceLE,Int.reduceAdd,Int.reduceSub,Int.reduceMul,Int.reduceNeg,Int.reduceNe,reduceCtorEq,Int.reduceToNat,↓reduceIte]
    refine PCalls.use (q) ?_; simp only [wk,if_true,if_false,forall_const,implies_true,ne_eq,eq_self,Nat.reduceEqDiff,Nat.reduceAdd,Nat.reduceMul,Nat.reduceSub,Nat.reduceLeDiff,Nat.reduceLT,Int.reduceEq,Int.reduceLT,Int.reduceLE,Int.reduceAdd,Int.reduceSub,Int.reduceMul,Int.reduceNeg,Int.reduceNe,reduceCtorEq,Int.reduceToNat,↓reduceIte]
    refine ⟨fun hf => bool_eq ?_, fun ht => ⟨inR_of (by omega) (by omega), a.length - (i + 1), by omega, i + 1, by omega, rfl, take_same hl hil htk (sameE_iff.1 ht), by simp⟩⟩
    cases hs : sameLs a b with
    | false => rfl
    | true =>
      rw [sameLs_iff] at hs; subst hs
      rw [sameE_iff.2 rfl] at hf; cases hf
  · have : i = a.length := by omega
    subst this
    simp only [J_slices_EqualFunc_api_Cert_api_Cert_api_Cert_api_Cert_j1, wk,if_true,if_false,forall_const,implies_true,ne_eq,eq_self,Nat.reduceEqDiff,Nat.reduceAdd,Nat.reduceMul,Nat.reduceSub,Nat.reduceLeDiff,Nat.reduceLT,Int.reduceEq,Int.reduceLT,Int.reduceLE,Int.reduceAdd,Int.reduceSub,Int.reduceMul,Int.reduceNeg,Int.reduceNe,reduceCtorEq,Int.reduceToNat,↓reduceIte]
    refine bool_eq ?_
    symm
    rw [sameLs_iff]
    rw [List.take_length, List.take_of_length_le (by omega)] at htk
    exact htk
theorem p_lchan (g : Nat) (h : g < 65536) : PCalls Try.prog 28 [.int .u16 g] (.bool (decide (16384 ≤ g ∧ g < 24576))) := by
  refine pcalls_of (by first | rfl | simp [free, free.frees, frees_str, frees_u8, frees_u16]) (by first | rfl | simp [free, free.frees, frees_str, frees_u8, frees_u16]) (acalls_of mixed J_letter_channel_ok (Nat.le_of_ble_eq_true rfl) ?_); simp only [J_letter_channel, wk,if_true,if_false,forall_const,implies_true,ne_eq,eq_self,Nat.reduceEqDiff,Nat.reduceAdd,Nat.reduceMul,Nat.reduceSub,Nat.reduceLeDiff,Nat.reduceLT,Int.reduceEq,Int.reduceLT,Int.reduceLE,Int.reduceAdd,Int.reduceSub,Int.reduceMul,Int.reduceNeg,Int.reduceNe,reduceCtorEq,Int.reduceToNat,↓reduceIte]
  refine bool_eq ?_
  have e : IntKind.u16.wrap ((g : Int).tdiv 8192) = ((g / 8192 : Nat) : Int) := by
    rw [IntKind.wrap_u16, Int.tdiv_eq_ediv_of_nonneg (by omega)]
    omega
  rw [e]
  apply decide_eq_decide.2
  omega
theorem p_lnum (n : Int) : PCalls Try.prog 31 [.int .i64 n] (.bool (numOk n)) := by
  refine pcalls_of (by first | rfl | simp [free, free.frees, frees_str, frees_u8, frees_u16]) (by first | rfl | simp [free, free.frees, frees_str, frees_u8, frees_u16]) (acalls_of mixed J_letter_number_ok (Nat.le_of_ble_eq_true rfl) ?_); simp only [J_letter_number, wk,if_true,if_false,forall_const,implies_true,ne_eq,eq_self,Nat.reduceEqDiff,Nat.reduceAdd,Nat.reduceMul,Nat.reduceSub,Nat.reduceLeDiff,Nat.reduceLT,Int.reduceEq,Int.reduceLT,Int.reduceLE,Int.reduceAdd,Int.reduceSub,Int.reduceMul,Int.reduceNeg,Int.reduceNe,reduceCtorEq,Int.reduceToNat,↓reduceIte]
  refine ⟨fun e => ?_, fun e => ?_⟩
  · congr 1; simp [numOk, e]
  · congr 1; simp [numOk, e]
set_option maxRecDepth 100000 in
set_option maxHeartbeats 4000000 in
theorem p_lask (a b : Rqs) (h : a.ent.who.length ≤ 9223372036854775807) : PCalls Try.prog 23 [vQ a, vQ b] (.bool (sameQ a b)) := by
  refine pcalls_of (by simp [free.frees, free_vQ]) rfl (acalls_of mixed J_letter_sameAsk_ok (Nat.le_of_ble_eq_true rfl) ?_); simp only [J_letter_sameAsk, vQ, qC, wk,if_true,if_false,forall_const,implies_true,ne_eq,eq_self,Nat.reduceEqDiff,Nat.reduceAdd,Nat.reduceMul,Nat.reduceSub,Nat.reduceLeDiff,Nat.reduceLT,Int.reduceEq,Int.reduceLT,Int.reduceLE,Int.reduceAdd,Int.reduceSub,Int.reduceMul,Int.reduceNeg,Int.reduceNe,reduceCtorEq,Int.reduceToNat,↓reduceIte]
  have q := p_sequal a.ent.who b.ent.who h
  repeat' (first | (refine PCalls.use q ?_; simp only [wk,if_true,if_false,forall_const,implies_true,ne_eq,eq_self,Nat.reduceEqDiff,Nat.reduceAdd,Nat.reduceMul,Nat.reduceSub,Nat.reduceLeDiff,Nat.reduceLT,Int.reduceEq,Int.reduceLT,Int.reduceLE,Int.reduceAdd,Int.reduceSub,Int.reduceMul,Int.reduceNeg,Int.reduceNe,reduceCtorEq,Int.reduceToNat,↓reduceIte]) | (refine And.intro ?_ ?_) | intro _)
  all_goals first
    | (refine bool_eq ?_; simp_all [sameQ]; done)
set_option maxRecDepth 100000 in
set_option maxHeartbeats 4000000 in
theorem p_lsame (a b : Lm) (ha : a.ask.ent.who.length ≤ 9223372036854775807) (hc : a.certs.length ≤ 9223372036854775807) (hw : ∀ c ∈ a.certs, c.words.length ≤ 9223372036854775807) : PCalls Try.prog 10 [vM a, vM b] (.bool (sameM a b)) := by
  refine pcalls_of (by simp [free.frees, free_vM]) rfl (acalls_of mixed J_letter_Same_ok (Nat.le_of_ble_eq_true rfl) ?_); simp only [J_letter_Same, vM, mC, wk,if_true,if_false,forall_const,implies_true,ne_eq,eq_self,Nat.reduceEqDiff,Nat.reduceAdd,Nat.reduceMul,Nat.reduceSub,Nat.reduceLeDiff,Nat.reduceLT,Int.reduceEq,Int.reduceLT,Int.reduceLE,Int.reduceAdd,Int.reduceSub,Int.reduceMul,Int.reduceNeg,Int.reduceNe,reduceCtorEq,Int.reduceToNat,↓reduceIte]
  have q := p_lask a.ask b.ask ha
  simp only [vQ, qC] at q
  have q2 := p_eqf a.certs b.certs hc hw
  repeat' (first | (refine PCalls.use q ?_; simp only [wk,if_true,if_false,forall_const,implies_true,ne_eq,eq_self,Nat.reduceEqDiff,Nat.reduceAdd,Nat.reduceMul,Nat.reduceSub,Nat.reduceLeDiff,Nat.reduceLT,Int.reduceEq,Int.reduceLT,Int.reduceLE,Int.reduceAdd,Int.reduceSub,Int.reduceMul,Int.reduceNeg,Int.reduceNe,reduceCtorEq,Int.reduceToNat,↓reduceIte]) | (refine PCalls.use q2 ?_; simp only [wk,if_true,if_false,forall_const,implies_true,ne_eq,eq_self,Nat.reduceEqDiff,Nat.reduceAdd,Nat.reduceMul,Nat.reduceSub,Nat.reduceLeDiff,Nat.reduceLT,Int.reduceEq,Int.reduceLT,Int.reduceLE,Int.reduceAdd,Int.reduceSub,Int.reduceMul,Int.reduceNeg,Int.reduceNe,reduceCtorEq,Int.reduceToNat,↓reduceIte]) | (refine And.intro ?_ ?_) | intro _)
  all_goals first
    | (refine bool_eq ?_; simp_all [sameM]; done)
    | (refine bool_eq ?_; simp_all [sameM]; omega)
end Go.Proofs.Ytpjlkefadnbgdaa

/- Messages: whether a message's parts are as its kind has them, over the abstract code. -/
namespace Go.Proofs.Ytpjlkefadnbgdaa
set_option linter.unusedSimpArgs false
set_option linter.unusedVariables false
open Go.RowKit Go.Lib

theorem rdps_certs : ∀ l : List Crt, rdps (certsC l) = certsC l
  | [] => rdps_nil
  | c :: l => by
    have ih := rdps_certs l
    simp only [certsC, List.flatMap_cons, cC, List.cons_append, List.nil_append, rdpw, rdps_str] at ih ⊢
    rw [ih]
def bareE (m : Lm) : Bool := decide (m.chan = 0 ∧ m.seq = 0 ∧ m.err = 0 ∧ m.value = 0 ∧ m.word = ⟨#[]⟩) && (noAsk m.ask && decide (m.certs = []))
theorem bareE_eq (m : Lm) : sameM m ⟨m.kind, 0, 0, zeroQ, 0, 0, ⟨#[]⟩, []⟩ = bareE m := by
  rw [Bool.eq_iff_iff, sameM_iff]
  obtain ⟨a1, a2, a3, ⟨a4, a5, a6, ⟨a7, a8⟩⟩, a9, a10, a11, a12⟩ := m
  simp only [bareE, noAsk, zeroQ, Lm.mk.injEq, Rqs.mk.injEq, Ent.mk.injEq, Bool.and_eq_true, decide_eq_true_eq]
  constructor
  · rintro ⟨_, h1, h2, ⟨h3, h4, h5, h6, h7⟩, h8, h9, h10, h11⟩; exact ⟨⟨h1, h2, h8, h9, h10⟩, ⟨h3, h4, h5, h6, h7⟩, h11⟩
  · rintro ⟨⟨h1, h2, h8, h9, h10⟩, ⟨h3, h4, h5, h6, h7⟩, h11⟩; exact ⟨trivial, h1, h2, ⟨h3, h4, h5, h6, h7⟩, h8, h9, h10, h11⟩
theorem p_lbare (m : Lm) (hs : smallM m) : PCalls Try.prog 30 [vM m] (.bool (bareE m)) := by
  refine pcalls_of (by simp [free.frees, free_vM]) rfl (acalls_of mixed J_letter_bare_ok (Nat.le_of_ble_eq_true rfl) ?_); simp only [J_letter_bare, vM, mC, wk,if_true,if_false,forall_const,implies_true,ne_eq,eq_self,Nat.reduceEqDiff,Nat.reduceAdd,Nat.reduceMul,Nat.reduceSub,Nat.reduceLeDiff,Nat.reduceLT,Int.reduceEq,Int.reduceLT,Int.reduceLE,Int.reduceAdd,Int.reduceSub,Int.reduceMul,Int.reduceNeg,Int.reduceNe,reduceCtorEq,Int.reduceToNat,↓reduceIte]
  have q := p_lsame m ⟨m.kind, 0, 0, zeroQ, 0, 0, ⟨#[]⟩, []⟩ (by have := hs.2.1.1; omega) (by have := hs.2.2.2.1; omega) (fun c hc => by have := (hs.2.2.2.2 c hc).2.2.1; omega)
  rw [bareE_eq] at q
  simp only [vM, mC, zeroQ, List.length_nil, List.map_nil, certsC, List.flatMap_nil] at q
  refine PCalls.use (v := .bool (bareE m)) (PCalls.argd ?_) ?_
  · simp only [rdpw, rdps_str, rdps_certs]; exact q
  · simp only [wk,if_true,if_false,forall_const,implies_true,ne_eq,eq_self,Nat.reduceEqDiff,Nat.reduceAdd,Nat.reduceMul,Nat.reduceSub,Nat.reduceLeDiff,Nat.reduceLT,Int.reduceEq,Int.reduceLT,Int.reduceLE,Int.reduceAdd,Int.reduceSub,Int.reduceMul,Int.reduceNeg,Int.reduceNe,reduceCtorEq,Int.reduceToNat,↓reduceIte]
set_option maxRecDepth 100000 in
set_option maxHeartbeats 4000000 in
theorem p_lcerts (l : List Crt) (hl : l.length ≤ 9223372036854775807) (hs : ∀ c ∈ l, smallC c) : PCalls Try.prog 29 [.lst .ro l.length (certsC l)] (.bool (certsOk l)) := by
  refine pcalls_of (by simp [free.frees, free, frees_certsC]) rfl (acalls_of mixed J_letter_certs_ok (Nat.le_of_ble_eq_true rfl) ?_); simp only [J_letter_certs, wk,if_true,if_false,forall_const,implies_true,ne_eq,eq_self,Nat.reduceEqDiff,Nat.reduceAdd,Nat.reduceMul,Nat.reduceSub,Nat.reduceLeDiff,Nat.reduceLT,Int.reduceEq,Int.reduceLT,Int.reduceLE,Int.reduceAdd,Int.reduceSub,Int.reduceMul,Int.reduceNeg,Int.reduceNe,reduceCtorEq,Int.reduceToNat,↓reduceIte]
  refine ⟨fun h => bool_eq (by simp only [certsOk]; rw [decide_eq_false (by omega)]; rfl), fun h => ?_⟩
  refine W_loop (fun n fr h => ∃ i : Nat, i ≤ l.length ∧ n = l.length - i ∧ (∀ c ∈ l.take i, checkE c = 0) ∧ fr = [(8, .lst .ro l.length (certsC l)), (9, .int .i64 l.length), (10, .int .i64 i)]) l.length ⟨0, by omega, by omega, by simp, rfl⟩ ?_
  rintro n fr h' ⟨i, hi, rfl, hall, rfl⟩
  simp only [J_letter_certs_j2, wk,if_true,if_false,forall_const,implies_true,ne_eq,eq_self,Nat.reduceEqDiff,Nat.reduceAdd,Nat.reduceMul,Nat.reduceSub,Nat.reduceLeDiff,Nat.reduceLT,Int.reduceEq,Int.reduceLT,Int.reduceLE,Int.reduceAdd,Int.reduceSub,Int.reduceMul,Int.reduceNeg,Int.reduceNe,reduceCtorEq,Int.reduceToNat,↓reduceIte]
  refine ⟨fun hlt => ?_, fun hge => ?_⟩
  · have hil : i < l.length := by omega
    have hd := certsC_at hil
    have hmem := List.getElem_mem hil
    have q := p_check l[i] (hs _ hmem)
    simp only [vC, cC] at q
    have hin : ((0 ≤ (i : Int)) ∧ (i : Int) < (l.length : Int)) = True := by simp; omega
    simp only [hin, hd, true_and, wk,if_true,if_false,forall_const,implies_true,ne_eq,eq_self,Nat.reduceEqDiff,Nat.reduceAdd,Nat.reduceMul,Nat.reduceSub,Nat.reduceLeDiff,Nat.reduceLT,Int.reduceEq,Int.reduceLT,Int.reduceLE,Int.reduceAdd,Int.reduceSub,Int.reduceMul,Int.reduceNeg,Int.reduceNe,reduceCtorEq,Int.reduceToNat,↓reduceIte]
    refine PCalls.use (q) ?_; simp only [wk,if_true,if_false,forall_const,implies_true,ne_eq,eq_self,Nat.reduceEqDiff,Nat.reduceAdd,Nat.reduceMul,Nat.reduceSub,Nat.reduceLeDiff,Nat.reduceLT,Int.reduceEq,Int.reduceLT,Int.reduceLE,Int.reduceAdd,Int.reduceSub,Int.reduceMul,Int.reduceNeg,Int.reduceNe,reduceCtorEq,Int.reduceToNat,↓reduceIte]
    refine ⟨fun hne => bool_eq ?_, fun he => ⟨inR_of (by omega) (by omega), l.length - (i + 1), by omega, i + 1, by omega, rfl, fun c hc => ?_, by simp⟩⟩
    · cases hb : certsOk l with
      | false => rfl
      | true => exact absurd ((certsOk_all hb).2 _ hmem) hne
    · rw [List.take_succ_eq_append_getElem hil, List.mem_append, List.mem_singleton] at hc
      rcases hc with hc | rfl
      · exact hall c hc
      · exact he
  · rw [List.take_of_length_le (by omega)] at hall
    simp only [J_letter_certs_j1, wk,if_true,if_false,forall_const,implies_true,ne_eq,eq_self,Nat.reduceEqDiff,Nat.reduceAdd,Nat.reduceMul,Nat.reduceSub,Nat.reduceLeDiff,Nat.reduceLT,Int.reduceEq,Int.reduceLT,Int.reduceLE,Int.reduceAdd,Int.reduceSub,Int.reduceMul,Int.reduceNeg,Int.reduceNe,reduceCtorEq,Int.reduceToNat,↓reduceIte]
    refine bool_eq ?_
    symm
    simp only [certsOk, Bool.and_eq_true, decide_eq_true_eq, List.all_eq_true]
    exact ⟨by omega, hall⟩
set_option maxRecDepth 100000 in
set_option maxHeartbeats 8000000 in
theorem p_right (m : Lm) (hs : smallM m) : PCalls Try.prog 15 [vM m] (.bool (fitsE m)) := by
  refine pcalls_of (by simp [free.frees, free_vM]) rfl (acalls_of mixed J_letter_right_ok (Nat.le_of_ble_eq_true rfl) ?_); simp only [J_letter_right, vM, mC, wk,if_true,if_false,forall_const,implies_true,ne_eq,eq_self,Nat.reduceEqDiff,Nat.reduceAdd,Nat.reduceMul,Nat.reduceSub,Nat.reduceLeDiff,Nat.reduceLT,Int.reduceEq,Int.reduceLT,Int.reduceLE,Int.reduceAdd,Int.reduceSub,Int.reduceMul,Int.reduceNeg,Int.reduceNe,reduceCtorEq,Int.reduceToNat,↓reduceIte]
  have qc : PCalls Try.prog 28 [.int .u16 m.chan] (.bool (chanOk m)) := p_lchan m.chan hs.1
  have qn := p_lnum m.seq
  have qv := p_lnum m.value
  have qa := p_asks m.ask hs.2.1
  simp only [vQ, qC] at qa
  have qw := p_wmay m.word (by have := hs.2.2.1; omega)
  have ql := p_lcerts m.certs (by have := hs.2.2.2.1; omega) hs.2.2.2.2
  have s0 : ∀ x ∈ ([] : List Crt), smallC x := fun x hx => by simp at hx
  have b1 : PCalls Try.prog 30 [.agg [.int .i64 m.kind, .int .u16 0, .int .i64 m.seq, .int .i64 m.ask.object, .int .i64 m.ask.op, .int .i64 m.ask.arg, .int .i64 m.ask.ent.op, .lst .ro m.ask.ent.who.length (m.ask.ent.who.map .str), .int .i64 m.err, .int .i64 m.value, .str m.word, .lst .clip 0 []]] (.bool (bareE ⟨m.kind, 0, m.seq, m.ask, m.err, m.value, m.word, []⟩)) := by
    refine PCalls.argd ?_
    have q := p_lbare ⟨m.kind, 0, m.seq, m.ask, m.err, m.value, m.word, []⟩ ⟨(by show (0 : Nat) < 65536; decide), hs.2.1, hs.2.2.1, by simp, s0⟩
    simp only [vM, mC, List.length_nil, certsC, List.flatMap_nil] at q
    simp only [rdpw, rdps_str, rdps_certs]; exact q
  have b2 : PCalls Try.prog 30 [.agg [.int .i64 m.kind, .int .u16 0, .int .i64 0, .int .i64 0, .int .i64 0, .int .i64 0, .int .i64 0, .lst .clip 0 [], .int .i64 m.err, .int .i64 m.value, .str m.word, .lst .ro m.certs.length (certsC m.certs)]] (.bool (bareE ⟨m.kind, 0, 0, zeroQ, m.err, m.value, m.word, m.certs⟩)) := by
    refine PCalls.argd ?_
    have q := p_lbare ⟨m.kind, 0, 0, zeroQ, m.err, m.value, m.word, m.certs⟩ ⟨(by show (0 : Nat) < 65536; decide), smallE_0 0, hs.2.2.1, hs.2.2.2.1, hs.2.2.2.2⟩
    simp only [vM, mC, zeroQ, List.length_nil, List.map_nil] at q
    simp only [rdpw, rdps_str, rdps_certs]; exact q
  have b3 : PCalls Try.prog 30 [.agg [.int .i64 m.kind, .int .u16 0, .int .i64 0, .int .i64 m.ask.object, .int .i64 m.ask.op, .int .i64 m.ask.arg, .int .i64 m.ask.ent.op, .lst .ro m.ask.ent.who.length (m.ask.ent.who.map .str), .int .i64 0, .int .i64 0, .str m.word, .lst .ro m.certs.length (certsC m.certs)]] (.bool (bareE ⟨m.kind, 0, 0, m.ask, 0, 0, m.word, m.certs⟩)) := by
    have q := p_lbare ⟨m.kind, 0, 0, m.ask, 0, 0, m.word, m.certs⟩ ⟨(by show (0 : Nat) < 65536; decide), hs.2.1, hs.2.2.1, hs.2.2.2.1, hs.2.2.2.2⟩
    exact q
  have b4 : PCalls Try.prog 30 [.agg [.int .i64 m.kind, .int .u16 m.chan, .int .i64 m.seq, .int .i64 m.ask.object, .int .i64 m.ask.op, .int .i64 m.ask.arg, .int .i64 m.ask.ent.op, .lst .ro m.ask.ent.who.length (m.ask.ent.who.map .str), .int .i64 m.err, .int .i64 m.value, .str ⟨#[]⟩, .lst .ro m.certs.length (certsC m.certs)]] (.bool (bareE ⟨m.kind, m.chan, m.seq, m.ask, m.err, m.value, ⟨#[]⟩, m.certs⟩)) := by
    have q := p_lbare ⟨m.kind, m.chan, m.seq, m.ask, m.err, m.value, ⟨#[]⟩, m.certs⟩ ⟨hs.1, hs.2.1, Nat.zero_le _, hs.2.2.2.1, hs.2.2.2.2⟩
    exact q
  have b5 : PCalls Try.prog 30 [.agg [.int .i64 m.kind, .int .u16 m.chan, .int .i64 m.seq, .int .i64 m.ask.object, .int .i64 m.ask.op, .int .i64 m.ask.arg, .int .i64 m.ask.ent.op, .lst .ro m.ask.ent.who.length (m.ask.ent.who.map .str), .int .i64 m.err, .int .i64 m.value, .str m.word, .lst .clip 0 []]] (.bool (bareE ⟨m.kind, m.chan, m.seq, m.ask, m.err, m.value, m.word, []⟩)) := by
    refine PCalls.argd ?_
    have q := p_lbare ⟨m.kind, m.chan, m.seq, m.ask, m.err, m.value, m.word, []⟩ ⟨hs.1, hs.2.1, hs.2.2.1, by simp, s0⟩
    simp only [vM, mC, List.length_nil, certsC, List.flatMap_nil] at q
    simp only [rdpw, rdps_str, rdps_certs]; exact q
  have cnil : certsOk [] = true := rfl
  refine ⟨fun k1 => ?_, fun k1 => ⟨fun k2 => ?_, fun k2 => ⟨fun k3 => ?_, fun k3 => ⟨fun k4 => ?_, fun k4 => ⟨fun k5 => ?_, fun k5 => ?_⟩⟩⟩⟩⟩
  all_goals repeat' (first | (refine PCalls.use qc ?_; simp only [wk,if_true,if_false,forall_const,implies_true,ne_eq,eq_self,Nat.reduceEqDiff,Nat.reduceAdd,Nat.reduceMul,Nat.reduceSub,Nat.reduceLeDiff,Nat.reduceLT,Int.reduceEq,Int.reduceLT,Int.reduceLE,Int.reduceAdd,Int.reduceSub,Int.reduceMul,Int.reduceNeg,Int.reduceNe,reduceCtorEq,Int.reduceToNat,↓reduceIte]) | (refine PCalls.use qn ?_; simp only [wk,if_true,if_false,forall_const,implies_true,ne_eq,eq_self,Nat.reduceEqDiff,Nat.reduceAdd,Nat.reduceMul,Nat.reduceSub,Nat.reduceLeDiff,Nat.reduceLT,Int.reduceEq,Int.reduceLT,Int.reduceLE,Int.reduceAdd,Int.reduceSub,Int.reduceMul,Int.reduceNeg,Int.reduceNe,reduceCtorEq,Int.reduceToNat,↓reduceIte]) | (refine PCalls.use qv ?_; simp only [wk,if_true,if_false,forall_const,implies_true,ne_eq,eq_self,Nat.reduceEqDiff,Nat.reduceAdd,Nat.reduceMul,Nat.reduceSub,Nat.reduceLeDiff,Nat.reduceLT,Int.reduceEq,Int.reduceLT,Int.reduceLE,Int.reduceAdd,Int.reduceSub,Int.reduceMul,Int.reduceNeg,Int.reduceNe,reduceCtorEq,Int.reduceToNat,↓reduceIte]) | (refine PCalls.use qa ?_; simp only [wk,if_true,if_false,forall_const,implies_true,ne_eq,eq_self,Nat.reduceEqDiff,Nat.reduceAdd,Nat.reduceMul,Nat.reduceSub,Nat.reduceLeDiff,Nat.reduceLT,Int.reduceEq,Int.reduceLT,Int.reduceLE,Int.reduceAdd,Int.reduceSub,Int.reduceMul,Int.reduceNeg,Int.reduceNe,reduceCtorEq,Int.reduceToNat,↓reduceIte]) | (refine PCalls.use qw ?_; simp only [wk,if_true,if_false,forall_const,implies_true,ne_eq,eq_self,Nat.reduceEqDiff,Nat.reduceAdd,Nat.reduceMul,Nat.reduceSub,Nat.reduceLeDiff,Nat.reduceLT,Int.reduceEq,Int.reduceLT,Int.reduceLE,Int.reduceAdd,Int.reduceSub,Int.reduceMul,Int.reduceNeg,Int.reduceNe,reduceCtorEq,Int.reduceToNat,↓reduceIte]) | (refine PCalls.use ql ?_; simp only [wk,if_true,if_false,forall_const,implies_true,ne_eq,eq_self,Nat.reduceEqDiff,Nat.reduceAdd,Nat.reduceMul,Nat.reduceSub,Nat.reduceLeDiff,Nat.reduceLT,Int.reduceEq,Int.reduceLT,Int.reduceLE,Int.reduceAdd,Int.reduceSub,Int.reduceMul,Int.reduceNeg,Int.reduceNe,reduceCtorEq,Int.reduceToNat,↓reduceIte]) | (refine PCalls.use b1 ?_; simp only [wk,if_true,if_false,forall_const,implies_true,ne_eq,eq_self,Nat.reduceEqDiff,Nat.reduceAdd,Nat.reduceMul,Nat.reduceSub,Nat.reduceLeDiff,Nat.reduceLT,Int.reduceEq,Int.reduceLT,Int.reduceLE,Int.reduceAdd,Int.reduceSub,Int.reduceMul,Int.reduceNeg,Int.reduceNe,reduceCtorEq,Int.reduceToNat,↓reduceIte]) | (refine PCalls.use b2 ?_; simp only [wk,if_true,if_false,forall_const,implies_true,ne_eq,eq_self,Nat.reduceEqDiff,Nat.reduceAdd,Nat.reduceMul,Nat.reduceSub,Nat.reduceLeDiff,Nat.reduceLT,Int.reduceEq,Int.reduceLT,Int.reduceLE,Int.reduceAdd,Int.reduceSub,Int.reduceMul,Int.reduceNeg,Int.reduceNe,reduceCtorEq,Int.reduceToNat,↓reduceIte]) | (refine PCalls.use b3 ?_; simp only [wk,if_true,if_false,forall_const,implies_true,ne_eq,eq_self,Nat.reduceEqDiff,Nat.reduceAdd,Nat.reduceMul,Nat.reduceSub,Nat.reduceLeDiff,Nat.reduceLT,Int.reduceEq,Int.reduceLT,Int.reduceLE,Int.reduceAdd,Int.reduceSub,Int.reduceMul,Int.reduceNeg,Int.reduceNe,reduceCtorEq,Int.reduceToNat,↓reduceIte]) | (refine PCalls.use b4 ?_; simp only [wk,if_true,if_false,forall_const,implies_true,ne_eq,eq_self,Nat.reduceEqDiff,Nat.reduceAdd,Nat.reduceMul,Nat.reduceSub,Nat.reduceLeDiff,Nat.reduceLT,Int.reduceEq,Int.reduceLT,Int.reduceLE,Int.reduceAdd,Int.reduceSub,Int.reduceMul,Int.reduceNeg,Int.reduceNe,reduceCtorEq,Int.reduceToNat,↓reduceIte]) | (refine PCalls.use b5 ?_; simp only [wk,if_true,if_false,forall_const,implies_true,ne_eq,eq_self,Nat.reduceEqDiff,Nat.reduceAdd,Nat.reduceMul,Nat.reduceSub,Nat.reduceLeDiff,Nat.reduceLT,Int.reduceEq,Int.reduceLT,Int.reduceLE,Int.reduceAdd,Int.reduceSub,Int.reduceMul,Int.reduceNeg,Int.reduceNe,reduceCtorEq,Int.reduceToNat,↓reduceIte]) | (refine And.intro ?_ ?_) | intro _)
  all_goals first
    | (refine bool_eq ?_; rw [Bool.eq_iff_iff]; simp_all [fitsE, bareE, noAsk, replyNo, zeroQ]; done)
    | (refine bool_eq ?_; rw [Bool.eq_iff_iff]; simp_all [fitsE, bareE, noAsk, replyNo, zeroQ]; constructor <;> (intro h; simp_all))
    | (refine bool_eq ?_; rw [Bool.eq_iff_iff]; simp_all [fitsE, bareE, noAsk, replyNo, zeroQ]; intros; omega)
end Go.Proofs.Ytpjlkefadnbgdaa

/- Messages are written, over the abstract code. -/
namespace Go.Proofs.Ytpjlkefadnbgdaa
set_option linter.unusedSimpArgs false
set_option linter.unusedVariables false
open Go.RowKit Go.Lib

theorem onum_ok {h : Hp} {id : Nat} {bs : List UInt8} (z : Int) (ho : h[id]? = some (oObj (false, bs))) (hl : bs.length ≤ 1000000000) (hz : 0 ≤ z ∧ z ≤ 4611686018427387904) :
    ACalls Try.prog 17 [.ptr id 0, .int .i64 z] h (fun a h' => a = .tup [] ∧ h' = h.set id (oObj (false, bs ++ num z.toNat))) := by
  have := a_onum (s := (false, bs)) z ho (by simp only; omega)
  have hk : okNum z = true := by simp [okNum, hz]
  rw [hk, wri_yes] at this
  exact this
theorem oset_ok {h : Hp} {id : Nat} {bs : List UInt8} (l : List ByteArray) (ho : h[id]? = some (oObj (false, bs))) (hl : bs.length ≤ 1000000) (hm : setMay l = true) :
    ACalls Try.prog 53 [.ptr id 0, .lst .ro l.length (l.map .str)] h (fun a h' => a = .tup [] ∧ h' = h.set id (oObj (false, bs ++ setBytes l))) := by
  obtain ⟨w16, ws⟩ := setMay_small hm
  have := a_oset (s := (false, bs)) l ho (by simp only; omega) (by omega) (fun x hx => by have := ws x hx; omega)
  rw [hm, wri_yes] at this
  exact this
theorem otext_ok {h : Hp} {id : Nat} {bs : List UInt8} (x : List UInt8) (ho : h[id]? = some (oObj (false, bs))) (hl : bs.length ≤ 100000000) (hx : x.length ≤ 1000000) :
    ACalls Try.prog 52 [.ptr id 0, .str ⟨x.toArray⟩] h (fun a h' => a = .tup [] ∧ h' = h.set id (oObj (false, bs ++ (num x.length ++ x)))) := by
  have := a_otext (s := (false, bs)) ⟨x.toArray⟩ ho (by simp only; omega) (by rw [ba_size]; omega)
  rw [ba_size, wri_yes] at this
  exact this
theorem oword_ok {h : Hp} {id : Nat} {bs : List UInt8} (x : ByteArray) (ho : h[id]? = some (oObj (false, bs))) (hl : bs.length ≤ 1000000) (hm : wordMay x = true) :
    ACalls Try.prog 36 [.ptr id 0, .str x] h (fun a h' => a = .tup [] ∧ h' = h.set id (oObj (false, bs ++ wordBytes x))) := by
  have := a_oword (s := (false, bs)) x ho (by simp only; omega) (by have := wordMay_le hm; omega)
  rw [hm, wri_yes] at this
  exact this
abbrev fO : AV := .fnb 17 [.ptr 1 0]
def Wrote (x0 : Option (Bool × List AV)) (bs : List UInt8) (ex : Hp) (add : List UInt8) (a : AV) (h' : Hp) : Prop := a = .tup [] ∧ ∃ ey, h' = x0 :: oObj (false, bs ++ add) :: (ex ++ ey)
theorem asks_ok {q : Rqs} (h : asksE q = true) : 0 ≤ q.object ∧ q.object < 4 ∧ 0 ≤ q.op ∧ q.op ≤ 3 ∧ 0 ≤ q.arg ∧ q.arg ≤ 4611686018427387904 ∧ (2 ≤ q.op → mayEnt q.ent = true) := by
  unfold asksE at h
  split at h
  · next ho =>
    simp only [numOk, decide_eq_true_eq] at ho
    split at h
    · exact ⟨by omega, by omega, by omega, by omega, by omega, by omega, fun h2 => by omega⟩
    · split at h
      · exact ⟨by omega, by omega, by omega, by omega, by omega, by omega, fun h2 => by omega⟩
      · split at h
        · simp only [Bool.and_eq_true] at h
          exact ⟨by omega, by omega, by omega, by omega, by omega, by omega, fun h2 => h.2⟩
        · simp at h
  · simp at h
theorem num9 {z : Int} (h : z ≤ 4611686018427387904) : (num z.toNat).length ≤ 9 := (num_len9 (by omega)).2
set_option maxRecDepth 100000 in
set_option maxHeartbeats 4000000 in
theorem a_wask {x0 : Option (Bool × List AV)} {bs : List UInt8} {ex : Hp} (q : Rqs) (hq : asksE q = true) (hl : bs.length ≤ 100000) :
    ACalls Try.prog 35 [.ptr 1 0, fO, vQ q] (x0 :: oObj (false, bs) :: ex) (Wrote x0 bs ex (askB q)) := by
  obtain ⟨o1, o2, p1, p2, z1, z2, hm⟩ := asks_ok hq
  refine acalls_of mixed J_letter_writeAsk_ok (Nat.le_of_ble_eq_true rfl) ?_; simp only [J_letter_writeAsk, vQ, qC, fO, wk,if_true,if_false,forall_const,implies_true,ne_eq,eq_self,Nat.reduceEqDiff,Nat.reduceAdd,Nat.reduceMul,Nat.reduceSub,Nat.reduceLeDiff,Nat.reduceLT,Int.reduceEq,Int.reduceLT,Int.reduceLE,Int.reduceAdd,Int.reduceSub,Int.reduceMul,Int.reduceNeg,Int.reduceNe,reduceCtorEq,Int.reduceToNat,↓reduceIte]
  have l1 := num9 (z := q.object) (by omega)
  have l2 := num9 (z := q.op) (by omega)
  have l3 := num9 (z := q.arg) (by omega)
  refine ACalls.use (onum_ok (bs := bs) q.object rfl (by omega) (by omega)) ?_; rintro _ _ ⟨rfl, rfl⟩; simp only [wk,if_true,if_false,forall_const,implies_true,ne_eq,eq_self,Nat.reduceEqDiff,Nat.reduceAdd,Nat.reduceMul,Nat.reduceSub,Nat.reduceLeDiff,Nat.reduceLT,Int.reduceEq,Int.reduceLT,Int.reduceLE,Int.reduceAdd,Int.reduceSub,Int.reduceMul,Int.reduceNeg,Int.reduceNe,reduceCtorEq,Int.reduceToNat,↓reduceIte]
  refine ACalls.use (onum_ok (bs := bs ++ num q.object.toNat) q.op rfl (by simp; omega) (by omega)) ?_; rintro _ _ ⟨rfl, rfl⟩; simp only [wk,if_true,if_false,forall_const,implies_true,ne_eq,eq_self,Nat.reduceEqDiff,Nat.reduceAdd,Nat.reduceMul,Nat.reduceSub,Nat.reduceLeDiff,Nat.reduceLT,Int.reduceEq,Int.reduceLT,Int.reduceLE,Int.reduceAdd,Int.reduceSub,Int.reduceMul,Int.reduceNeg,Int.reduceNe,reduceCtorEq,Int.reduceToNat,↓reduceIte]
  refine ACalls.use (onum_ok (bs := bs ++ num q.object.toNat ++ num q.op.toNat) q.arg rfl (by simp; omega) (by omega)) ?_; rintro _ _ ⟨rfl, rfl⟩; simp only [wk,if_true,if_false,forall_const,implies_true,ne_eq,eq_self,Nat.reduceEqDiff,Nat.reduceAdd,Nat.reduceMul,Nat.reduceSub,Nat.reduceLeDiff,Nat.reduceLT,Int.reduceEq,Int.reduceLT,Int.reduceLE,Int.reduceAdd,Int.reduceSub,Int.reduceMul,Int.reduceNeg,Int.reduceNe,reduceCtorEq,Int.reduceToNat,↓reduceIte]
  have two : 2 ≤ q.op → ACalls Try.prog 53 [.ptr 1 0, .lst .ro q.ent.who.length (q.ent.who.map .str)] (x0 :: oObj (false, bs ++ num q.object.toNat ++ num q.op.toNat ++ num q.arg.toNat ++ num q.ent.op.toNat) :: (ex ++ [some (false, [.int .i64 q.object, .int .i64 q.op, .int .i64 q.arg, .int .i64 q.ent.op, .lst .ro q.ent.who.length (q.ent.who.map .str)])])) (fun a h' => a = .tup [] ∧ h' = x0 :: oObj (false, bs ++ askB q) :: (ex ++ [some (false, [.int .i64 q.object, .int .i64 q.op, .int .i64 q.arg, .int .i64 q.ent.op, .lst .ro q.ent.who.length (q.ent.who.map .str)])])) := fun h2 => by
    obtain ⟨m1, m2, m3⟩ := mayEnt_ok (hm h2)
    have l4 := num9 (z := q.ent.op) (by omega)
    have := oset_ok (h := x0 :: oObj (false, bs ++ num q.object.toNat ++ num q.op.toNat ++ num q.arg.toNat ++ num q.ent.op.toNat) :: (ex ++ [some (false, [.int .i64 q.object, .int .i64 q.op, .int .i64 q.arg, .int .i64 q.ent.op, .lst .ro q.ent.who.length (q.ent.who.map .str)])])) (id := 1) q.ent.who rfl (by simp; omega) m3
    refine this.mono fun a h' hh => ⟨hh.1, hh.2.trans ?_⟩
    simp [askB, h2, List.append_assoc]
  have fin2 : 2 ≤ q.op → ACalls Try.prog 17 [.ptr 1 0, .int .i64 q.ent.op] (x0 :: oObj (false, bs ++ num q.object.toNat ++ num q.op.toNat ++ num q.arg.toNat) :: (ex ++ [some (false, [.int .i64 q.object, .int .i64 q.op, .int .i64 q.arg, .int .i64 q.ent.op, .lst .ro q.ent.who.length (q.ent.who.map .str)])])) (fun a h' => a = .tup [] ∧ h' = x0 :: oObj (false, bs ++ num q.object.toNat ++ num q.op.toNat ++ num q.arg.toNat ++ num q.ent.op.toNat) :: (ex ++ [some (false, [.int .i64 q.object, .int .i64 q.op, .int .i64 q.arg, .int .i64 q.ent.op, .lst .ro q.ent.who.length (q.ent.who.map .str)])])) := fun h2 => by
    obtain ⟨m1, m2, m3⟩ := mayEnt_ok (hm h2)
    exact onum_ok (bs := bs ++ num q.object.toNat ++ num q.op.toNat ++ num q.arg.toNat) (h := _ :: _ :: _) (id := 1) q.ent.op rfl (by simp; omega) (by omega)
  refine ⟨fun c => ⟨fun c2 => ?_, fun c2 => ?_⟩, fun c => ?_⟩
  · refine ACalls.use (fin2 (by omega)) ?_; rintro _ _ ⟨rfl, rfl⟩; simp only [wk,if_true,if_false,forall_const,implies_true,ne_eq,eq_self,Nat.reduceEqDiff,Nat.reduceAdd,Nat.reduceMul,Nat.reduceSub,Nat.reduceLeDiff,Nat.reduceLT,Int.reduceEq,Int.reduceLT,Int.reduceLE,Int.reduceAdd,Int.reduceSub,Int.reduceMul,Int.reduceNeg,Int.reduceNe,reduceCtorEq,Int.reduceToNat,↓reduceIte]
    refine ACalls.use (two (by omega)) ?_; rintro _ _ ⟨rfl, rfl⟩; simp only [wk,if_true,if_false,forall_const,implies_true,ne_eq,eq_self,Nat.reduceEqDiff,Nat.reduceAdd,Nat.reduceMul,Nat.reduceSub,Nat.reduceLeDiff,Nat.reduceLT,Int.reduceEq,Int.reduceLT,Int.reduceLE,Int.reduceAdd,Int.reduceSub,Int.reduceMul,Int.reduceNeg,Int.reduceNe,reduceCtorEq,Int.reduceToNat,↓reduceIte]
    exact ⟨rfl, _, rfl⟩
  · refine ⟨rfl, [some (false, qC q)], ?_⟩
    have : ¬ 2 ≤ q.op := by omega
    simp only [askB, if_neg this, List.append_nil, List.append_assoc]
    rfl
  · refine ACalls.use (fin2 (by omega)) ?_; rintro _ _ ⟨rfl, rfl⟩; simp only [wk,if_true,if_false,forall_const,implies_true,ne_eq,eq_self,Nat.reduceEqDiff,Nat.reduceAdd,Nat.reduceMul,Nat.reduceSub,Nat.reduceLeDiff,Nat.reduceLT,Int.reduceEq,Int.reduceLT,Int.reduceLE,Int.reduceAdd,Int.reduceSub,Int.reduceMul,Int.reduceNeg,Int.reduceNe,reduceCtorEq,Int.reduceToNat,↓reduceIte]
    refine ACalls.use (two (by omega)) ?_; rintro _ _ ⟨rfl, rfl⟩; simp only [wk,if_true,if_false,forall_const,implies_true,ne_eq,eq_self,Nat.reduceEqDiff,Nat.reduceAdd,Nat.reduceMul,Nat.reduceSub,Nat.reduceLeDiff,Nat.reduceLT,Int.reduceEq,Int.reduceLT,Int.reduceLE,Int.reduceAdd,Int.reduceSub,Int.reduceMul,Int.reduceNeg,Int.reduceNe,reduceCtorEq,Int.reduceToNat,↓reduceIte]
    exact ⟨rfl, _, rfl⟩
theorem crts_len {l : List Crt} (hc : ∀ c ∈ l, checkE c = 0) (hs : ∀ c ∈ l, smallC c) : (l.flatMap crtB).length ≤ 1000018 * l.length := flat_len l (fun c hcm => by
  have h1 := bytes_bound (hc c hcm) (hs c hcm)
  have h2 := (num_len9 (n := (encBytes c).length) (by omega)).2
  simp only [crtB, List.length_append]
  omega)
set_option maxRecDepth 100000 in
set_option maxHeartbeats 4000000 in
theorem a_wcerts {x0 : Option (Bool × List AV)} {bs : List UInt8} {ex : Hp} (l : List Crt) (hc : ∀ c ∈ l, checkE c = 0) (hs : ∀ c ∈ l, smallC c) (h8 : l.length ≤ 8) (hl : bs.length ≤ 100000) :
    ACalls Try.prog 34 [.ptr 1 0, fO, .lst .ro l.length (certsC l)] (x0 :: oObj (false, bs) :: ex) (Wrote x0 bs ex (crtsB l)) := by
  refine acalls_of mixed J_letter_writeCerts_ok (Nat.le_of_ble_eq_true rfl) ?_; simp only [J_letter_writeCerts, fO, wk,if_true,if_false,forall_const,implies_true,ne_eq,eq_self,Nat.reduceEqDiff,Nat.reduceAdd,Nat.reduceMul,Nat.reduceSub,Nat.reduceLeDiff,Nat.reduceLT,Int.reduceEq,Int.reduceLT,Int.reduceLE,Int.reduceAdd,Int.reduceSub,Int.reduceMul,Int.reduceNeg,Int.reduceNe,reduceCtorEq,Int.reduceToNat,↓reduceIte]
  refine ACalls.use (onum_ok (bs := bs) (l.length : Int) rfl (by omega) (by omega)) ?_; rintro _ _ ⟨rfl, rfl⟩; simp only [wk,if_true,if_false,forall_const,implies_true,ne_eq,eq_self,Nat.reduceEqDiff,Nat.reduceAdd,Nat.reduceMul,Nat.reduceSub,Nat.reduceLeDiff,Nat.reduceLT,Int.reduceEq,Int.reduceLT,Int.reduceLE,Int.reduceAdd,Int.reduceSub,Int.reduceMul,Int.reduceNeg,Int.reduceNe,reduceCtorEq,Int.reduceToNat,↓reduceIte]
  simp only [Int.toNat_natCast]
  have ln : (num l.length).length ≤ 9 := (num_len9 (by omega)).2
  refine W_loop (fun n fr h' => ∃ (i : Nat) (ez : Hp), i ≤ l.length ∧ n = l.length - i ∧ (∃ ey, ez = ex ++ ey) ∧ h' = x0 :: oObj (false, bs ++ (num l.length ++ (l.take i).flatMap crtB)) :: ez ∧ fr = [(0, .ptr 1 0), (14, .lst .ro l.length (certsC l)), (15, .int .i64 l.length), (16, .int .i64 i)]) l.length ⟨0, ex, by omega, by omega, ⟨[], by simp⟩, by simp, rfl⟩ ?_
  rintro n fr h' ⟨i, ez, hi, rfl, ⟨ey, hey⟩, rfl, rfl⟩
  simp only [J_letter_writeCerts_j1, wk,if_true,if_false,forall_const,implies_true,ne_eq,eq_self,Nat.reduceEqDiff,Nat.reduceAdd,Nat.reduceMul,Nat.reduceSub,Nat.reduceLeDiff,Nat.reduceLT,Int.reduceEq,Int.reduceLT,Int.reduceLE,Int.reduceAdd,Int.reduceSub,Int.reduceMul,Int.reduceNeg,Int.reduceNe,reduceCtorEq,Int.reduceToNat,↓reduceIte]
  refine ⟨fun hlt => ?_, fun hge => ?_⟩
  · have hil : i < l.length := by omega
    have hd := certsC_at hil
    have hmem := List.getElem_mem hil
    have q := p_cenc l[i] (hs _ hmem)
    unfold encV at q
    rw [if_pos (hc _ hmem)] at q
    simp only [vC, cC] at q
    have hin : ((0 ≤ (i : Int)) ∧ (i : Int) < (l.length : Int)) = True := by simp; omega
    have hb := bytes_bound (hc _ hmem) (hs _ hmem)
    have hpre : ((l.take i).flatMap crtB).length ≤ 1000018 * 8 := by
      have := crts_len (l := l.take i) (fun c hcm => hc c (List.mem_of_mem_take hcm)) (fun c hcm => hs c (List.mem_of_mem_take hcm))
      have h2 : (l.take i).length ≤ 8 := by simp; omega
      omega
    obtain ⟨B, hB⟩ : ∃ B, B = bs ++ (num l.length ++ (l.take i).flatMap crtB) := ⟨_, rfl⟩
    have lB : B.length ≤ 10000000 := by rw [hB]; simp only [List.length_append]; omega
    rw [← hB]
    simp only [hin, hd, true_and, wk,if_true,if_false,forall_const,implies_true,ne_eq,eq_self,Nat.reduceEqDiff,Nat.reduceAdd,Nat.reduceMul,Nat.reduceSub,Nat.reduceLeDiff,Nat.reduceLT,Int.reduceEq,Int.reduceLT,Int.reduceLE,Int.reduceAdd,Int.reduceSub,Int.reduceMul,Int.reduceNeg,Int.reduceNe,reduceCtorEq,Int.reduceToNat,↓reduceIte]
    refine PCalls.use (q) ?_; simp only [wk,if_true,if_false,forall_const,implies_true,ne_eq,eq_self,Nat.reduceEqDiff,Nat.reduceAdd,Nat.reduceMul,Nat.reduceSub,Nat.reduceLeDiff,Nat.reduceLT,Int.reduceEq,Int.reduceLT,Int.reduceLE,Int.reduceAdd,Int.reduceSub,Int.reduceMul,Int.reduceNeg,Int.reduceNe,reduceCtorEq,Int.reduceToNat,↓reduceIte]
    refine ACalls.use (otext_ok (bs := B) (encBytes l[i]) rfl (by omega) (by omega)) ?_; rintro _ _ ⟨rfl, rfl⟩; simp only [wk,if_true,if_false,forall_const,implies_true,ne_eq,eq_self,Nat.reduceEqDiff,Nat.reduceAdd,Nat.reduceMul,Nat.reduceSub,Nat.reduceLeDiff,Nat.reduceLT,Int.reduceEq,Int.reduceLT,Int.reduceLE,Int.reduceAdd,Int.reduceSub,Int.reduceMul,Int.reduceNeg,Int.reduceNe,reduceCtorEq,Int.reduceToNat,↓reduceIte]
    refine ⟨inR_of (by omega) (by omega), l.length - (i + 1), by omega, i + 1, ez ++ [some (true, cC l[i])], by omega, rfl, ⟨ey ++ [some (true, cC l[i])], by rw [hey, List.append_assoc]⟩, ?_, by simp⟩
    rw [hB, List.take_succ_eq_append_getElem hil, List.flatMap_append]
    simp only [List.flatMap_cons, List.flatMap_nil, List.append_nil, crtB, List.append_assoc]
    rfl
  · have : i = l.length := by omega
    subst this
    subst hey
    exact ⟨rfl, ey, by rw [List.take_length]; rfl⟩
theorem fits_get {m : Lm} (h : fitsE m = true) : certsOk m.certs = true ∧ 1 ≤ m.kind ∧ m.kind ≤ 5 ∧ (m.kind = 2 → numOk m.seq = true ∧ asksE m.ask = true) ∧ (m.kind = 3 → numOk m.seq = true ∧ 0 ≤ m.err ∧ m.err ≤ 100 ∧ numOk m.value = true) ∧ (m.kind = 4 → wordMay m.word = true) := by
  simp only [fitsE, Bool.and_eq_true] at h
  obtain ⟨hc, h⟩ := h
  refine ⟨hc, ?_⟩
  split at h
  · exact ⟨by omega, by omega, fun _ => by omega, fun _ => by omega, fun _ => by omega⟩
  · split at h
    · simp only [Bool.and_eq_true] at h
      exact ⟨by omega, by omega, fun _ => ⟨h.2.1, h.2.2.1⟩, fun _ => by omega, fun _ => by omega⟩
    · split at h
      · simp only [Bool.and_eq_true, decide_eq_true_eq] at h
        exact ⟨by omega, by omega, fun _ => by omega, fun _ => ⟨h.2.1, h.2.2.2.1.1, h.2.2.2.1.2, h.2.2.2.2.1⟩, fun _ => by omega⟩
      · split at h
        · simp only [Bool.and_eq_true] at h
          exact ⟨by omega, by omega, fun _ => by omega, fun _ => by omega, fun _ => h.2.2.2.1⟩
        · split at h
          · exact ⟨by omega, by omega, fun _ => by omega, fun _ => by omega, fun _ => by omega⟩
          · simp at h
theorem numOk_get {z : Int} (h : numOk z = true) : 0 ≤ z ∧ z ≤ 4611686018427387904 := by simpa [numOk] using h
set_option maxRecDepth 100000 in
set_option maxHeartbeats 8000000 in
theorem a_write {x0 : Option (Bool × List AV)} {bs : List UInt8} {ex : Hp} (m : Lm) (hm : fitsE m = true) (hs : smallM m) (hl : bs.length ≤ 1000) :
    ACalls Try.prog 16 [.ptr 1 0, fO, vM m] (x0 :: oObj (false, bs) :: ex) (Wrote x0 bs ex (msgB m)) := by
  refine acalls_of mixed J_letter_write_ok (Nat.le_of_ble_eq_true rfl) ?_; simp only [J_letter_write, vM, mC, fO, wk,if_true,if_false,forall_const,implies_true,ne_eq,eq_self,Nat.reduceEqDiff,Nat.reduceAdd,Nat.reduceMul,Nat.reduceSub,Nat.reduceLeDiff,Nat.reduceLT,Int.reduceEq,Int.reduceLT,Int.reduceLE,Int.reduceAdd,Int.reduceSub,Int.reduceMul,Int.reduceNeg,Int.reduceNe,reduceCtorEq,Int.reduceToNat,↓reduceIte]
  obtain ⟨hc, g1, g5, f2, f3, f4⟩ := fits_get hm
  obtain ⟨hc8, hca⟩ := certsOk_all hc
  have hw : IntKind.i64.wrap (m.chan : Int) = m.chan := wrap_small (by omega) (by have := hs.1; omega)
  have lk := num9 (z := m.kind) (by omega)
  have lc : (num m.chan).length ≤ 9 := (num_len9 (by have := hs.1; omega)).2
  refine ACalls.use (onum_ok (bs := bs) m.kind rfl (by omega) (by omega)) ?_; rintro _ _ ⟨rfl, rfl⟩; simp only [wk,if_true,if_false,forall_const,implies_true,ne_eq,eq_self,Nat.reduceEqDiff,Nat.reduceAdd,Nat.reduceMul,Nat.reduceSub,Nat.reduceLeDiff,Nat.reduceLT,Int.reduceEq,Int.reduceLT,Int.reduceLE,Int.reduceAdd,Int.reduceSub,Int.reduceMul,Int.reduceNeg,Int.reduceNe,reduceCtorEq,Int.reduceToNat,↓reduceIte]
  refine ⟨fun k1 => ?_, fun k1 => ⟨fun k5 => ?_, fun k5 => ⟨fun k2 => ?_, fun k2 => ⟨fun k3 => ?_, fun k3 => ⟨fun k4 => ?_, fun k4 => by omega⟩⟩⟩⟩⟩
  · simp only [hw]
    refine ACalls.use (onum_ok (bs := bs ++ num m.kind.toNat) (m.chan : Int) rfl (by simp; omega) (by have := hs.1; omega)) ?_; rintro _ _ ⟨rfl, rfl⟩; simp only [wk,if_true,if_false,forall_const,implies_true,ne_eq,eq_self,Nat.reduceEqDiff,Nat.reduceAdd,Nat.reduceMul,Nat.reduceSub,Nat.reduceLeDiff,Nat.reduceLT,Int.reduceEq,Int.reduceLT,Int.reduceLE,Int.reduceAdd,Int.reduceSub,Int.reduceMul,Int.reduceNeg,Int.reduceNe,reduceCtorEq,Int.reduceToNat,↓reduceIte]
    simp only [J_letter_write_j1, Int.toNat_natCast, wk,if_true,if_false,forall_const,implies_true,ne_eq,eq_self,Nat.reduceEqDiff,Nat.reduceAdd,Nat.reduceMul,Nat.reduceSub,Nat.reduceLeDiff,Nat.reduceLT,Int.reduceEq,Int.reduceLT,Int.reduceLE,Int.reduceAdd,Int.reduceSub,Int.reduceMul,Int.reduceNeg,Int.reduceNe,reduceCtorEq,Int.reduceToNat,↓reduceIte]
    refine ACalls.use (a_wcerts (bs := bs ++ num m.kind.toNat ++ num m.chan) m.certs hca hs.2.2.2.2 hc8 (by simp; omega)) ?_
    rintro _ _ ⟨rfl, ey, rfl⟩
    simp only [wk,if_true,if_false,forall_const,implies_true,ne_eq,eq_self,Nat.reduceEqDiff,Nat.reduceAdd,Nat.reduceMul,Nat.reduceSub,Nat.reduceLeDiff,Nat.reduceLT,Int.reduceEq,Int.reduceLT,Int.reduceLE,Int.reduceAdd,Int.reduceSub,Int.reduceMul,Int.reduceNeg,Int.reduceNe,reduceCtorEq,Int.reduceToNat,↓reduceIte]
    exact ⟨rfl, [some (false, mC m)] ++ ey, by simp [msgB, k1, mC, List.append_assoc]⟩
  · simp only [J_letter_write_j1, wk,if_true,if_false,forall_const,implies_true,ne_eq,eq_self,Nat.reduceEqDiff,Nat.reduceAdd,Nat.reduceMul,Nat.reduceSub,Nat.reduceLeDiff,Nat.reduceLT,Int.reduceEq,Int.reduceLT,Int.reduceLE,Int.reduceAdd,Int.reduceSub,Int.reduceMul,Int.reduceNeg,Int.reduceNe,reduceCtorEq,Int.reduceToNat,↓reduceIte]
    refine ACalls.use (a_wcerts (bs := bs ++ num m.kind.toNat) m.certs hca hs.2.2.2.2 hc8 (by simp; omega)) ?_
    rintro _ _ ⟨rfl, ey, rfl⟩
    simp only [wk,if_true,if_false,forall_const,implies_true,ne_eq,eq_self,Nat.reduceEqDiff,Nat.reduceAdd,Nat.reduceMul,Nat.reduceSub,Nat.reduceLeDiff,Nat.reduceLT,Int.reduceEq,Int.reduceLT,Int.reduceLE,Int.reduceAdd,Int.reduceSub,Int.reduceMul,Int.reduceNeg,Int.reduceNe,reduceCtorEq,Int.reduceToNat,↓reduceIte]
    exact ⟨rfl, [some (false, mC m)] ++ ey, by simp [msgB, k5, mC, List.append_assoc]⟩
  · obtain ⟨hsq, ha⟩ := f2 k2
    have ns := numOk_get hsq
    have l2 := num9 (z := m.seq) (by omega)
    simp only [hw]
    refine ACalls.use (onum_ok (bs := bs ++ num m.kind.toNat) (m.chan : Int) rfl (by simp; omega) (by have := hs.1; omega)) ?_; rintro _ _ ⟨rfl, rfl⟩; simp only [wk,if_true,if_false,forall_const,implies_true,ne_eq,eq_self,Nat.reduceEqDiff,Nat.reduceAdd,Nat.reduceMul,Nat.reduceSub,Nat.reduceLeDiff,Nat.reduceLT,Int.reduceEq,Int.reduceLT,Int.reduceLE,Int.reduceAdd,Int.reduceSub,Int.reduceMul,Int.reduceNeg,Int.reduceNe,reduceCtorEq,Int.reduceToNat,↓reduceIte]
    simp only [Int.toNat_natCast]
    refine ACalls.use (onum_ok (bs := bs ++ num m.kind.toNat ++ num m.chan) m.seq rfl (by simp; omega) (by omega)) ?_; rintro _ _ ⟨rfl, rfl⟩; simp only [wk,if_true,if_false,forall_const,implies_true,ne_eq,eq_self,Nat.reduceEqDiff,Nat.reduceAdd,Nat.reduceMul,Nat.reduceSub,Nat.reduceLeDiff,Nat.reduceLT,Int.reduceEq,Int.reduceLT,Int.reduceLE,Int.reduceAdd,Int.reduceSub,Int.reduceMul,Int.reduceNeg,Int.reduceNe,reduceCtorEq,Int.reduceToNat,↓reduceIte]
    have qa := a_wask (x0 := x0) (bs := bs ++ num m.kind.toNat ++ num m.chan ++ num m.seq.toNat) (ex := ex ++ [some (false, mC m)]) m.ask ha (by simp; omega)
    simp only [vQ, qC, mC] at qa
    refine ACalls.use qa ?_
    rintro _ _ ⟨rfl, ey, rfl⟩
    simp only [wk,if_true,if_false,forall_const,implies_true,ne_eq,eq_self,Nat.reduceEqDiff,Nat.reduceAdd,Nat.reduceMul,Nat.reduceSub,Nat.reduceLeDiff,Nat.reduceLT,Int.reduceEq,Int.reduceLT,Int.reduceLE,Int.reduceAdd,Int.reduceSub,Int.reduceMul,Int.reduceNeg,Int.reduceNe,reduceCtorEq,Int.reduceToNat,↓reduceIte]
    exact ⟨rfl, [some (false, mC m)] ++ ey, by simp [msgB, k2, mC, List.append_assoc]⟩
  · obtain ⟨hsq, he0, he1, hv⟩ := f3 k3
    have ns := numOk_get hsq
    have nv := numOk_get hv
    have l2 := num9 (z := m.seq) (by omega)
    have l3 := num9 (z := m.err) (by omega)
    have l4 := num9 (z := m.value) (by omega)
    simp only [hw]
    refine ACalls.use (onum_ok (bs := bs ++ num m.kind.toNat) (m.chan : Int) rfl (by simp; omega) (by have := hs.1; omega)) ?_; rintro _ _ ⟨rfl, rfl⟩; simp only [wk,if_true,if_false,forall_const,implies_true,ne_eq,eq_self,Nat.reduceEqDiff,Nat.reduceAdd,Nat.reduceMul,Nat.reduceSub,Nat.reduceLeDiff,Nat.reduceLT,Int.reduceEq,Int.reduceLT,Int.reduceLE,Int.reduceAdd,Int.reduceSub,Int.reduceMul,Int.reduceNeg,Int.reduceNe,reduceCtorEq,Int.reduceToNat,↓reduceIte]
    simp only [Int.toNat_natCast]
    refine ACalls.use (onum_ok (bs := bs ++ num m.kind.toNat ++ num m.chan) m.seq rfl (by simp; omega) (by omega)) ?_; rintro _ _ ⟨rfl, rfl⟩; simp only [wk,if_true,if_false,forall_const,implies_true,ne_eq,eq_self,Nat.reduceEqDiff,Nat.reduceAdd,Nat.reduceMul,Nat.reduceSub,Nat.reduceLeDiff,Nat.reduceLT,Int.reduceEq,Int.reduceLT,Int.reduceLE,Int.reduceAdd,Int.reduceSub,Int.reduceMul,Int.reduceNeg,Int.reduceNe,reduceCtorEq,Int.reduceToNat,↓reduceIte]
    refine ACalls.use (onum_ok (bs := bs ++ num m.kind.toNat ++ num m.chan ++ num m.seq.toNat) m.err rfl (by simp; omega) (by omega)) ?_; rintro _ _ ⟨rfl, rfl⟩; simp only [wk,if_true,if_false,forall_const,implies_true,ne_eq,eq_self,Nat.reduceEqDiff,Nat.reduceAdd,Nat.reduceMul,Nat.reduceSub,Nat.reduceLeDiff,Nat.reduceLT,Int.reduceEq,Int.reduceLT,Int.reduceLE,Int.reduceAdd,Int.reduceSub,Int.reduceMul,Int.reduceNeg,Int.reduceNe,reduceCtorEq,Int.reduceToNat,↓reduceIte]
    refine ACalls.use (onum_ok (bs := bs ++ num m.kind.toNat ++ num m.chan ++ num m.seq.toNat ++ num m.err.toNat) m.value rfl (by simp; omega) (by omega)) ?_; rintro _ _ ⟨rfl, rfl⟩; simp only [wk,if_true,if_false,forall_const,implies_true,ne_eq,eq_self,Nat.reduceEqDiff,Nat.reduceAdd,Nat.reduceMul,Nat.reduceSub,Nat.reduceLeDiff,Nat.reduceLT,Int.reduceEq,Int.reduceLT,Int.reduceLE,Int.reduceAdd,Int.reduceSub,Int.reduceMul,Int.reduceNeg,Int.reduceNe,reduceCtorEq,Int.reduceToNat,↓reduceIte]
    exact ⟨rfl, [some (false, mC m)], by simp [msgB, k3, mC, List.append_assoc]⟩
  · refine ACalls.use (oword_ok (bs := bs ++ num m.kind.toNat) m.word rfl (by simp; omega) (f4 k4)) ?_; rintro _ _ ⟨rfl, rfl⟩; simp only [wk,if_true,if_false,forall_const,implies_true,ne_eq,eq_self,Nat.reduceEqDiff,Nat.reduceAdd,Nat.reduceMul,Nat.reduceSub,Nat.reduceLeDiff,Nat.reduceLT,Int.reduceEq,Int.reduceLT,Int.reduceLE,Int.reduceAdd,Int.reduceSub,Int.reduceMul,Int.reduceNeg,Int.reduceNe,reduceCtorEq,Int.reduceToNat,↓reduceIte]
    exact ⟨rfl, [some (false, mC m)], by simp [msgB, k4, mC, List.append_assoc]⟩
end Go.Proofs.Ytpjlkefadnbgdaa

/- Encode, May, Mac of messages, over the abstract code. -/
namespace Go.Proofs.Ytpjlkefadnbgdaa
set_option linter.unusedSimpArgs false
set_option linter.unusedVariables false
open Go.RowKit Go.Lib

def vEnc (m : Lm) : AV := .tup [.str (encMS m), .int .i64 (encMN m)]
set_option maxRecDepth 100000 in
set_option maxHeartbeats 4000000 in
theorem p_lenc (m : Lm) (hs : smallM m) : PCalls Try.prog 8 [vM m] (vEnc m) := by
  refine pcalls_of (by simp [free.frees, free_vM]) (by simp [vEnc, free, free.frees]) (acalls_of mixed J_letter_Encode_ok (Nat.le_of_ble_eq_true rfl) ?_); simp only [J_letter_Encode, vM, mC, wk,if_true,if_false,forall_const,implies_true,ne_eq,eq_self,Nat.reduceEqDiff,Nat.reduceAdd,Nat.reduceMul,Nat.reduceSub,Nat.reduceLeDiff,Nat.reduceLT,Int.reduceEq,Int.reduceLT,Int.reduceLE,Int.reduceAdd,Int.reduceSub,Int.reduceMul,Int.reduceNeg,Int.reduceNe,reduceCtorEq,Int.reduceToNat,↓reduceIte]
  have qr := p_right m hs
  simp only [vM, mC] at qr
  refine PCalls.use (qr) ?_; simp only [wk,if_true,if_false,forall_const,implies_true,ne_eq,eq_self,Nat.reduceEqDiff,Nat.reduceAdd,Nat.reduceMul,Nat.reduceSub,Nat.reduceLeDiff,Nat.reduceLT,Int.reduceEq,Int.reduceLT,Int.reduceLE,Int.reduceAdd,Int.reduceSub,Int.reduceMul,Int.reduceNeg,Int.reduceNe,reduceCtorEq,Int.reduceToNat,↓reduceIte]
  have hno : okM m = false → (.tup [.str ⟨#[]⟩, .int .i64 2] : AV) = vEnc m := fun e => by simp [vEnc, encMS, encMN, e]
  refine ⟨fun hf => hno (by simp [okM, hf]), fun hf => ?_⟩
  have qw := a_write (x0 := some (false, mC m)) (bs := []) (ex := []) m hf hs (by simp)
  simp only [vM, mC, fO, List.append_nil] at qw
  refine ACalls.use qw ?_
  rintro _ _ ⟨rfl, ey, rfl⟩
  simp only [wk,if_true,if_false,forall_const,implies_true,ne_eq,eq_self,Nat.reduceEqDiff,Nat.reduceAdd,Nat.reduceMul,Nat.reduceSub,Nat.reduceLeDiff,Nat.reduceLT,Int.reduceEq,Int.reduceLT,Int.reduceLE,Int.reduceAdd,Int.reduceSub,Int.reduceMul,Int.reduceNeg,Int.reduceNe,reduceCtorEq,Int.reduceToNat,↓reduceIte]
  refine ACalls.use (a_odone (s := (false, msgB m)) rfl) ?_; rintro _ _ ⟨rfl, rfl⟩; simp only [wk,if_true,if_false,forall_const,implies_true,ne_eq,eq_self,Nat.reduceEqDiff,Nat.reduceAdd,Nat.reduceMul,Nat.reduceSub,Nat.reduceLeDiff,Nat.reduceLT,Int.reduceEq,Int.reduceLT,Int.reduceLE,Int.reduceAdd,Int.reduceSub,Int.reduceMul,Int.reduceNeg,Int.reduceNe,reduceCtorEq,Int.reduceToNat,↓reduceIte]
  simp only [told, eI, wk,if_true,if_false,forall_const,implies_true,ne_eq,eq_self,Nat.reduceEqDiff,Nat.reduceAdd,Nat.reduceMul,Nat.reduceSub,Nat.reduceLeDiff,Nat.reduceLT,Int.reduceEq,Int.reduceLT,Int.reduceLE,Int.reduceAdd,Int.reduceSub,Int.reduceMul,Int.reduceNeg,Int.reduceNe,reduceCtorEq,Int.reduceToNat,↓reduceIte]
  rw [ba_size]
  refine ⟨fun hg => hno ?_, fun hg => ?_⟩
  · simp only [okM, Bool.and_eq_false_iff, decide_eq_false_iff_not]; right; omega
  · have : okM m = true := by simp only [okM, hf, Bool.true_and, decide_eq_true_eq]; omega
    simp [vEnc, encMS, encMN, this]
theorem p_lmay (m : Lm) (hs : smallM m) : PCalls Try.prog 12 [vM m] (.bool (okM m)) := by
  refine pcalls_of (by simp [free.frees, free_vM]) rfl (acalls_of mixed J_letter_May_ok (Nat.le_of_ble_eq_true rfl) ?_); simp only [J_letter_May, vM, mC, wk,if_true,if_false,forall_const,implies_true,ne_eq,eq_self,Nat.reduceEqDiff,Nat.reduceAdd,Nat.reduceMul,Nat.reduceSub,Nat.reduceLeDiff,Nat.reduceLT,Int.reduceEq,Int.reduceLT,Int.reduceLE,Int.reduceAdd,Int.reduceSub,Int.reduceMul,Int.reduceNeg,Int.reduceNe,reduceCtorEq,Int.reduceToNat,↓reduceIte]
  have q := p_lenc m hs
  simp only [vM, mC, vEnc] at q
  refine PCalls.use (q) ?_; simp only [wk,if_true,if_false,forall_const,implies_true,ne_eq,eq_self,Nat.reduceEqDiff,Nat.reduceAdd,Nat.reduceMul,Nat.reduceSub,Nat.reduceLeDiff,Nat.reduceLT,Int.reduceEq,Int.reduceLT,Int.reduceLE,Int.reduceAdd,Int.reduceSub,Int.reduceMul,Int.reduceNeg,Int.reduceNe,reduceCtorEq,Int.reduceToNat,↓reduceIte]
  refine bool_eq ?_
  unfold encMN
  split
  · next h => rw [h]; rfl
  · next h => simp only [Bool.not_eq_true] at h; rw [h]; rfl
def macC (m : Lm) : List AV := [.int .u16 m.chan, .int .i64 (m.kind - 2), .int .i64 m.seq, .str ⟨(msgB m).toArray⟩]
def vMac (m : Lm) : AV := if m.kind = 2 ∨ m.kind = 3 then (if okM m = true then .tup [.agg (macC m), .int .i64 0] else .tup [.agg [.int .u16 0, .int .i64 0, .int .i64 0, .str ⟨#[]⟩], .int .i64 2]) else .tup [.agg [.int .u16 0, .int .i64 0, .int .i64 0, .str ⟨#[]⟩], .int .i64 1]
theorem free_vMac (m : Lm) : free (vMac m) = true := by unfold vMac; split <;> (try split) <;> rfl
set_option maxRecDepth 100000 in
set_option maxHeartbeats 4000000 in
theorem p_lmac (m : Lm) (hs : smallM m) : PCalls Try.prog 13 [vM m] (vMac m) := by
  refine pcalls_of (by simp [free.frees, free_vM]) (free_vMac m) (acalls_of mixed J_letter_Mac_ok (Nat.le_of_ble_eq_true rfl) ?_); simp only [J_letter_Mac, vM, mC, wk,if_true,if_false,forall_const,implies_true,ne_eq,eq_self,Nat.reduceEqDiff,Nat.reduceAdd,Nat.reduceMul,Nat.reduceSub,Nat.reduceLeDiff,Nat.reduceLT,Int.reduceEq,Int.reduceLT,Int.reduceLE,Int.reduceAdd,Int.reduceSub,Int.reduceMul,Int.reduceNeg,Int.reduceNe,reduceCtorEq,Int.reduceToNat,↓reduceIte]
  have q := p_lenc m hs
  simp only [vM, mC, vEnc] at q
  have two : (m.kind = 2 ∨ m.kind = 3) → okM m = true → vMac m = .tup [.agg (macC m), .int .i64 0] := fun h1 h2 => by unfold vMac; rw [if_pos h1, if_pos h2]
  have bad : (m.kind = 2 ∨ m.kind = 3) → okM m = false → vMac m = .tup [.agg [.int .u16 0, .int .i64 0, .int .i64 0, .str ⟨#[]⟩], .int .i64 2] := fun h1 h2 => by unfold vMac; rw [if_pos h1, if_neg (by simp [h2])]
  have none : ¬ (m.kind = 2 ∨ m.kind = 3) → vMac m = .tup [.agg [.int .u16 0, .int .i64 0, .int .i64 0, .str ⟨#[]⟩], .int .i64 1] := fun h1 => by unfold vMac; rw [if_neg h1]
  have full : encMN m = 0 ↔ okM m = true := by unfold encMN; split <;> simp [*]
  refine ⟨fun k2 => ⟨fun k3 => ?_, fun k3 => ?_⟩, fun k2 => ?_⟩
  · simp only [valL, wk,if_true,if_false,forall_const,implies_true,ne_eq,eq_self,Nat.reduceEqDiff,Nat.reduceAdd,Nat.reduceMul,Nat.reduceSub,Nat.reduceLeDiff,Nat.reduceLT,Int.reduceEq,Int.reduceLT,Int.reduceLE,Int.reduceAdd,Int.reduceSub,Int.reduceMul,Int.reduceNeg,Int.reduceNe,reduceCtorEq,Int.reduceToNat,↓reduceIte]
    exact (none (by omega)).symm
  · refine PCalls.use (q) ?_; simp only [wk,if_true,if_false,forall_const,implies_true,ne_eq,eq_self,Nat.reduceEqDiff,Nat.reduceAdd,Nat.reduceMul,Nat.reduceSub,Nat.reduceLeDiff,Nat.reduceLT,Int.reduceEq,Int.reduceLT,Int.reduceLE,Int.reduceAdd,Int.reduceSub,Int.reduceMul,Int.reduceNeg,Int.reduceNe,reduceCtorEq,Int.reduceToNat,↓reduceIte]
    refine ⟨fun e => ?_, fun e => ?_⟩
    · simp only [valL, wk,if_true,if_false,forall_const,implies_true,ne_eq,eq_self,Nat.reduceEqDiff,Nat.reduceAdd,Nat.reduceMul,Nat.reduceSub,Nat.reduceLeDiff,Nat.reduceLT,Int.reduceEq,Int.reduceLT,Int.reduceLE,Int.reduceAdd,Int.reduceSub,Int.reduceMul,Int.reduceNeg,Int.reduceNe,reduceCtorEq,Int.reduceToNat,↓reduceIte]
      have h2 : okM m = false := by cases h : okM m with | false => rfl | true => exact absurd (full.2 h) e
      rw [bad (.inr k3) h2]
      simp [encMN, h2]
    · have h2 := full.1 e
      refine ⟨fun _ => ?_, fun c => absurd k3 c⟩
      simp only [J_letter_Mac_j1, valL, wk,if_true,if_false,forall_const,implies_true,ne_eq,eq_self,Nat.reduceEqDiff,Nat.reduceAdd,Nat.reduceMul,Nat.reduceSub,Nat.reduceLeDiff,Nat.reduceLT,Int.reduceEq,Int.reduceLT,Int.reduceLE,Int.reduceAdd,Int.reduceSub,Int.reduceMul,Int.reduceNeg,Int.reduceNe,reduceCtorEq,Int.reduceToNat,↓reduceIte]
      rw [two (.inr k3) h2]
      simp [macC, k3, encMS, h2]
  · refine PCalls.use (q) ?_; simp only [wk,if_true,if_false,forall_const,implies_true,ne_eq,eq_self,Nat.reduceEqDiff,Nat.reduceAdd,Nat.reduceMul,Nat.reduceSub,Nat.reduceLeDiff,Nat.reduceLT,Int.reduceEq,Int.reduceLT,Int.reduceLE,Int.reduceAdd,Int.reduceSub,Int.reduceMul,Int.reduceNeg,Int.reduceNe,reduceCtorEq,Int.reduceToNat,↓reduceIte]
    refine ⟨fun e => ?_, fun e => ?_⟩
    · simp only [valL, wk,if_true,if_false,forall_const,implies_true,ne_eq,eq_self,Nat.reduceEqDiff,Nat.reduceAdd,Nat.reduceMul,Nat.reduceSub,Nat.reduceLeDiff,Nat.reduceLT,Int.reduceEq,Int.reduceLT,Int.reduceLE,Int.reduceAdd,Int.reduceSub,Int.reduceMul,Int.reduceNeg,Int.reduceNe,reduceCtorEq,Int.reduceToNat,↓reduceIte]
      have h2 : okM m = false := by cases h : okM m with | false => rfl | true => exact absurd (full.2 h) e
      rw [bad (.inl k2) h2]
      simp [encMN, h2]
    · have h2 := full.1 e
      refine ⟨fun c => by omega, fun _ => ?_⟩
      simp only [J_letter_Mac_j1, valL, wk,if_true,if_false,forall_const,implies_true,ne_eq,eq_self,Nat.reduceEqDiff,Nat.reduceAdd,Nat.reduceMul,Nat.reduceSub,Nat.reduceLeDiff,Nat.reduceLT,Int.reduceEq,Int.reduceLT,Int.reduceLE,Int.reduceAdd,Int.reduceSub,Int.reduceMul,Int.reduceNeg,Int.reduceNe,reduceCtorEq,Int.reduceToNat,↓reduceIte]
      rw [two (.inl k2) h2]
      simp [macC, k2, encMS, h2]
end Go.Proofs.Ytpjlkefadnbgdaa

/- Messages are read, over the abstract code: requests, certificates. -/
namespace Go.Proofs.Ytpjlkefadnbgdaa
set_option linter.unusedSimpArgs false
set_option linter.unusedVariables false
open Go.RowKit Go.Lib

def rT (S : ByteArray) (m : Int) (s : Bool × Nat) : Option (ByteArray × Nat) := if s.1 = true then none else rText S m s.2
theorem a_text' {h : Hp} {id : Nat} {S : ByteArray} {s : Bool × Nat} (most : Int) (ho : h[id]? = some (iObj S s)) (hs : S.size ≤ 1000000) (hp : s.2 ≤ S.size) {r : Option (ByteArray × Nat)} (e : r = rT S most s) :
    ∃ q, q ≤ S.size ∧ ACalls Try.prog 55 [.ptr id 0, .int .i64 most] h (fun a h' => a = .str (nS r) ∧ h' = h.set id (iObj S (stO r q))) := by
  obtain ⟨q, hq, hc⟩ := a_itext most ho (by omega) hp
  rw [show (if s.1 = true then none else rText S most s.2) = rT S most s from rfl, ← e, vS_n] at hc
  exact ⟨q, hq, hc⟩
theorem rT_le {S : ByteArray} {m : Int} {s : Bool × Nat} {q : Nat} (hs : s.2 ≤ S.size) (hq : q ≤ S.size) : (stO (rT S m s) q).2 ≤ S.size := by
  unfold rT
  split
  · exact hq
  · cases h : rText S m s.2 with
    | none => exact hq
    | some x => obtain ⟨n, p⟩ := x; exact (rText_le h hs).2.1
theorem rT_size {S : ByteArray} {m : Int} {s : Bool × Nat} (hs : s.2 ≤ S.size) : (nS (rT S m s)).size ≤ S.size := by
  unfold rT
  split
  · exact Nat.zero_le _
  · cases h : rText S m s.2 with
    | none => exact Nat.zero_le _
    | some x => obtain ⟨n, p⟩ := x; exact (rText_le h hs).2.2
theorem bdN {D : Option Lm} {S : ByteArray} {m : Int} {s : Bool × Nat} {F : Nat → Nat → Option Lm} {r : Option (Nat × Nat)} (q : Nat) (hD : D = if s.1 = true then none else bd (rNum S m s.2) F) (e : r = rN S m s) : D = if (stO r q).1 = true then none else F (nI r) (stO r q).2 := by
  subst e hD
  unfold rN
  split
  · rfl
  · cases rNum S m s.2 with
    | none => rfl
    | some x => rfl
theorem bdW {D : Option Lm} {S : ByteArray} {s : Bool × Nat} {F : ByteArray → Nat → Option Lm} {r : Option (ByteArray × Nat)} (q : Nat) (hD : D = if s.1 = true then none else bd (rWord S s.2) F) (e : r = rW S s) : D = if (stO r q).1 = true then none else F (nS r) (stO r q).2 := by
  subst e hD
  unfold rW
  split
  · rfl
  · cases rWord S s.2 with
    | none => rfl
    | some x => rfl
theorem bdL {D : Option Lm} {S : ByteArray} {s : Bool × Nat} {F : List ByteArray → Nat → Option Lm} {r : Option (List ByteArray × Nat)} (q : Nat) (hD : D = if s.1 = true then none else bd (rSet S s.2) F) (e : r = rL S s) : D = if (stO r q).1 = true then none else F (nL r) (stO r q).2 := by
  subst e hD
  unfold rL
  split
  · rfl
  · cases rSet S s.2 with
    | none => rfl
    | some x => rfl
def rAskF (S : ByteArray) (mo me : Int) (p : Nat) (F : Rqs → Nat → Option Lm) : Option Lm := bd (rNum S mo p) fun o p => bd (rNum S 3 p) fun a p => bd (rNum S big p) fun z p =>
  if 2 ≤ a then bd (rNum S me p) fun e p => bd (rSet S p) fun l p => F ⟨o, a, z, ⟨e, l⟩⟩ p else F ⟨o, a, z, ⟨0, []⟩⟩ p
def rCrtF (S : ByteArray) (p : Nat) (F : List Crt → Nat → Option Lm) : Option Lm := bd (rNum S 8 p) fun n q => bd (rMany (rCrt S) q n) F
theorem rL_small' {S : ByteArray} {s : Bool × Nat} (e : Int) : smallE ⟨e, nL (rL S s)⟩ := by
  have := rL_small (S := S) (s := s)
  exact ⟨by simp only; omega, fun w hw => by have := this.2 w hw; omega⟩
abbrev fI : AV := .fnb 21 [.ptr 1 0]
def ReadAsk (S : ByteArray) (s : Bool × Nat) (x0 x2 x3 : Option (Bool × List AV)) (mo me : Int) (a : AV) (h' : Hp) : Prop :=
  ∃ (q : Rqs) (s' : Bool × Nat) (ey : Hp), a = vQ q ∧ h' = x0 :: iObj S s' :: x2 :: x3 :: ey ∧ s'.2 ≤ S.size ∧ smallE q.ent ∧ ∀ (D : Option Lm) F, D = (if s.1 = true then none else rAskF S mo me s.2 F) → D = if s'.1 = true then none else F q s'.2
set_option maxRecDepth 100000 in
set_option maxHeartbeats 8000000 in
theorem a_rask {x0 x2 x3 : Option (Bool × List AV)} {S : ByteArray} {s : Bool × Nat} (hs : S.size ≤ 1000000) (hp : s.2 ≤ S.size) :
    ACalls Try.prog 40 [.ptr 1 0, fI] [x0, iObj S s, x2, x3] (ReadAsk S s x0 x2 x3 3 7) := by
  refine ACalls.deep (acalls_of mixed J_letter_readAsk_ok (Nat.le_of_ble_eq_true rfl) ?_); simp only [J_letter_readAsk, fI, wk,if_true,if_false,forall_const,implies_true,ne_eq,eq_self,Nat.reduceEqDiff,Nat.reduceAdd,Nat.reduceMul,Nat.reduceSub,Nat.reduceLeDiff,Nat.reduceLT,Int.reduceEq,Int.reduceLT,Int.reduceLE,Int.reduceAdd,Int.reduceSub,Int.reduceMul,Int.reduceNeg,Int.reduceNe,reduceCtorEq,Int.reduceToNat,↓reduceIte]
  obtain ⟨r1, e1⟩ : ∃ r, r = rN S 3 s := ⟨_, rfl⟩
  obtain ⟨s1, d1⟩ : ∃ s', s' = stO r1 s.2 := ⟨_, rfl⟩
  have b1 : s1.2 ≤ S.size := by rw [d1, e1]; exact rN_le hp hp
  refine ACalls.use (a_num' (S := S) (s := s) 3 rfl hs hp e1 d1) ?_; rintro _ _ ⟨rfl, rfl⟩; simp only [wk,if_true,if_false,forall_const,implies_true,ne_eq,eq_self,Nat.reduceEqDiff,Nat.reduceAdd,Nat.reduceMul,Nat.reduceSub,Nat.reduceLeDiff,Nat.reduceLT,Int.reduceEq,Int.reduceLT,Int.reduceLE,Int.reduceAdd,Int.reduceSub,Int.reduceMul,Int.reduceNeg,Int.reduceNe,reduceCtorEq,Int.reduceToNat,↓reduceIte]
  obtain ⟨r2, e2⟩ : ∃ r, r = rN S 3 s1 := ⟨_, rfl⟩
  obtain ⟨s2, d2⟩ : ∃ s, s = stO r2 s1.2 := ⟨_, rfl⟩
  have b2 : s2.2 ≤ S.size := by rw [d2, e2]; exact rN_le b1 b1
  refine ACalls.use (a_num' (S := S) (s := s1) 3 rfl hs b1 e2 d2) ?_; rintro _ _ ⟨rfl, rfl⟩; simp only [wk,if_true,if_false,forall_const,implies_true,ne_eq,eq_self,Nat.reduceEqDiff,Nat.reduceAdd,Nat.reduceMul,Nat.reduceSub,Nat.reduceLeDiff,Nat.reduceLT,Int.reduceEq,Int.reduceLT,Int.reduceLE,Int.reduceAdd,Int.reduceSub,Int.reduceMul,Int.reduceNeg,Int.reduceNe,reduceCtorEq,Int.reduceToNat,↓reduceIte]
  obtain ⟨r3, e3⟩ : ∃ r, r = rN S 4611686018427387904 s2 := ⟨_, rfl⟩
  obtain ⟨s3, d3⟩ : ∃ s, s = stO r3 s2.2 := ⟨_, rfl⟩
  have b3 : s3.2 ≤ S.size := by rw [d3, e3]; exact rN_le b2 b2
  refine ACalls.use (a_num' (S := S) (s := s2) 4611686018427387904 rfl hs b2 e3 d3) ?_; rintro _ _ ⟨rfl, rfl⟩; simp only [wk,if_true,if_false,forall_const,implies_true,ne_eq,eq_self,Nat.reduceEqDiff,Nat.reduceAdd,Nat.reduceMul,Nat.reduceSub,Nat.reduceLeDiff,Nat.reduceLT,Int.reduceEq,Int.reduceLT,Int.reduceLE,Int.reduceAdd,Int.reduceSub,Int.reduceMul,Int.reduceNeg,Int.reduceNe,reduceCtorEq,Int.reduceToNat,↓reduceIte]
  have key : ∀ (D : Option Lm) F, D = (if s.1 = true then none else rAskF S 3 7 s.2 F) → D = if s3.1 = true then none else (if 2 ≤ nI r2 then bd (rNum S 7 s3.2) fun e p => bd (rSet S p) fun l p => F ⟨nI r1, nI r2, nI r3, ⟨e, l⟩⟩ p else F ⟨nI r1, nI r2, nI r3, ⟨0, []⟩⟩ s3.2) := fun D F hD => by
    have h1 := bdN s.2 hD e1
    rw [← d1] at h1
    have h2 := bdN s1.2 h1 e2
    rw [← d2] at h2
    have h3 := bdN s2.2 h2 e3
    rw [← d3] at h3
    exact h3
  refine ⟨fun c => ⟨fun c2 => ?_, fun c2 => ?_⟩, fun c => ?_⟩
  · obtain ⟨r4, e4⟩ : ∃ r, r = rN S 7 s3 := ⟨_, rfl⟩
    obtain ⟨s4, d4⟩ : ∃ s, s = stO r4 s3.2 := ⟨_, rfl⟩
    have b4 : s4.2 ≤ S.size := by rw [d4, e4]; exact rN_le b3 b3
    refine ACalls.use (a_num' (S := S) (s := s3) 7 rfl hs b3 e4 d4) ?_; rintro _ _ ⟨rfl, rfl⟩; simp only [wk,if_true,if_false,forall_const,implies_true,ne_eq,eq_self,Nat.reduceEqDiff,Nat.reduceAdd,Nat.reduceMul,Nat.reduceSub,Nat.reduceLeDiff,Nat.reduceLT,Int.reduceEq,Int.reduceLT,Int.reduceLE,Int.reduceAdd,Int.reduceSub,Int.reduceMul,Int.reduceNeg,Int.reduceNe,reduceCtorEq,Int.reduceToNat,↓reduceIte]
    obtain ⟨r5, e5⟩ : ∃ r, r = rL S s4 := ⟨_, rfl⟩
    refine ACalls.use (a_set' (id := 1) (s := s4) rfl hs b4 e5) ?_
    rintro _ _ ⟨rfl, q5, hq5, rfl⟩
    obtain ⟨s5, d5⟩ : ∃ s, s = stO r5 q5 := ⟨_, rfl⟩
    rw [← d5]
    have b5 : s5.2 ≤ S.size := by rw [d5, e5]; exact rL_le hq5
    simp only [deg_fL, J_letter_readAsk_j1, valL, wk,if_true,if_false,forall_const,implies_true,ne_eq,eq_self,Nat.reduceEqDiff,Nat.reduceAdd,Nat.reduceMul,Nat.reduceSub,Nat.reduceLeDiff,Nat.reduceLT,Int.reduceEq,Int.reduceLT,Int.reduceLE,Int.reduceAdd,Int.reduceSub,Int.reduceMul,Int.reduceNeg,Int.reduceNe,reduceCtorEq,Int.reduceToNat,↓reduceIte]
    refine ⟨⟨nI r1, nI r2, nI r3, ⟨nI r4, nL r5⟩⟩, s5, _, ?_, rfl, b5, by rw [e5]; exact rL_small' _, fun D F hD => ?_⟩
    · simp only [deg_fL, vQ, qC]
      cases r5 <;> simp only [fL, nL, List.length_nil, List.map_nil, rdpw, rdps_str]
    · have h3 := key D F hD
      rw [if_pos (show 2 ≤ nI r2 by omega)] at h3
      have h4 := bdN s3.2 h3 e4
      rw [← d4] at h4
      have h5 := bdL q5 h4 e5
      rw [← d5] at h5
      exact h5
  · simp only [J_letter_readAsk_j1, valL, wk,if_true,if_false,forall_const,implies_true,ne_eq,eq_self,Nat.reduceEqDiff,Nat.reduceAdd,Nat.reduceMul,Nat.reduceSub,Nat.reduceLeDiff,Nat.reduceLT,Int.reduceEq,Int.reduceLT,Int.reduceLE,Int.reduceAdd,Int.reduceSub,Int.reduceMul,Int.reduceNeg,Int.reduceNe,reduceCtorEq,Int.reduceToNat,↓reduceIte]
    refine ⟨⟨nI r1, nI r2, nI r3, ⟨0, []⟩⟩, s3, _, ?_, rfl, b3, smallE_0 0, fun D F hD => ?_⟩
    · simp only [vQ, qC, List.length_nil, List.map_nil, rdpw]
    · have h3 := key D F hD
      have h2 : nI r2 ≤ 3 := by have := (nI_le (S := S) (m := 3) b1).2 (by omega); rw [← e2] at this; omega
      rw [if_neg (show ¬ 2 ≤ nI r2 by omega)] at h3
      exact h3
  · obtain ⟨r4, e4⟩ : ∃ r, r = rN S 7 s3 := ⟨_, rfl⟩
    obtain ⟨s4, d4⟩ : ∃ s, s = stO r4 s3.2 := ⟨_, rfl⟩
    have b4 : s4.2 ≤ S.size := by rw [d4, e4]; exact rN_le b3 b3
    refine ACalls.use (a_num' (S := S) (s := s3) 7 rfl hs b3 e4 d4) ?_; rintro _ _ ⟨rfl, rfl⟩; simp only [wk,if_true,if_false,forall_const,implies_true,ne_eq,eq_self,Nat.reduceEqDiff,Nat.reduceAdd,Nat.reduceMul,Nat.reduceSub,Nat.reduceLeDiff,Nat.reduceLT,Int.reduceEq,Int.reduceLT,Int.reduceLE,Int.reduceAdd,Int.reduceSub,Int.reduceMul,Int.reduceNeg,Int.reduceNe,reduceCtorEq,Int.reduceToNat,↓reduceIte]
    obtain ⟨r5, e5⟩ : ∃ r, r = rL S s4 := ⟨_, rfl⟩
    refine ACalls.use (a_set' (id := 1) (s := s4) rfl hs b4 e5) ?_
    rintro _ _ ⟨rfl, q5, hq5, rfl⟩
    obtain ⟨s5, d5⟩ : ∃ s, s = stO r5 q5 := ⟨_, rfl⟩
    rw [← d5]
    have b5 : s5.2 ≤ S.size := by rw [d5, e5]; exact rL_le hq5
    simp only [deg_fL, J_letter_readAsk_j1, valL, wk,if_true,if_false,forall_const,implies_true,ne_eq,eq_self,Nat.reduceEqDiff,Nat.reduceAdd,Nat.reduceMul,Nat.reduceSub,Nat.reduceLeDiff,Nat.reduceLT,Int.reduceEq,Int.reduceLT,Int.reduceLE,Int.reduceAdd,Int.reduceSub,Int.reduceMul,Int.reduceNeg,Int.reduceNe,reduceCtorEq,Int.reduceToNat,↓reduceIte]
    refine ⟨⟨nI r1, nI r2, nI r3, ⟨nI r4, nL r5⟩⟩, s5, _, ?_, rfl, b5, by rw [e5]; exact rL_small' _, fun D F hD => ?_⟩
    · simp only [deg_fL, vQ, qC]
      cases r5 <;> simp only [fL, nL, List.length_nil, List.map_nil, rdpw, rdps_str]
    · have h3 := key D F hD
      rw [if_pos (show 2 ≤ nI r2 by omega)] at h3
      have h4 := bdN s3.2 h3 e4
      rw [← d4] at h4
      have h5 := bdL q5 h4 e5
      rw [← d5] at h5
      exact h5
def ReadCrts (S : ByteArray) (s : Bool × Nat) (x0 x2 x3 : Option (Bool × List AV)) (a : AV) (h' : Hp) : Prop :=
  ∃ (l : List Crt) (ok : Bool) (s' : Bool × Nat) (ey : Hp), a = .tup [.lst .ro l.length (certsC l), .bool ok] ∧ h' = x0 :: iObj S s' :: x2 :: x3 :: ey ∧ s'.2 ≤ S.size ∧ l.length ≤ 8 ∧ (∀ c ∈ l, smallC c) ∧ ∀ (D : Option Lm) F, D = (if s.1 = true then none else rCrtF S s.2 F) → D = if s'.1 = true then none else if ok = true then F l s'.2 else none
theorem decE_empty : decE ⟨#[]⟩ = none := by kernel_rfl
set_option maxRecDepth 100000 in
set_option maxHeartbeats 8000000 in
theorem a_rcrts {x0 x2 x3 : Option (Bool × List AV)} {S : ByteArray} {s : Bool × Nat} (hs : S.size ≤ 4000) (hp : s.2 ≤ S.size) :
    ACalls Try.prog 39 [.ptr 1 0, fI] [x0, iObj S s, x2, x3] (ReadCrts S s x0 x2 x3) := by
  refine ACalls.deep (acalls_of mixed J_letter_readCerts_ok (Nat.le_of_ble_eq_true rfl) ?_); simp only [J_letter_readCerts, fI, wk,if_true,if_false,forall_const,implies_true,ne_eq,eq_self,Nat.reduceEqDiff,Nat.reduceAdd,Nat.reduceMul,Nat.reduceSub,Nat.reduceLeDiff,Nat.reduceLT,Int.reduceEq,Int.reduceLT,Int.reduceLE,Int.reduceAdd,Int.reduceSub,Int.reduceMul,Int.reduceNeg,Int.reduceNe,reduceCtorEq,Int.reduceToNat,↓reduceIte]
  obtain ⟨r1, e1⟩ : ∃ r, r = rN S 8 s := ⟨_, rfl⟩
  obtain ⟨s1, d1⟩ : ∃ s', s' = stO r1 s.2 := ⟨_, rfl⟩
  have b1 : s1.2 ≤ S.size := by rw [d1, e1]; exact rN_le hp hp
  have n8 : nI r1 ≤ 8 := by have := (nI_le (S := S) (m := 8) hp).2 (by omega); rw [← e1] at this; omega
  have bad0 : s1.1 = true → nI r1 = 0 := by
    rw [d1]
    cases r1 with
    | none => intro _; rfl
    | some x => intro h; cases h
  refine ACalls.use (a_num' (S := S) (s := s) 8 rfl (by omega) hp e1 d1) ?_; rintro _ _ ⟨rfl, rfl⟩; simp only [wk,if_true,if_false,forall_const,implies_true,ne_eq,eq_self,Nat.reduceEqDiff,Nat.reduceAdd,Nat.reduceMul,Nat.reduceSub,Nat.reduceLeDiff,Nat.reduceLT,Int.reduceEq,Int.reduceLT,Int.reduceLE,Int.reduceAdd,Int.reduceSub,Int.reduceMul,Int.reduceNeg,Int.reduceNe,reduceCtorEq,Int.reduceToNat,↓reduceIte]
  have key : ∀ (D : Option Lm) F, D = (if s.1 = true then none else rCrtF S s.2 F) → D = if s1.1 = true then none else bd (rMany (rCrt S) s1.2 (nI r1)) F := fun D F hD => by
    have h1 := bdN s.2 hD e1
    rw [← d1] at h1
    exact h1
  refine W_loop (fun n fr h' => ∃ (i : Nat) (ez : Hp) (st : Bool × Nat) (l : List Crt), i ≤ nI r1 ∧ n = nI r1 - i ∧ st.2 ≤ S.size ∧ l.length = i ∧ (∀ c ∈ l, smallC c) ∧ (s1.1 = false → st.1 = false ∧ rMany (rCrt S) s1.2 i = some (l, st.2)) ∧ (s1.1 = true → st.1 = true) ∧ h' = x0 :: iObj S st :: x2 :: x3 :: ez ∧ fr = [(0, .ptr 1 0), (6, .lst (.own 50) i (certsC l)), (10, .int .i64 (nI r1)), (11, .int .i64 i)]) (nI r1) ⟨0, [], s1, [], by omega, by omega, b1, rfl, fun c hc => by simp at hc, fun h => ⟨h, by simp [rMany]⟩, fun h => h, rfl, rfl⟩ ?_
  rintro n fr h' ⟨i, ez, st, l, hi, rfl, hst, hll, hsm, hgood, hbad, rfl, rfl⟩
  simp only [J_letter_readCerts_j2, wk,if_true,if_false,forall_const,implies_true,ne_eq,eq_self,Nat.reduceEqDiff,Nat.reduceAdd,Nat.reduceMul,Nat.reduceSub,Nat.reduceLeDiff,Nat.reduceLT,Int.reduceEq,Int.reduceLT,Int.reduceLE,Int.reduceAdd,Int.reduceSub,Int.reduceMul,Int.reduceNeg,Int.reduceNe,reduceCtorEq,Int.reduceToNat,↓reduceIte]
  refine ⟨fun hlt => ?_, fun hge => ?_⟩
  · have hin : i < nI r1 := by omega
    have g1 : s1.1 = false := by cases h : s1.1 with | false => rfl | true => have := bad0 h; omega
    obtain ⟨g2, g3⟩ := hgood g1
    obtain ⟨r2, e2⟩ : ∃ r, r = rT S 4000 st := ⟨_, rfl⟩
    obtain ⟨q2, hq2, hc2⟩ := a_text' (id := 1) (s := st) (h := x0 :: iObj S st :: x2 :: x3 :: ez) 4000 rfl (by omega) hst e2
    obtain ⟨s2, d2⟩ : ∃ s, s = stO r2 q2 := ⟨_, rfl⟩
    rw [← d2] at hc2
    have b2 : s2.2 ≤ S.size := by rw [d2, e2]; exact rT_le hst hq2
    have z2 : (nS r2).size ≤ S.size := by rw [e2]; exact rT_size hst
    refine ACalls.use (hc2) ?_; rintro _ _ ⟨rfl, rfl⟩; simp only [wk,if_true,if_false,forall_const,implies_true,ne_eq,eq_self,Nat.reduceEqDiff,Nat.reduceAdd,Nat.reduceMul,Nat.reduceSub,Nat.reduceLeDiff,Nat.reduceLT,Int.reduceEq,Int.reduceLT,Int.reduceLE,Int.reduceAdd,Int.reduceSub,Int.reduceMul,Int.reduceNeg,Int.reduceNe,reduceCtorEq,Int.reduceToNat,↓reduceIte]
    have qd := p_cdec (nS r2) (by omega)
    cases hd : decE (nS r2) with
    | none =>
      rw [hd] at qd
      simp only [decV, vC, cC, zeroC, List.length_nil, List.map_nil] at qd
      refine PCalls.use (qd) ?_; simp only [wk,if_true,if_false,forall_const,implies_true,ne_eq,eq_self,Nat.reduceEqDiff,Nat.reduceAdd,Nat.reduceMul,Nat.reduceSub,Nat.reduceLeDiff,Nat.reduceLT,Int.reduceEq,Int.reduceLT,Int.reduceLE,Int.reduceAdd,Int.reduceSub,Int.reduceMul,Int.reduceNeg,Int.reduceNe,reduceCtorEq,Int.reduceToNat,↓reduceIte]
      refine ⟨[], false, s2, _, ?_, rfl, b2, by simp, fun c hc => by simp at hc, fun D F hD => ?_⟩
      · simp only [rdpw, certsC, List.flatMap_nil, List.length_nil]
      · have h1 := key D F hD
        have hn : rMany (rCrt S) s1.2 (i + 1) = none := by
          simp only [rMany, g3]
          have : rCrt S st.2 = none := by
            unfold rCrt
            unfold rT at e2
            rw [g2] at e2
            simp only [Bool.false_eq_true, if_false] at e2
            rw [← e2]
            cases r2 with
            | none => rfl
            | some x => simp only [bd]; simp only [nS] at hd; rw [hd]
          rw [this]
        rw [g1, rMany_none (by omega) hn] at h1
        simp only [Bool.false_eq_true, if_false, bd] at h1 ⊢
        rw [h1]
        split <;> rfl
    | some c =>
      rw [hd] at qd
      simp only [decV, vC, cC] at qd
      refine PCalls.use (qd) ?_; simp only [wk,if_true,if_false,forall_const,implies_true,ne_eq,eq_self,Nat.reduceEqDiff,Nat.reduceAdd,Nat.reduceMul,Nat.reduceSub,Nat.reduceLeDiff,Nat.reduceLT,Int.reduceEq,Int.reduceLT,Int.reduceLE,Int.reduceAdd,Int.reduceSub,Int.reduceMul,Int.reduceNeg,Int.reduceNe,reduceCtorEq,Int.reduceToNat,↓reduceIte]
      have hr : ∃ t p, r2 = some (t, p) := by
        cases r2 with
        | none => simp only [nS] at hd; rw [decE_empty] at hd; cases hd
        | some x => exact ⟨x.1, x.2, rfl⟩
      obtain ⟨t, p, rfl⟩ := hr
      have hs2 : s2 = (false, p) := d2
      have hrc : rCrt S st.2 = some (c, p) := by
        unfold rCrt
        unfold rT at e2
        rw [g2] at e2
        simp only [Bool.false_eq_true, if_false] at e2
        rw [← e2]
        simp only [bd]
        simp only [nS] at hd
        rw [hd]
      have hcs := (rCrt_fit hrc).2
      refine ⟨⟨by omega, by omega⟩, inR_of (by omega) (by omega), nI r1 - (i + 1), by omega, i + 1, ez ++ [some (true, cC c)], s2, l ++ [c], by omega, rfl, b2, by simp [hll], fun x hx => ?_, fun _ => ?_, fun h => ?_, rfl, ?_⟩
      · rw [List.mem_append, List.mem_singleton] at hx
        rcases hx with hx | rfl
        · exact hsm x hx
        · exact hcs
      · rw [hs2]
        exact ⟨rfl, by simp only [rMany, g3, hrc]⟩
      · rw [g1] at h; cases h
      · rw [certsC_sn]; simp [cC]
  · have : i = nI r1 := by omega
    subst this
    simp only [J_letter_readCerts_j1, wk,if_true,if_false,forall_const,implies_true,ne_eq,eq_self,Nat.reduceEqDiff,Nat.reduceAdd,Nat.reduceMul,Nat.reduceSub,Nat.reduceLeDiff,Nat.reduceLT,Int.reduceEq,Int.reduceLT,Int.reduceLE,Int.reduceAdd,Int.reduceSub,Int.reduceMul,Int.reduceNeg,Int.reduceNe,reduceCtorEq,Int.reduceToNat,↓reduceIte]
    refine ⟨l, true, st, ez, ?_, rfl, hst, by omega, hsm, fun D F hD => ?_⟩
    · rw [hll]; simp only [rdpw, rdps_certs]
    · have h1 := key D F hD
      cases hs1 : s1.1 with
      | true => rw [hs1] at h1; rw [hbad hs1]; exact h1
      | false =>
        obtain ⟨g2, g3⟩ := hgood hs1
        rw [hs1, g3] at h1
        rw [g2]
        exact h1
end Go.Proofs.Ytpjlkefadnbgdaa

/- Messages are read, over the abstract code: Decode. -/
namespace Go.Proofs.Ytpjlkefadnbgdaa
set_option linter.unusedSimpArgs false
set_option linter.unusedVariables false
open Go.RowKit Go.Lib

def ReadM (S : ByteArray) (x0 : Option (Bool × List AV)) (a : AV) (h' : Hp) : Prop :=
  ∃ (m : Lm) (ok : Bool) (s' : Bool × Nat) (ey : Hp), a = .tup [vM m, .bool ok] ∧ h' = x0 :: iObj S s' :: ey ∧ s'.2 ≤ S.size ∧ smallM m ∧ (decM S = if s'.1 = true then none else if ok = true then finM S m s'.2 else none)
theorem ACalls.useE {P : Program} {f : FuncId} {args : List AV} {h : Hp} {R : AV → Hp → Prop} {C : Nat → Prop} {T : Nat → AV → Hp → Prop} (hc : ∃ q, C q ∧ ACalls P f args h (T q)) (k : ∀ q, C q → ∀ a h', T q a h' → R a h') : ACalls P f args h R := by
  obtain ⟨q, h1, h2⟩ := hc
  exact ACalls.use h2 (k q h1)
theorem smallM_0 {k : Int} {g : Nat} {s : Int} {e v : Int} (hg : g < 65536) : smallM ⟨k, g, s, zeroQ, e, v, ⟨#[]⟩, []⟩ := ⟨hg, smallE_0 0, Nat.zero_le _, Nat.zero_le _, fun c hc => by simp at hc⟩
theorem finM_kind0 {S : ByteArray} {m : Lm} {p : Nat} (h : m.kind = 0) : finM S m p = none := by
  have : fitsE m = false := by
    simp [fitsE, h]
  unfold finM
  rw [this]
  split <;> rfl
set_option maxRecDepth 100000 in
set_option maxHeartbeats 16000000 in
theorem a_read {x0 : Option (Bool × List AV)} {S : ByteArray} (hs : S.size ≤ 4000) :
    ACalls Try.prog 20 [.ptr 1 0, fI] [x0, iObj S (false, 0)] (ReadM S x0) := by
  refine ACalls.deep (acalls_of mixed J_letter_read_ok (Nat.le_of_ble_eq_true rfl) ?_); simp only [J_letter_read, fI, wk,if_true,if_false,forall_const,implies_true,ne_eq,eq_self,Nat.reduceEqDiff,Nat.reduceAdd,Nat.reduceMul,Nat.reduceSub,Nat.reduceLeDiff,Nat.reduceLT,Int.reduceEq,Int.reduceLT,Int.reduceLE,Int.reduceAdd,Int.reduceSub,Int.reduceMul,Int.reduceNeg,Int.reduceNe,reduceCtorEq,Int.reduceToNat,↓reduceIte]
  have hS : S.size ≤ 1000000 := by omega
  obtain ⟨r1, e1⟩ : ∃ r, r = rN S 5 (false, 0) := ⟨_, rfl⟩
  obtain ⟨s1, d1⟩ : ∃ s', s' = stO r1 0 := ⟨_, rfl⟩
  have b1 : s1.2 ≤ S.size := by rw [d1, e1]; exact rN_le (Nat.zero_le _) (Nat.zero_le _)
  have n1 : nI r1 ≤ 5 := by have := (nI_le (S := S) (m := 5) (s := (false, 0)) (Nat.zero_le _)).2 (by omega); rw [← e1] at this; omega
  refine ACalls.use (a_num' (S := S) (s := (false, 0)) 5 rfl hS (Nat.zero_le _) e1 d1) ?_; rintro _ _ ⟨rfl, rfl⟩; simp only [wk,if_true,if_false,forall_const,implies_true,ne_eq,eq_self,Nat.reduceEqDiff,Nat.reduceAdd,Nat.reduceMul,Nat.reduceSub,Nat.reduceLeDiff,Nat.reduceLT,Int.reduceEq,Int.reduceLT,Int.reduceLE,Int.reduceAdd,Int.reduceSub,Int.reduceMul,Int.reduceNeg,Int.reduceNe,reduceCtorEq,Int.reduceToNat,↓reduceIte]
  have h0 : decM S = if (false, 0).1 = true then none else bd (rNum S 5 (false, 0).2) fun k p => dKind S 3 7 k p := by
    unfold decM decP2
    rw [if_neg (by omega)]
    simp
  have h1 := bdN 0 h0 e1
  rw [← d1] at h1
  simp only [dKind] at h1
  refine ⟨fun k1 => ?_, fun k1 => ⟨fun k5 => ?_, fun k5 => ⟨fun k2 => ?_, fun k2 => ⟨fun k3 => ?_, fun k3 => ⟨fun k4 => ?_, fun k4 => ?_⟩⟩⟩⟩⟩
  · rw [if_pos (show nI r1 = 1 by omega)] at h1
    obtain ⟨r2, e2⟩ : ∃ r, r = rN S 65535 s1 := ⟨_, rfl⟩
    obtain ⟨s2, d2⟩ : ∃ s, s = stO r2 s1.2 := ⟨_, rfl⟩
    have b2 : s2.2 ≤ S.size := by rw [d2, e2]; exact rN_le b1 b1
    have n2 : nI r2 ≤ 65535 := by have := (nI_le (S := S) (m := 65535) b1).2 (by omega); rw [← e2] at this; omega
    refine ACalls.use (a_num' (S := S) (s := s1) 65535 rfl hS b1 e2 d2) ?_; rintro _ _ ⟨rfl, rfl⟩; simp only [wk,if_true,if_false,forall_const,implies_true,ne_eq,eq_self,Nat.reduceEqDiff,Nat.reduceAdd,Nat.reduceMul,Nat.reduceSub,Nat.reduceLeDiff,Nat.reduceLT,Int.reduceEq,Int.reduceLT,Int.reduceLE,Int.reduceAdd,Int.reduceSub,Int.reduceMul,Int.reduceNeg,Int.reduceNe,reduceCtorEq,Int.reduceToNat,↓reduceIte, wrap16 (show nI r2 < 65536 by omega)]
    simp only [J_letter_read_j2, wk,if_true,if_false,forall_const,implies_true,ne_eq,eq_self,Nat.reduceEqDiff,Nat.reduceAdd,Nat.reduceMul,Nat.reduceSub,Nat.reduceLeDiff,Nat.reduceLT,Int.reduceEq,Int.reduceLT,Int.reduceLE,Int.reduceAdd,Int.reduceSub,Int.reduceMul,Int.reduceNeg,Int.reduceNe,reduceCtorEq,Int.reduceToNat,↓reduceIte]
    refine ACalls.use (a_rcrts hs b2) ?_
    rintro _ _ ⟨l, ok, s3, ey, rfl, rfl, b3, l8, lsm, hl⟩
    simp only [J_letter_read_j1, valL, wk,if_true,if_false,forall_const,implies_true,ne_eq,eq_self,Nat.reduceEqDiff,Nat.reduceAdd,Nat.reduceMul,Nat.reduceSub,Nat.reduceLeDiff,Nat.reduceLT,Int.reduceEq,Int.reduceLT,Int.reduceLE,Int.reduceAdd,Int.reduceSub,Int.reduceMul,Int.reduceNeg,Int.reduceNe,reduceCtorEq,Int.reduceToNat,↓reduceIte]
    refine ⟨⟨nI r1, nI r2, 0, zeroQ, 0, 0, ⟨#[]⟩, l⟩, ok, s3, _, ?_, rfl, b3, ⟨by show nI r2 < 65536; omega, smallE_0 0, Nat.zero_le _, by show l.length ≤ 1000; omega, lsm⟩, ?_⟩
    · (simp only [rdpw, rdps_certs, vM, mC, zeroQ, List.length_nil, List.map_nil]) <;> rfl
    · have h2 := bdN (F := fun g p => rCrtF S p fun l p => finM S ⟨1, g, 0, zeroQ, 0, 0, ⟨#[]⟩, l⟩ p) s1.2 h1 e2
      rw [← d2] at h2
      rw [k1]
      exact hl _ _ h2
  · rw [if_neg (show ¬ nI r1 = 1 by omega), if_neg (show ¬ nI r1 = 2 by omega), if_neg (show ¬ nI r1 = 3 by omega), if_neg (show ¬ nI r1 = 4 by omega), if_pos (show nI r1 = 5 by omega)] at h1
    simp only [J_letter_read_j2, wk,if_true,if_false,forall_const,implies_true,ne_eq,eq_self,Nat.reduceEqDiff,Nat.reduceAdd,Nat.reduceMul,Nat.reduceSub,Nat.reduceLeDiff,Nat.reduceLT,Int.reduceEq,Int.reduceLT,Int.reduceLE,Int.reduceAdd,Int.reduceSub,Int.reduceMul,Int.reduceNeg,Int.reduceNe,reduceCtorEq,Int.reduceToNat,↓reduceIte]
    refine ACalls.use (a_rcrts hs b1) ?_
    rintro _ _ ⟨l, ok, s3, ey, rfl, rfl, b3, l8, lsm, hl⟩
    simp only [J_letter_read_j1, valL, wk,if_true,if_false,forall_const,implies_true,ne_eq,eq_self,Nat.reduceEqDiff,Nat.reduceAdd,Nat.reduceMul,Nat.reduceSub,Nat.reduceLeDiff,Nat.reduceLT,Int.reduceEq,Int.reduceLT,Int.reduceLE,Int.reduceAdd,Int.reduceSub,Int.reduceMul,Int.reduceNeg,Int.reduceNe,reduceCtorEq,Int.reduceToNat,↓reduceIte]
    refine ⟨⟨nI r1, 0, 0, zeroQ, 0, 0, ⟨#[]⟩, l⟩, ok, s3, _, ?_, rfl, b3, ⟨by show (0 : Nat) < 65536; omega, smallE_0 0, Nat.zero_le _, by show l.length ≤ 1000; omega, lsm⟩, ?_⟩
    · (simp only [rdpw, rdps_certs, vM, mC, zeroQ, List.length_nil, List.map_nil]) <;> rfl
    · rw [k5]
      exact hl _ (fun l p => finM S ⟨5, 0, 0, zeroQ, 0, 0, ⟨#[]⟩, l⟩ p) h1
  · rw [if_neg (show ¬ nI r1 = 1 by omega), if_pos (show nI r1 = 2 by omega)] at h1
    obtain ⟨r2, e2⟩ : ∃ r, r = rN S 65535 s1 := ⟨_, rfl⟩
    obtain ⟨s2, d2⟩ : ∃ s, s = stO r2 s1.2 := ⟨_, rfl⟩
    have b2 : s2.2 ≤ S.size := by rw [d2, e2]; exact rN_le b1 b1
    have n2 : nI r2 ≤ 65535 := by have := (nI_le (S := S) (m := 65535) b1).2 (by omega); rw [← e2] at this; omega
    refine ACalls.use (a_num' (S := S) (s := s1) 65535 rfl hS b1 e2 d2) ?_; rintro _ _ ⟨rfl, rfl⟩; simp only [wk,if_true,if_false,forall_const,implies_true,ne_eq,eq_self,Nat.reduceEqDiff,Nat.reduceAdd,Nat.reduceMul,Nat.reduceSub,Nat.reduceLeDiff,Nat.reduceLT,Int.reduceEq,Int.reduceLT,Int.reduceLE,Int.reduceAdd,Int.reduceSub,Int.reduceMul,Int.reduceNeg,Int.reduceNe,reduceCtorEq,Int.reduceToNat,↓reduceIte, wrap16 (show nI r2 < 65536 by omega)]
    obtain ⟨r3, e3⟩ : ∃ r, r = rN S 4611686018427387904 s2 := ⟨_, rfl⟩
    obtain ⟨s3, d3⟩ : ∃ s, s = stO r3 s2.2 := ⟨_, rfl⟩
    have b3 : s3.2 ≤ S.size := by rw [d3, e3]; exact rN_le b2 b2
    refine ACalls.use (a_num' (S := S) (s := s2) 4611686018427387904 rfl hS b2 e3 d3) ?_; rintro _ _ ⟨rfl, rfl⟩; simp only [wk,if_true,if_false,forall_const,implies_true,ne_eq,eq_self,Nat.reduceEqDiff,Nat.reduceAdd,Nat.reduceMul,Nat.reduceSub,Nat.reduceLeDiff,Nat.reduceLT,Int.reduceEq,Int.reduceLT,Int.reduceLE,Int.reduceAdd,Int.reduceSub,Int.reduceMul,Int.reduceNeg,Int.reduceNe,reduceCtorEq,Int.reduceToNat,↓reduceIte]
    refine ACalls.use (a_rask hS b3) ?_
    rintro _ _ ⟨q, s4, ey, rfl, rfl, b4, qsm, hl⟩
    simp only [vQ, qC, J_letter_read_j1, valL, wk,if_true,if_false,forall_const,implies_true,ne_eq,eq_self,Nat.reduceEqDiff,Nat.reduceAdd,Nat.reduceMul,Nat.reduceSub,Nat.reduceLeDiff,Nat.reduceLT,Int.reduceEq,Int.reduceLT,Int.reduceLE,Int.reduceAdd,Int.reduceSub,Int.reduceMul,Int.reduceNeg,Int.reduceNe,reduceCtorEq,Int.reduceToNat,↓reduceIte]
    refine ⟨⟨nI r1, nI r2, nI r3, q, 0, 0, ⟨#[]⟩, []⟩, true, s4, _, ?_, rfl, b4, ⟨by show nI r2 < 65536; omega, qsm, Nat.zero_le _, Nat.zero_le _, fun c hc => by simp at hc⟩, ?_⟩
    · simp only [rdpw, rdps_str, vM, mC, certsC, List.flatMap_nil, List.length_nil]
    · have h2 := bdN (F := fun g p => bd (rNum S big p) fun s p => rAskF S 3 7 p fun q p => finM S ⟨2, g, s, q, 0, 0, ⟨#[]⟩, []⟩ p) s1.2 h1 e2
      rw [← d2] at h2
      have h3 := bdN s2.2 h2 e3
      rw [← d3] at h3
      rw [k2]
      have h4 := hl _ _ h3
      rw [h4]
      rfl
  · rw [if_neg (show ¬ nI r1 = 1 by omega), if_neg (show ¬ nI r1 = 2 by omega), if_pos (show nI r1 = 3 by omega)] at h1
    obtain ⟨r2, e2⟩ : ∃ r, r = rN S 65535 s1 := ⟨_, rfl⟩
    obtain ⟨s2, d2⟩ : ∃ s, s = stO r2 s1.2 := ⟨_, rfl⟩
    have b2 : s2.2 ≤ S.size := by rw [d2, e2]; exact rN_le b1 b1
    have n2 : nI r2 ≤ 65535 := by have := (nI_le (S := S) (m := 65535) b1).2 (by omega); rw [← e2] at this; omega
    refine ACalls.use (a_num' (S := S) (s := s1) 65535 rfl hS b1 e2 d2) ?_; rintro _ _ ⟨rfl, rfl⟩; simp only [wk,if_true,if_false,forall_const,implies_true,ne_eq,eq_self,Nat.reduceEqDiff,Nat.reduceAdd,Nat.reduceMul,Nat.reduceSub,Nat.reduceLeDiff,Nat.reduceLT,Int.reduceEq,Int.reduceLT,Int.reduceLE,Int.reduceAdd,Int.reduceSub,Int.reduceMul,Int.reduceNeg,Int.reduceNe,reduceCtorEq,Int.reduceToNat,↓reduceIte, wrap16 (show nI r2 < 65536 by omega)]
    obtain ⟨r3, e3⟩ : ∃ r, r = rN S 4611686018427387904 s2 := ⟨_, rfl⟩
    obtain ⟨s3, d3⟩ : ∃ s, s = stO r3 s2.2 := ⟨_, rfl⟩
    have b3 : s3.2 ≤ S.size := by rw [d3, e3]; exact rN_le b2 b2
    refine ACalls.use (a_num' (S := S) (s := s2) 4611686018427387904 rfl hS b2 e3 d3) ?_; rintro _ _ ⟨rfl, rfl⟩; simp only [wk,if_true,if_false,forall_const,implies_true,ne_eq,eq_self,Nat.reduceEqDiff,Nat.reduceAdd,Nat.reduceMul,Nat.reduceSub,Nat.reduceLeDiff,Nat.reduceLT,Int.reduceEq,Int.reduceLT,Int.reduceLE,Int.reduceAdd,Int.reduceSub,Int.reduceMul,Int.reduceNeg,Int.reduceNe,reduceCtorEq,Int.reduceToNat,↓reduceIte]
    obtain ⟨r4, e4⟩ : ∃ r, r = rN S 100 s3 := ⟨_, rfl⟩
    obtain ⟨s4, d4⟩ : ∃ s, s = stO r4 s3.2 := ⟨_, rfl⟩
    have b4 : s4.2 ≤ S.size := by rw [d4, e4]; exact rN_le b3 b3
    refine ACalls.use (a_num' (S := S) (s := s3) 100 rfl hS b3 e4 d4) ?_; rintro _ _ ⟨rfl, rfl⟩; simp only [wk,if_true,if_false,forall_const,implies_true,ne_eq,eq_self,Nat.reduceEqDiff,Nat.reduceAdd,Nat.reduceMul,Nat.reduceSub,Nat.reduceLeDiff,Nat.reduceLT,Int.reduceEq,Int.reduceLT,Int.reduceLE,Int.reduceAdd,Int.reduceSub,Int.reduceMul,Int.reduceNeg,Int.reduceNe,reduceCtorEq,Int.reduceToNat,↓reduceIte]
    obtain ⟨r5, e5⟩ : ∃ r, r = rN S 4611686018427387904 s4 := ⟨_, rfl⟩
    obtain ⟨s5, d5⟩ : ∃ s, s = stO r5 s4.2 := ⟨_, rfl⟩
    have b5 : s5.2 ≤ S.size := by rw [d5, e5]; exact rN_le b4 b4
    refine ACalls.use (a_num' (S := S) (s := s4) 4611686018427387904 rfl hS b4 e5 d5) ?_; rintro _ _ ⟨rfl, rfl⟩; simp only [wk,if_true,if_false,forall_const,implies_true,ne_eq,eq_self,Nat.reduceEqDiff,Nat.reduceAdd,Nat.reduceMul,Nat.reduceSub,Nat.reduceLeDiff,Nat.reduceLT,Int.reduceEq,Int.reduceLT,Int.reduceLE,Int.reduceAdd,Int.reduceSub,Int.reduceMul,Int.reduceNeg,Int.reduceNe,reduceCtorEq,Int.reduceToNat,↓reduceIte]
    simp only [J_letter_read_j1, valL, wk,if_true,if_false,forall_const,implies_true,ne_eq,eq_self,Nat.reduceEqDiff,Nat.reduceAdd,Nat.reduceMul,Nat.reduceSub,Nat.reduceLeDiff,Nat.reduceLT,Int.reduceEq,Int.reduceLT,Int.reduceLE,Int.reduceAdd,Int.reduceSub,Int.reduceMul,Int.reduceNeg,Int.reduceNe,reduceCtorEq,Int.reduceToNat,↓reduceIte]
    refine ⟨⟨nI r1, nI r2, nI r3, zeroQ, nI r4, nI r5, ⟨#[]⟩, []⟩, true, s5, _, ?_, rfl, b5, smallM_0 (by omega), ?_⟩
    · (simp only [rdpw, vM, mC, zeroQ, certsC, List.flatMap_nil, List.length_nil, List.map_nil]) <;> rfl
    · have h2 := bdN (F := fun g p => bd (rNum S big p) fun s p => bd (rNum S 100 p) fun e p => bd (rNum S big p) fun v p => finM S ⟨3, g, s, zeroQ, e, v, ⟨#[]⟩, []⟩ p) s1.2 h1 e2
      rw [← d2] at h2
      have h3 := bdN s2.2 h2 e3
      rw [← d3] at h3
      have h4 := bdN s3.2 h3 e4
      rw [← d4] at h4
      have h5 := bdN s4.2 h4 e5
      rw [← d5] at h5
      rw [k3]
      exact h5
  · rw [if_neg (show ¬ nI r1 = 1 by omega), if_neg (show ¬ nI r1 = 2 by omega), if_neg (show ¬ nI r1 = 3 by omega), if_pos (show nI r1 = 4 by omega)] at h1
    obtain ⟨r2, e2⟩ : ∃ r, r = rW S s1 := ⟨_, rfl⟩
    refine ACalls.useE (a_word' (id := 1) (s := s1) rfl hS b1 e2) ?_
    rintro q2 hq2 _ _ ⟨rfl, rfl⟩
    obtain ⟨s2, d2⟩ : ∃ s, s = stO r2 q2 := ⟨_, rfl⟩
    rw [← d2]
    have b2 : s2.2 ≤ S.size := by rw [d2, e2]; exact rW_le hq2
    simp only [J_letter_read_j1, valL, wk,if_true,if_false,forall_const,implies_true,ne_eq,eq_self,Nat.reduceEqDiff,Nat.reduceAdd,Nat.reduceMul,Nat.reduceSub,Nat.reduceLeDiff,Nat.reduceLT,Int.reduceEq,Int.reduceLT,Int.reduceLE,Int.reduceAdd,Int.reduceSub,Int.reduceMul,Int.reduceNeg,Int.reduceNe,reduceCtorEq,Int.reduceToNat,↓reduceIte]
    refine ⟨⟨nI r1, 0, 0, zeroQ, 0, 0, nS r2, []⟩, true, s2, _, ?_, rfl, b2, ⟨by show (0 : Nat) < 65536; omega, smallE_0 0, by show (nS r2).size ≤ 1000; rw [e2]; exact Nat.le_trans rW_small (by omega), Nat.zero_le _, fun c hc => by simp at hc⟩, ?_⟩
    · (simp only [rdpw, vM, mC, zeroQ, certsC, List.flatMap_nil, List.length_nil, List.map_nil]) <;> rfl
    · have h2 := bdW (F := fun w p => finM S ⟨4, 0, 0, zeroQ, 0, 0, w, []⟩ p) q2 h1 e2
      rw [← d2] at h2
      rw [k4]
      exact h2
  · rw [if_neg (show ¬ nI r1 = 1 by omega), if_neg (show ¬ nI r1 = 2 by omega), if_neg (show ¬ nI r1 = 3 by omega), if_neg (show ¬ nI r1 = 4 by omega), if_neg (show ¬ nI r1 = 5 by omega)] at h1
    simp only [J_letter_read_j1, valL, wk,if_true,if_false,forall_const,implies_true,ne_eq,eq_self,Nat.reduceEqDiff,Nat.reduceAdd,Nat.reduceMul,Nat.reduceSub,Nat.reduceLeDiff,Nat.reduceLT,Int.reduceEq,Int.reduceLT,Int.reduceLE,Int.reduceAdd,Int.reduceSub,Int.reduceMul,Int.reduceNeg,Int.reduceNe,reduceCtorEq,Int.reduceToNat,↓reduceIte]
    refine ⟨⟨nI r1, 0, 0, zeroQ, 0, 0, ⟨#[]⟩, []⟩, true, s1, _, ?_, rfl, b1, smallM_0 (by omega), ?_⟩
    · (simp only [rdpw, vM, mC, zeroQ, certsC, List.flatMap_nil, List.length_nil, List.map_nil]) <;> rfl
    · rw [h1, finM_kind0 (by show (nI r1 : Int) = 0; omega)]
      simp
def vDec (r : Option Lm) : AV := match r with
  | some m => .tup [vM m, .int .i64 0]
  | none => .tup [vM zeroM, .int .i64 2]
theorem free_vDec (r : Option Lm) : free (vDec r) = true := by cases r <;> simp [vDec, free, free.frees, free_vM]
set_option maxRecDepth 100000 in
set_option maxHeartbeats 8000000 in
theorem p_ldec (S : ByteArray) : PCalls Try.prog 9 [.str S] (vDec (decM S)) := by
  refine pcalls_of rfl (free_vDec _) (ACalls.deep (acalls_of mixed J_letter_Decode_ok (Nat.le_of_ble_eq_true rfl) ?_)); simp only [J_letter_Decode, wk,if_true,if_false,forall_const,implies_true,ne_eq,eq_self,Nat.reduceEqDiff,Nat.reduceAdd,Nat.reduceMul,Nat.reduceSub,Nat.reduceLeDiff,Nat.reduceLT,Int.reduceEq,Int.reduceLT,Int.reduceLE,Int.reduceAdd,Int.reduceSub,Int.reduceMul,Int.reduceNeg,Int.reduceNe,reduceCtorEq,Int.reduceToNat,↓reduceIte]
  have zero : (rdp (.tup [.agg [.int .i64 0, .int .u16 0, .int .i64 0, .int .i64 0, .int .i64 0, .int .i64 0, .int .i64 0, .lst .clip 0 [], .int .i64 0, .int .i64 0, .str ⟨#[]⟩, .lst .clip 0 []], .int .i64 2]) : AV) = vDec none := by
    (simp only [rdpw, vDec, vM, mC, zeroM, zeroQ, certsC, List.flatMap_nil, List.length_nil, List.map_nil]) <;> rfl
  refine ⟨fun hg => ?_, fun hg => ?_⟩
  · have : decM S = none := by unfold decM decP2; rw [if_pos (by omega)]
    rw [this]
    simp only [valL, wk,if_true,if_false,forall_const,implies_true,ne_eq,eq_self,Nat.reduceEqDiff,Nat.reduceAdd,Nat.reduceMul,Nat.reduceSub,Nat.reduceLeDiff,Nat.reduceLT,Int.reduceEq,Int.reduceLT,Int.reduceLE,Int.reduceAdd,Int.reduceSub,Int.reduceMul,Int.reduceNeg,Int.reduceNe,reduceCtorEq,Int.reduceToNat,↓reduceIte]
    exact zero
  · have hs : S.size ≤ 4000 := by omega
    refine ACalls.use (a_from S) ?_; rintro _ _ ⟨rfl, rfl⟩; simp only [wk,if_true,if_false,forall_const,implies_true,ne_eq,eq_self,Nat.reduceEqDiff,Nat.reduceAdd,Nat.reduceMul,Nat.reduceSub,Nat.reduceLeDiff,Nat.reduceLT,Int.reduceEq,Int.reduceLT,Int.reduceLE,Int.reduceAdd,Int.reduceSub,Int.reduceMul,Int.reduceNeg,Int.reduceNe,reduceCtorEq,Int.reduceToNat,↓reduceIte]
    refine ACalls.use (a_read hs) ?_
    rintro _ _ ⟨m, ok, s1, ey, rfl, rfl, b1, sm, hD⟩
    simp only [vM, mC, wk,if_true,if_false,forall_const,implies_true,ne_eq,eq_self,Nat.reduceEqDiff,Nat.reduceAdd,Nat.reduceMul,Nat.reduceSub,Nat.reduceLeDiff,Nat.reduceLT,Int.reduceEq,Int.reduceLT,Int.reduceLE,Int.reduceAdd,Int.reduceSub,Int.reduceMul,Int.reduceNeg,Int.reduceNe,reduceCtorEq,Int.reduceToNat,↓reduceIte]
    have qm := p_lmay m sm
    simp only [vM, mC] at qm
    have yes : decM S = some m → (rdp (.tup [.agg (mC m), .int .i64 0]) : AV) = vDec (decM S) := fun h => by
      rw [h]
      simp only [vDec, vM, mC, rdpw, rdps_str, rdps_certs]
    have okm : s1.1 = false → ok = true → ¬ s1.2 < S.size → fitsE m = true → decM S = some m ∧ okM m = true := fun h1 h2 h3 h4 => by
      have hd : decM S = some m := by rw [hD, h1, h2]; simp [finM, h3, h4]
      refine ⟨hd, ?_⟩
      have := (decP2_up hd).1
      simp only [okM, h4, Bool.true_and, decide_eq_true_eq, this]
      simpa using hs
    refine ⟨fun hok => ?_, fun hok => ?_⟩
    · refine ACalls.use (a_idone (S := S) (s := s1) rfl (by omega) b1) ?_; rintro _ _ ⟨rfl, rfl⟩; simp only [wk,if_true,if_false,forall_const,implies_true,ne_eq,eq_self,Nat.reduceEqDiff,Nat.reduceAdd,Nat.reduceMul,Nat.reduceSub,Nat.reduceLeDiff,Nat.reduceLT,Int.reduceEq,Int.reduceLT,Int.reduceLE,Int.reduceAdd,Int.reduceSub,Int.reduceMul,Int.reduceNeg,Int.reduceNe,reduceCtorEq,Int.reduceToNat,↓reduceIte]
      cases hb : (s1.1 || decide (s1.2 < S.size)) with
      | true =>
        have hn : decM S = none := by
          rw [hD, hok]
          simp only [Bool.or_eq_true, decide_eq_true_eq] at hb
          rcases hb with hb | hb
          · simp [hb]
          · simp [finM, hb]
        rw [hn]
        simp only [eI, valL, wk,if_true,if_false,forall_const,implies_true,ne_eq,eq_self,Nat.reduceEqDiff,Nat.reduceAdd,Nat.reduceMul,Nat.reduceSub,Nat.reduceLeDiff,Nat.reduceLT,Int.reduceEq,Int.reduceLT,Int.reduceLE,Int.reduceAdd,Int.reduceSub,Int.reduceMul,Int.reduceNeg,Int.reduceNe,reduceCtorEq,Int.reduceToNat,↓reduceIte]
        first | exact zero | (refine ⟨fun _ => zero, fun h => by omega⟩) | skip
      | false =>
        simp only [Bool.or_eq_false_iff, decide_eq_false_iff_not] at hb
        simp only [eI, wk,if_true,if_false,forall_const,implies_true,ne_eq,eq_self,Nat.reduceEqDiff,Nat.reduceAdd,Nat.reduceMul,Nat.reduceSub,Nat.reduceLeDiff,Nat.reduceLT,Int.reduceEq,Int.reduceLT,Int.reduceLE,Int.reduceAdd,Int.reduceSub,Int.reduceMul,Int.reduceNeg,Int.reduceNe,reduceCtorEq,Int.reduceToNat,↓reduceIte]
        refine PCalls.use (qm) ?_; simp only [wk,if_true,if_false,forall_const,implies_true,ne_eq,eq_self,Nat.reduceEqDiff,Nat.reduceAdd,Nat.reduceMul,Nat.reduceSub,Nat.reduceLeDiff,Nat.reduceLT,Int.reduceEq,Int.reduceLT,Int.reduceLE,Int.reduceAdd,Int.reduceSub,Int.reduceMul,Int.reduceNeg,Int.reduceNe,reduceCtorEq,Int.reduceToNat,↓reduceIte]
        refine ⟨fun h2 => ?_, fun h2 => ?_⟩
        · have hn : decM S = none := by
            cases hf : fitsE m with
            | true => rw [(okm hb.1 hok hb.2 hf).2] at h2; cases h2
            | false => rw [hD, hok, hb.1]; simp [finM, hf]
          rw [hn]
          simp only [valL, wk,if_true,if_false,forall_const,implies_true,ne_eq,eq_self,Nat.reduceEqDiff,Nat.reduceAdd,Nat.reduceMul,Nat.reduceSub,Nat.reduceLeDiff,Nat.reduceLT,Int.reduceEq,Int.reduceLT,Int.reduceLE,Int.reduceAdd,Int.reduceSub,Int.reduceMul,Int.reduceNeg,Int.reduceNe,reduceCtorEq,Int.reduceToNat,↓reduceIte]
          exact zero
        · have hf : fitsE m = true := by simp only [okM, Bool.and_eq_true] at h2; exact h2.1
          simp only [valL, wk,if_true,if_false,forall_const,implies_true,ne_eq,eq_self,Nat.reduceEqDiff,Nat.reduceAdd,Nat.reduceMul,Nat.reduceSub,Nat.reduceLeDiff,Nat.reduceLT,Int.reduceEq,Int.reduceLT,Int.reduceLE,Int.reduceAdd,Int.reduceSub,Int.reduceMul,Int.reduceNeg,Int.reduceNe,reduceCtorEq,Int.reduceToNat,↓reduceIte]
          exact yes (okm hb.1 hok hb.2 hf).1
    · have hn : decM S = none := by rw [hD, hok]; simp
      rw [hn]
      simp only [valL, wk,if_true,if_false,forall_const,implies_true,ne_eq,eq_self,Nat.reduceEqDiff,Nat.reduceAdd,Nat.reduceMul,Nat.reduceSub,Nat.reduceLeDiff,Nat.reduceLT,Int.reduceEq,Int.reduceLT,Int.reduceLE,Int.reduceAdd,Int.reduceSub,Int.reduceMul,Int.reduceNeg,Int.reduceNe,reduceCtorEq,Int.reduceToNat,↓reduceIte]
      exact zero
end Go.Proofs.Ytpjlkefadnbgdaa

/- awake and large of the laws on messages. -/
namespace Go.Proofs.Ytpjlkefadnbgdaa
set_option linter.unusedSimpArgs false
set_option linter.unusedVariables false
open Go.RowKit Go.Lib

def crtW (c : Crt) : List ByteArray := c.speaker :: c.words
def allW (m : Lm) : List ByteArray := m.ask.ent.who ++ m.certs.flatMap crtW
def largeM (m : Lm) : Bool := decide (100 < m.word.size) || (decide (30 < m.ask.ent.who.length) || (decide (12 < m.certs.length) || ((m.certs.any fun c => decide (30 < c.words.length)) || (allW m).any fun w => decide (100 < w.size))))
theorem largeM_iff {m : Lm} : largeM m = true ↔ (100 < m.word.size ∨ 30 < m.ask.ent.who.length ∨ 12 < m.certs.length ∨ (∃ c ∈ m.certs, 30 < c.words.length) ∨ ∃ w ∈ allW m, 100 < w.size) := by
  simp only [largeM, Bool.or_eq_true, decide_eq_true_eq, List.any_eq_true]
theorem take_flat {l : List Crt} {i : Nat} (h : i < l.length) : (l.take (i + 1)).flatMap crtW = (l.take i).flatMap crtW ++ crtW l[i] := by
  rw [List.take_succ_eq_append_getElem h, List.flatMap_append]; simp
theorem flat_few {l : List Crt} (h : ∀ c ∈ l, c.words.length ≤ 30) : (l.flatMap crtW).length ≤ 31 * l.length := by
  induction l with
  | nil => simp
  | cons c l ih =>
    have h1 := h c (by simp)
    have h2 := ih (fun x hx => h x (by simp [hx]))
    simp only [List.flatMap_cons, List.length_append, crtW, List.length_cons]
    omega
theorem allW_few {m : Lm} (h : ∀ c ∈ m.certs, c.words.length ≤ 30) (h2 : ¬ (30 : Int) < (m.ask.ent.who.length : Int)) (h3 : ¬ (12 : Int) < (m.certs.length : Int)) : (allW m).length ≤ 402 := by
  have := flat_few h
  simp only [allW, List.length_append]
  omega
set_option maxRecDepth 100000 in
set_option maxHeartbeats 8000000 in
theorem p_large22 (m : Lm) : PCalls Try.prog 7 [vM m] (.bool (largeM m)) := by
  refine pcalls_of (by simp [free.frees, free_vM]) rfl (acalls_of mixed J_law22_large_ok (Nat.le_of_ble_eq_true rfl) ?_); simp only [J_law22_large, vM, mC, wk,if_true,if_false,forall_const,implies_true,ne_eq,eq_self,Nat.reduceEqDiff,Nat.reduceAdd,Nat.reduceMul,Nat.reduceSub,Nat.reduceLeDiff,Nat.reduceLT,Int.reduceEq,Int.reduceLT,Int.reduceLE,Int.reduceAdd,Int.reduceSub,Int.reduceMul,Int.reduceNeg,Int.reduceNe,reduceCtorEq,Int.reduceToNat,↓reduceIte]
  have yes : (100 < m.word.size ∨ 30 < m.ask.ent.who.length ∨ 12 < m.certs.length ∨ (∃ c ∈ m.certs, 30 < c.words.length) ∨ ∃ w ∈ allW m, 100 < w.size) → AV.bool true = .bool (largeM m) := fun h => by rw [largeM_iff.2 h]
  refine ⟨fun h1 => ⟨fun h2 => ⟨fun h3 => yes (.inr (.inr (.inl (by omega)))), fun h3 => ?_⟩, fun h2 => yes (.inr (.inl (by omega)))⟩, fun h1 => yes (.inl (by omega))⟩
  refine ⟨⟨by simp, by omega, by omega⟩, ?_⟩
  refine W_loop (fun n fr h' => ∃ (i : Nat), i ≤ m.certs.length ∧ n = m.certs.length - i ∧ (∀ c ∈ m.certs.take i, c.words.length ≤ 30) ∧ h' = [some (false, mC m)] ∧ fr = [(1, .ptr 0 0), (3, .lst (.own 31) (m.ask.ent.who ++ (m.certs.take i).flatMap crtW).length ((m.ask.ent.who ++ (m.certs.take i).flatMap crtW).map .str)), (32, .int .i64 m.certs.length), (33, .int .i64 i)]) m.certs.length ⟨0, by omega, by omega, by simp, rfl, by simp; rfl⟩ ?_
  rintro n fr h' ⟨i, hi, rfl, hall, rfl, rfl⟩
  simp only [J_law22_large_j4, mC, wk,if_true,if_false,forall_const,implies_true,ne_eq,eq_self,Nat.reduceEqDiff,Nat.reduceAdd,Nat.reduceMul,Nat.reduceSub,Nat.reduceLeDiff,Nat.reduceLT,Int.reduceEq,Int.reduceLT,Int.reduceLE,Int.reduceAdd,Int.reduceSub,Int.reduceMul,Int.reduceNeg,Int.reduceNe,reduceCtorEq,Int.reduceToNat,↓reduceIte]
  refine ⟨fun hlt => ?_, fun hge => ?_⟩
  · have hil : i < m.certs.length := by omega
    have hd := certsC_at hil
    have hmem := List.getElem_mem hil
    have hin : ((0 ≤ (i : Int)) ∧ (i : Int) < (m.certs.length : Int)) = True := by simp; omega
    have hfew := flat_few hall
    have htl : (m.certs.take i).length ≤ 12 := by simp; omega
    simp only [hin, hd, true_and, wk,if_true,if_false,forall_const,implies_true,ne_eq,eq_self,Nat.reduceEqDiff,Nat.reduceAdd,Nat.reduceMul,Nat.reduceSub,Nat.reduceLeDiff,Nat.reduceLT,Int.reduceEq,Int.reduceLT,Int.reduceLE,Int.reduceAdd,Int.reduceSub,Int.reduceMul,Int.reduceNeg,Int.reduceNe,reduceCtorEq,Int.reduceToNat,↓reduceIte]
    refine ⟨fun h4 => yes (.inr (.inr (.inr (.inl ⟨_, hmem, by omega⟩)))), fun h4 => ?_⟩
    have hlen : (m.ask.ent.who ++ (m.certs.take i).flatMap crtW).length ≤ 402 := by rw [List.length_append]; omega
    refine ⟨⟨by omega, by omega⟩, ⟨by simp, by omega, by omega⟩, inR_of (by omega) (by omega), m.certs.length - (i + 1), by omega, i + 1, by omega, rfl, fun c hc => ?_, ?_⟩
    · rw [List.take_succ_eq_append_getElem hil, List.mem_append, List.mem_singleton] at hc
      rcases hc with hc | rfl
      · exact hall c hc
      · omega
    · rw [take_flat hil, ← List.append_assoc]
      simp [crtW]
      omega
  · have : i = m.certs.length := by omega
    subst this
    rw [List.take_length] at hall ⊢
    simp only [J_law22_large_j3, wk,if_true,if_false,forall_const,implies_true,ne_eq,eq_self,Nat.reduceEqDiff,Nat.reduceAdd,Nat.reduceMul,Nat.reduceSub,Nat.reduceLeDiff,Nat.reduceLT,Int.reduceEq,Int.reduceLT,Int.reduceLE,Int.reduceAdd,Int.reduceSub,Int.reduceMul,Int.reduceNeg,Int.reduceNe,reduceCtorEq,Int.reduceToNat,↓reduceIte]
    refine W_loop (fun n fr h' => ∃ (i : Nat), i ≤ (allW m).length ∧ n = (allW m).length - i ∧ (∀ w ∈ (allW m).take i, ¬ 100 < w.size) ∧ fr = [(3, .lst (.own 31) (allW m).length ((allW m).map .str)), (62, .int .i64 (allW m).length), (63, .int .i64 i)]) (allW m).length ⟨0, by omega, by omega, by simp, rfl⟩ ?_
    rintro n fr h' ⟨i, hi, rfl, hall2, rfl⟩
    simp only [J_law22_large_j2, wk,if_true,if_false,forall_const,implies_true,ne_eq,eq_self,Nat.reduceEqDiff,Nat.reduceAdd,Nat.reduceMul,Nat.reduceSub,Nat.reduceLeDiff,Nat.reduceLT,Int.reduceEq,Int.reduceLT,Int.reduceLE,Int.reduceAdd,Int.reduceSub,Int.reduceMul,Int.reduceNeg,Int.reduceNe,reduceCtorEq,Int.reduceToNat,↓reduceIte]
    refine ⟨fun hlt => ?_, fun hge => ?_⟩
    · have hil : i < (allW m).length := by omega
      have hd : ((allW m).map AV.str).drop (i : Int).toNat = .str (allW m)[i] :: ((allW m).map AV.str).drop (i + 1) := by rw [show (i : Int).toNat = i by omega, drop_str hil]
      have hin : ((0 ≤ (i : Int)) ∧ (i : Int) < ((allW m).length : Int)) = True := by simp; omega
      simp only [hin, hd, true_and, wk,if_true,if_false,forall_const,implies_true,ne_eq,eq_self,Nat.reduceEqDiff,Nat.reduceAdd,Nat.reduceMul,Nat.reduceSub,Nat.reduceLeDiff,Nat.reduceLT,Int.reduceEq,Int.reduceLT,Int.reduceLE,Int.reduceAdd,Int.reduceSub,Int.reduceMul,Int.reduceNeg,Int.reduceNe,reduceCtorEq,Int.reduceToNat,↓reduceIte]
      refine ⟨fun h4 => yes (.inr (.inr (.inr (.inr ⟨_, List.getElem_mem hil, by omega⟩)))), fun h4 => ⟨inR_of (by have := allW_few hall h2 h3; omega) (by have := allW_few hall h2 h3; omega), (allW m).length - (i + 1), by omega, i + 1, by omega, rfl, fun w hw => ?_, by simp⟩⟩
      rcases (take_mem_succ hil).1 hw with h | h
      · exact hall2 w h
      · subst h; omega
    · rw [List.take_of_length_le (by omega)] at hall2
      simp only [J_law22_large_j1, wk,if_true,if_false,forall_const,implies_true,ne_eq,eq_self,Nat.reduceEqDiff,Nat.reduceAdd,Nat.reduceMul,Nat.reduceSub,Nat.reduceLeDiff,Nat.reduceLT,Int.reduceEq,Int.reduceLT,Int.reduceLE,Int.reduceAdd,Int.reduceSub,Int.reduceMul,Int.reduceNeg,Int.reduceNe,reduceCtorEq,Int.reduceToNat,↓reduceIte]
      refine bool_eq ?_
      cases hb : largeM m with
      | false => rfl
      | true =>
        rcases largeM_iff.1 hb with h | h | h | ⟨c, hc, h⟩ | ⟨w, hw, h⟩
        · omega
        · omega
        · omega
        · have := hall c hc; omega
        · exact absurd h (hall2 w hw)
theorem not_large22 {m : Lm} (hg : m.chan < 65536) (hsg : ∀ c ∈ m.certs, c.signer < 65536) (h : largeM m = false) : smallM m := by
  have hn : ¬ (100 < m.word.size ∨ 30 < m.ask.ent.who.length ∨ 12 < m.certs.length ∨ (∃ c ∈ m.certs, 30 < c.words.length) ∨ ∃ w ∈ allW m, 100 < w.size) := fun hh => by rw [largeM_iff.2 hh] at h; cases h
  simp only [not_or, not_exists, not_and] at hn
  obtain ⟨h1, h2, h3, h4, h5⟩ := hn
  have h5' : ∀ w ∈ allW m, w.size ≤ 100 := fun w hw => by have := h5 w hw; omega
  refine ⟨hg, ⟨by omega, fun w hw => ?_⟩, by omega, by omega, fun c hc => ⟨hsg c hc, ?_, ?_, fun w hw => ?_⟩⟩
  · have := h5' w (by simp only [allW, List.mem_append]; exact .inl hw); omega
  · have := h5' c.speaker (by simp only [allW, List.mem_append, List.mem_flatMap]; exact .inr ⟨c, hc, by simp [crtW]⟩); omega
  · have := h4 c hc; omega
  · have := h5' w (by simp only [allW, List.mem_append, List.mem_flatMap]; exact .inr ⟨c, hc, by simp [crtW, hw]⟩); omega
def mA : Lm := ⟨3, 16385, 3, zeroQ, 0, 8, ⟨#[]⟩, []⟩
def mF : Lm := ⟨4, 0, 0, zeroQ, 0, 0, ⟨#[32, 1]⟩, []⟩
def mX : Lm := ⟨3, 16385, 3, zeroQ, 0, 8, ⟨#[120]⟩, []⟩
def bA : List UInt8 := [3, 129, 128, 1, 3, 0, 8]
theorem k_msgA : msgB mA = bA := by
  have h1 : num 16385 = [129, 128, 1] := by rw [num_ge (by decide), num_ge (by decide), num_lt (by decide)]; rfl
  have h2 : num 3 = [3] := by rw [num_lt (by decide)]; rfl
  have h3 : num 0 = [0] := by rw [num_lt (by decide)]; rfl
  have h4 : num 8 = [8] := by rw [num_lt (by decide)]; rfl
  have e1 : mA.kind = 3 := rfl
  have e2 : mA.chan = 16385 := rfl
  have e3 : mA.seq = 3 := rfl
  have e4 : mA.err = 0 := rfl
  have e5 : mA.value = 8 := rfl
  unfold msgB
  rw [e1, e2, e3, e4, e5, if_neg (by decide), if_neg (by decide), if_pos rfl]
  show num 3 ++ (num 16385 ++ (num 3 ++ (num 0 ++ num 8))) = bA
  rw [h1, h2, h3, h4]
  rfl
theorem k_fitA : fitsE mA = true := by kernel_rfl
theorem k_okA : okM mA = true := by
  unfold okM
  rw [k_fitA, k_msgA]
  rfl
theorem k_fitX : fitsE mX = false := by kernel_rfl
theorem k_fit0 : fitsE zeroM = false := by kernel_rfl
theorem k_decMA : decM ⟨bA.toArray⟩ = some mA := by kernel_rfl
theorem k_decMB : decM (⟨bA.toArray⟩ ++ ⟨#[63]⟩) = none := by
  rw [show (⟨bA.toArray⟩ ++ ⟨#[63]⟩ : ByteArray) = ⟨(bA ++ [63]).toArray⟩ from str_app2 bA [63]]
  kernel_rfl
theorem small_mA : smallM mA := smallM_0 (by decide)
theorem small_mF : smallM mF := ⟨by decide, smallE_0 0, by decide, by decide, fun c hc => by simp [mF] at hc⟩
theorem small_mX : smallM mX := ⟨by decide, smallE_0 0, by decide, by decide, fun c hc => by simp [mX] at hc⟩
abbrev rZ : AV := .agg [.int .i64 0, .int .u16 0, .int .i64 0, .int .i64 0, .int .i64 0, .int .i64 0, .int .i64 0, .lst .ro 0 [], .int .i64 0, .int .i64 0, .str ⟨#[]⟩, .lst .ro 0 []]
abbrev aA : AV := .agg [.int .i64 3, .int .u16 16385, .int .i64 3, .int .i64 0, .int .i64 0, .int .i64 0, .int .i64 0, .lst .clip 0 [], .int .i64 0, .int .i64 8, .str ⟨#[]⟩, .lst .clip 0 []]
abbrev rA : AV := .agg [.int .i64 3, .int .u16 16385, .int .i64 3, .int .i64 0, .int .i64 0, .int .i64 0, .int .i64 0, .lst .ro 0 [], .int .i64 0, .int .i64 8, .str ⟨#[]⟩, .lst .ro 0 []]
abbrev aF : AV := .agg [.int .i64 4, .int .u16 0, .int .i64 0, .int .i64 0, .int .i64 0, .int .i64 0, .int .i64 0, .lst .clip 0 [], .int .i64 0, .int .i64 0, .str ⟨#[32, 1]⟩, .lst .clip 0 []]
abbrev aX : AV := .agg [.int .i64 3, .int .u16 16385, .int .i64 3, .int .i64 0, .int .i64 0, .int .i64 0, .int .i64 0, .lst .clip 0 [], .int .i64 0, .int .i64 8, .str ⟨#[120]⟩, .lst .clip 0 []]
abbrev aZ : AV := .agg [.int .i64 0, .int .u16 0, .int .i64 0, .int .i64 0, .int .i64 0, .int .i64 0, .int .i64 0, .lst .clip 0 [], .int .i64 0, .int .i64 0, .str ⟨#[]⟩, .lst .clip 0 []]
theorem q22_enc : PCalls Try.prog 8 [aA] (.tup [.str ⟨#[3, 129, 128, 1, 3, 0, 8]⟩, .int .i64 0]) := by
  have q := p_lenc mA small_mA
  simp only [vEnc, encMS, encMN, k_okA, if_true, k_msgA] at q
  exact PCalls.argd (by simp only [rdpw]; exact q)
theorem q22_dec : PCalls Try.prog 9 [.str ⟨#[3, 129, 128, 1, 3, 0, 8]⟩] (.tup [rA, .int .i64 0]) := by
  have q := p_ldec ⟨bA.toArray⟩
  rw [k_decMA] at q
  exact q
theorem q22_decB : PCalls Try.prog 9 [.str (⟨#[3, 129, 128, 1, 3, 0, 8]⟩ ++ ⟨#[63]⟩)] (.tup [rZ, .int .i64 2]) := by
  have q := p_ldec (⟨bA.toArray⟩ ++ ⟨#[63]⟩)
  rw [k_decMB] at q
  exact q
theorem q22_mac : PCalls Try.prog 13 [aA] (.tup [.agg [.int .u16 16385, .int .i64 1, .int .i64 3, .str ⟨#[3, 129, 128, 1, 3, 0, 8]⟩], .int .i64 0]) := by
  have q := p_lmac mA small_mA
  unfold vMac at q
  rw [if_pos (.inr rfl), if_pos k_okA] at q
  simp only [macC, k_msgA] at q
  exact PCalls.argd (by simp only [rdpw]; exact q)
theorem q22_macF : PCalls Try.prog 13 [aF] (.tup [.agg [.int .u16 0, .int .i64 0, .int .i64 0, .str ⟨#[]⟩], .int .i64 1]) := by
  have q := p_lmac mF small_mF
  unfold vMac at q
  rw [if_neg (by decide)] at q
  exact PCalls.argd (by simp only [rdpw]; exact q)
theorem q22_same : PCalls Try.prog 10 [aA, rA] (.bool true) := by
  have q := p_lsame mA mA (by decide) (by decide) (fun c hc => by simp [mA] at hc)
  rw [sameM_iff.2 rfl] at q
  exact PCalls.argd (by simp only [rdpw]; exact q)
theorem q22_sameX : PCalls Try.prog 10 [aA, aX] (.bool false) := by
  have q := p_lsame mA mX (by decide) (by decide) (fun c hc => by simp [mA] at hc)
  rw [show sameM mA mX = false by kernel_rfl] at q
  exact PCalls.argd (by simp only [rdpw]; exact q)
theorem q22_may : PCalls Try.prog 12 [aA] (.bool true) := by
  have q := p_lmay mA small_mA
  rw [k_okA] at q
  exact PCalls.argd (by simp only [rdpw]; exact q)
theorem q22_mayX : PCalls Try.prog 12 [aX] (.bool false) := by
  have q := p_lmay mX small_mX
  rw [show okM mX = false by unfold okM; rw [k_fitX]; rfl] at q
  exact PCalls.argd (by simp only [rdpw]; exact q)
theorem q22_mayZ : PCalls Try.prog 12 [aZ] (.bool false) := by
  have q := p_lmay zeroM (smallM_0 (by decide))
  rw [show okM zeroM = false by unfold okM; rw [k_fit0]; rfl] at q
  exact PCalls.argd (by simp only [rdpw]; exact q)
theorem k_eqA : eqCells [0, 0, 0, 1] [.int .u16 16385, .int .i64 1, .int .i64 3, .str ⟨#[3, 129, 128, 1, 3, 0, 8]⟩] [.int .u16 16385, .int .i64 1, .int .i64 3, .str ⟨#[3, 129, 128, 1, 3, 0, 8]⟩] = some true := by
  simp [eqCells, eqCell]
theorem q22_of : PCalls Try.prog 14 [.lst .ro 1 [.int .u16 8193]] (.str ⟨#[32, 1]⟩) := p_rof [8193] (by decide) (by decide)
set_option maxRecDepth 100000 in
set_option maxHeartbeats 8000000 in
theorem p_awake22 : PCalls Try.prog 6 [] (.bool true) := by
  refine pcalls_of (by first | rfl | simp [free, free.frees, frees_str, frees_u8, frees_u16]) (by first | rfl | simp [free, free.frees, frees_str, frees_u8, frees_u16]) (acalls_of mixed J_law22_awake_ok (Nat.le_of_ble_eq_true rfl) ?_); simp only [J_law22_awake, wk,if_true,if_false,forall_const,implies_true,ne_eq,eq_self,Nat.reduceEqDiff,Nat.reduceAdd,Nat.reduceMul,Nat.reduceSub,Nat.reduceLeDiff,Nat.reduceLT,Int.reduceEq,Int.reduceLT,Int.reduceLE,Int.reduceAdd,Int.reduceSub,Int.reduceMul,Int.reduceNeg,Int.reduceNe,reduceCtorEq,Int.reduceToNat,↓reduceIte]
  refine PCalls.use (q22_enc) ?_; simp only [wk,if_true,if_false,forall_const,implies_true,ne_eq,eq_self,Nat.reduceEqDiff,Nat.reduceAdd,Nat.reduceMul,Nat.reduceSub,Nat.reduceLeDiff,Nat.reduceLT,Int.reduceEq,Int.reduceLT,Int.reduceLE,Int.reduceAdd,Int.reduceSub,Int.reduceMul,Int.reduceNeg,Int.reduceNe,reduceCtorEq,Int.reduceToNat,↓reduceIte]
  refine PCalls.use (q22_dec) ?_; simp only [wk,if_true,if_false,forall_const,implies_true,ne_eq,eq_self,Nat.reduceEqDiff,Nat.reduceAdd,Nat.reduceMul,Nat.reduceSub,Nat.reduceLeDiff,Nat.reduceLT,Int.reduceEq,Int.reduceLT,Int.reduceLE,Int.reduceAdd,Int.reduceSub,Int.reduceMul,Int.reduceNeg,Int.reduceNe,reduceCtorEq,Int.reduceToNat,↓reduceIte]
  refine PCalls.use (q22_mac) ?_; simp only [wk,if_true,if_false,forall_const,implies_true,ne_eq,eq_self,Nat.reduceEqDiff,Nat.reduceAdd,Nat.reduceMul,Nat.reduceSub,Nat.reduceLeDiff,Nat.reduceLT,Int.reduceEq,Int.reduceLT,Int.reduceLE,Int.reduceAdd,Int.reduceSub,Int.reduceMul,Int.reduceNeg,Int.reduceNe,reduceCtorEq,Int.reduceToNat,↓reduceIte]
  refine PCalls.use (q22_of) ?_; simp only [wk,if_true,if_false,forall_const,implies_true,ne_eq,eq_self,Nat.reduceEqDiff,Nat.reduceAdd,Nat.reduceMul,Nat.reduceSub,Nat.reduceLeDiff,Nat.reduceLT,Int.reduceEq,Int.reduceLT,Int.reduceLE,Int.reduceAdd,Int.reduceSub,Int.reduceMul,Int.reduceNeg,Int.reduceNe,reduceCtorEq,Int.reduceToNat,↓reduceIte]
  refine PCalls.use (q22_macF) ?_; simp only [wk,if_true,if_false,forall_const,implies_true,ne_eq,eq_self,Nat.reduceEqDiff,Nat.reduceAdd,Nat.reduceMul,Nat.reduceSub,Nat.reduceLeDiff,Nat.reduceLT,Int.reduceEq,Int.reduceLT,Int.reduceLE,Int.reduceAdd,Int.reduceSub,Int.reduceMul,Int.reduceNeg,Int.reduceNe,reduceCtorEq,Int.reduceToNat,↓reduceIte]
  refine ⟨by decide, ?_⟩
  refine PCalls.use (q22_decB) ?_; simp only [wk,if_true,if_false,forall_const,implies_true,ne_eq,eq_self,Nat.reduceEqDiff,Nat.reduceAdd,Nat.reduceMul,Nat.reduceSub,Nat.reduceLeDiff,Nat.reduceLT,Int.reduceEq,Int.reduceLT,Int.reduceLE,Int.reduceAdd,Int.reduceSub,Int.reduceMul,Int.reduceNeg,Int.reduceNe,reduceCtorEq,Int.reduceToNat,↓reduceIte]
  refine PCalls.use (q22_same) ?_; simp only [wk,if_true,if_false,forall_const,implies_true,ne_eq,eq_self,Nat.reduceEqDiff,Nat.reduceAdd,Nat.reduceMul,Nat.reduceSub,Nat.reduceLeDiff,Nat.reduceLT,Int.reduceEq,Int.reduceLT,Int.reduceLE,Int.reduceAdd,Int.reduceSub,Int.reduceMul,Int.reduceNeg,Int.reduceNe,reduceCtorEq,Int.reduceToNat,↓reduceIte]
  refine PCalls.use (q22_sameX) ?_; simp only [wk,if_true,if_false,forall_const,implies_true,ne_eq,eq_self,Nat.reduceEqDiff,Nat.reduceAdd,Nat.reduceMul,Nat.reduceSub,Nat.reduceLeDiff,Nat.reduceLT,Int.reduceEq,Int.reduceLT,Int.reduceLE,Int.reduceAdd,Int.reduceSub,Int.reduceMul,Int.reduceNeg,Int.reduceNe,reduceCtorEq,Int.reduceToNat,↓reduceIte]
  rw [k_eqA]
  simp only [wk,if_true,if_false,forall_const,implies_true,ne_eq,eq_self,Nat.reduceEqDiff,Nat.reduceAdd,Nat.reduceMul,Nat.reduceSub,Nat.reduceLeDiff,Nat.reduceLT,Int.reduceEq,Int.reduceLT,Int.reduceLE,Int.reduceAdd,Int.reduceSub,Int.reduceMul,Int.reduceNeg,Int.reduceNe,reduceCtorEq,Int.reduceToNat,↓reduceIte]
  refine PCalls.use (q22_may) ?_; simp only [wk,if_true,if_false,forall_const,implies_true,ne_eq,eq_self,Nat.reduceEqDiff,Nat.reduceAdd,Nat.reduceMul,Nat.reduceSub,Nat.reduceLeDiff,Nat.reduceLT,Int.reduceEq,Int.reduceLT,Int.reduceLE,Int.reduceAdd,Int.reduceSub,Int.reduceMul,Int.reduceNeg,Int.reduceNe,reduceCtorEq,Int.reduceToNat,↓reduceIte]
  refine PCalls.use (q22_mayX) ?_; simp only [wk,if_true,if_false,forall_const,implies_true,ne_eq,eq_self,Nat.reduceEqDiff,Nat.reduceAdd,Nat.reduceMul,Nat.reduceSub,Nat.reduceLeDiff,Nat.reduceLT,Int.reduceEq,Int.reduceLT,Int.reduceLE,Int.reduceAdd,Int.reduceSub,Int.reduceMul,Int.reduceNeg,Int.reduceNe,reduceCtorEq,Int.reduceToNat,↓reduceIte]
  refine PCalls.use (q22_mayZ) ?_; simp only [wk,if_true,if_false,forall_const,implies_true,ne_eq,eq_self,Nat.reduceEqDiff,Nat.reduceAdd,Nat.reduceMul,Nat.reduceSub,Nat.reduceLeDiff,Nat.reduceLT,Int.reduceEq,Int.reduceLT,Int.reduceLE,Int.reduceAdd,Int.reduceSub,Int.reduceMul,Int.reduceNeg,Int.reduceNe,reduceCtorEq,Int.reduceToNat,↓reduceIte]
end Go.Proofs.Ytpjlkefadnbgdaa

/- The document's Same of messages; LetterBack and LetterApart, over the abstract code. -/
namespace Go.Proofs.Ytpjlkefadnbgdaa
set_option linter.unusedSimpArgs false
set_option linter.unusedVariables false
open Go.RowKit Go.Lib

end Go.Proofs.Ytpjlkefadnbgdaa

/- LetterOdd, over the abstract code. -/
namespace Go.Proofs.Ytpjlkefadnbgdaa
set_option linter.unusedSimpArgs false
set_option linter.unusedVariables false
open Go.RowKit Go.Lib

def wOdd : ByteArray := ⟨#[32, 1]⟩
theorem odd0 {m : Lm} (h : okM { m with word := wOdd } = true) : m.kind = 4 := by
  simp only [okM, Bool.and_eq_true] at h
  have h := h.1
  simp only [fitsE, Bool.and_eq_true] at h
  obtain ⟨_, h⟩ := h
  have hw : decide (wOdd = ⟨#[]⟩) = false := by decide
  repeat' split at h
  all_goals first | assumption | simp [hw] at h
theorem odd1 {m : Lm} (h : okM { m with value := 7 } = true) : m.kind = 3 := by
  simp only [okM, Bool.and_eq_true] at h
  have h := h.1
  simp only [fitsE, Bool.and_eq_true, replyNo] at h
  obtain ⟨_, h⟩ := h
  repeat' split at h
  all_goals first | assumption | simp at h
theorem odd2 {m : Lm} (h : okM { m with seq := 7 } = true) : m.kind = 2 ∨ m.kind = 3 := by
  simp only [okM, Bool.and_eq_true] at h
  have h := h.1
  simp only [fitsE, Bool.and_eq_true] at h
  obtain ⟨_, h⟩ := h
  repeat' split at h
  all_goals first | omega | simp at h
theorem odd3 {m : Lm} (h : okM { m with err := 7 } = true) : m.kind = 3 := by
  simp only [okM, Bool.and_eq_true] at h
  have h := h.1
  simp only [fitsE, Bool.and_eq_true, replyNo] at h
  obtain ⟨_, h⟩ := h
  repeat' split at h
  all_goals first | assumption | simp at h
theorem odd4 {m : Lm} (h : okM { m with chan := 16390 } = true) : m.kind ≤ 3 := by
  simp only [okM, Bool.and_eq_true] at h
  have h := h.1
  simp only [fitsE, Bool.and_eq_true] at h
  obtain ⟨_, h⟩ := h
  repeat' split at h
  all_goals first | omega | simp at h
set_option maxRecDepth 100000 in
set_option maxHeartbeats 16000000 in
theorem a_lodd (m : Lm) (hg : m.chan < 65536) (hsg : ∀ c ∈ m.certs, c.signer < 65536) : ACalls Try.prog 5 [vM m] [] (fun a _ => a = .bool true) := by
  refine acalls_of mixed J_law22_LetterOdd_ok (Nat.le_of_ble_eq_true rfl) ?_; simp only [J_law22_LetterOdd, vM, mC, wk,if_true,if_false,forall_const,implies_true,ne_eq,eq_self,Nat.reduceEqDiff,Nat.reduceAdd,Nat.reduceMul,Nat.reduceSub,Nat.reduceLeDiff,Nat.reduceLT,Int.reduceEq,Int.reduceLT,Int.reduceLE,Int.reduceAdd,Int.reduceSub,Int.reduceMul,Int.reduceNeg,Int.reduceNe,reduceCtorEq,Int.reduceToNat,↓reduceIte]
  have ql := p_large22 m
  simp only [vM, mC] at ql
  refine PCalls.use (p_awake22) ?_; simp only [wk,if_true,if_false,forall_const,implies_true,ne_eq,eq_self,Nat.reduceEqDiff,Nat.reduceAdd,Nat.reduceMul,Nat.reduceSub,Nat.reduceLeDiff,Nat.reduceLT,Int.reduceEq,Int.reduceLT,Int.reduceLE,Int.reduceAdd,Int.reduceSub,Int.reduceMul,Int.reduceNeg,Int.reduceNe,reduceCtorEq,Int.reduceToNat,↓reduceIte]
  refine PCalls.use (ql) ?_; simp only [wk,if_true,if_false,forall_const,implies_true,ne_eq,eq_self,Nat.reduceEqDiff,Nat.reduceAdd,Nat.reduceMul,Nat.reduceSub,Nat.reduceLeDiff,Nat.reduceLT,Int.reduceEq,Int.reduceLT,Int.reduceLE,Int.reduceAdd,Int.reduceSub,Int.reduceMul,Int.reduceNeg,Int.reduceNe,reduceCtorEq,Int.reduceToNat,↓reduceIte]
  intro hl
  have sm := not_large22 hg hsg hl
  have qm := p_lmay m sm
  simp only [vM, mC] at qm
  refine PCalls.use (qm) ?_; simp only [wk,if_true,if_false,forall_const,implies_true,ne_eq,eq_self,Nat.reduceEqDiff,Nat.reduceAdd,Nat.reduceMul,Nat.reduceSub,Nat.reduceLeDiff,Nat.reduceLT,Int.reduceEq,Int.reduceLT,Int.reduceLE,Int.reduceAdd,Int.reduceSub,Int.reduceMul,Int.reduceNeg,Int.reduceNe,reduceCtorEq,Int.reduceToNat,↓reduceIte]
  intro hok
  refine PCalls.use (q22_of) ?_; simp only [wk,if_true,if_false,forall_const,implies_true,ne_eq,eq_self,Nat.reduceEqDiff,Nat.reduceAdd,Nat.reduceMul,Nat.reduceSub,Nat.reduceLeDiff,Nat.reduceLT,Int.reduceEq,Int.reduceLT,Int.reduceLE,Int.reduceAdd,Int.reduceSub,Int.reduceMul,Int.reduceNeg,Int.reduceNe,reduceCtorEq,Int.reduceToNat,↓reduceIte]
  have sm0 : smallM { m with word := wOdd } := ⟨sm.1, sm.2.1, (by show wOdd.size ≤ 1000; decide), sm.2.2.2⟩
  have sm4 : smallM { m with chan := 16390 } := ⟨(by show (16390 : Nat) < 65536; decide), sm.2⟩
  have q0 := p_lmay { m with word := wOdd } sm0
  have q1 := p_lmay { m with value := 7 } sm
  have q2 := p_lmay { m with seq := 7 } sm
  have q3 := p_lmay { m with err := 7 } sm
  have q4 := p_lmay { m with chan := 16390 } sm4
  simp only [vM, mC, wOdd] at q0 q1 q2 q3 q4
  refine ⟨by decide, by decide, by decide, by decide, by decide, ?_⟩
  refine W_loop (fun n fr h' => ∃ i : Nat, i ≤ 5 ∧ n = 5 - i ∧ h' = [some (false, mC m), some (false, [.int .i64 m.kind, .int .u16 m.chan, .int .i64 m.seq, .int .i64 m.ask.object, .int .i64 m.ask.op, .int .i64 m.ask.arg, .int .i64 m.ask.ent.op, .lst .ro m.ask.ent.who.length (m.ask.ent.who.map .str), .int .i64 m.err, .int .i64 m.value, .str ⟨#[32, 1]⟩, .lst .ro m.certs.length (certsC m.certs), .int .i64 m.kind, .int .u16 m.chan, .int .i64 m.seq, .int .i64 m.ask.object, .int .i64 m.ask.op, .int .i64 m.ask.arg, .int .i64 m.ask.ent.op, .lst .ro m.ask.ent.who.length (m.ask.ent.who.map .str), .int .i64 m.err, .int .i64 7, .str m.word, .lst .ro m.certs.length (certsC m.certs), .int .i64 m.kind, .int .u16 m.chan, .int .i64 7, .int .i64 m.ask.object, .int .i64 m.ask.op, .int .i64 m.ask.arg, .int .i64 m.ask.ent.op, .lst .ro m.ask.ent.who.length (m.ask.ent.who.map .str), .int .i64 m.err, .int .i64 m.value, .str m.word, .lst .ro m.certs.length (certsC m.certs), .int .i64 m.kind, .int .u16 m.chan, .int .i64 m.seq, .int .i64 m.ask.object, .int .i64 m.ask.op, .int .i64 m.ask.arg, .int .i64 m.ask.ent.op, .lst .ro m.ask.ent.who.length (m.ask.ent.who.map .str), .int .i64 7, .int .i64 m.value, .str m.word, .lst .ro m.certs.length (certsC m.certs), .int .i64 m.kind, .int .u16 16390, .int .i64 m.seq, .int .i64 m.ask.object, .int .i64 m.ask.op, .int .i64 m.ask.arg, .int .i64 m.ask.ent.op, .lst .ro m.ask.ent.who.length (m.ask.ent.who.map .str), .int .i64 m.err, .int .i64 m.value, .str m.word, .lst .ro m.certs.length (certsC m.certs)])] ∧ fr = [(1, .ptr 0 0), (3, .hs 1 5), (39, .int .i64 5), (40, .int .i64 i)]) 5 ⟨0, by omega, by omega, rfl, rfl⟩ ?_
  rintro n fr h' ⟨i, hi, rfl, rfl, rfl⟩
  simp only [J_law22_LetterOdd_j4, mC, wk,if_true,if_false,forall_const,implies_true,ne_eq,eq_self,Nat.reduceEqDiff,Nat.reduceAdd,Nat.reduceMul,Nat.reduceSub,Nat.reduceLeDiff,Nat.reduceLT,Int.reduceEq,Int.reduceLT,Int.reduceLE,Int.reduceAdd,Int.reduceSub,Int.reduceMul,Int.reduceNeg,Int.reduceNe,reduceCtorEq,Int.reduceToNat,↓reduceIte]
  refine ⟨fun hlt => ?_, fun hge => ?_⟩
  · have hi5 : i = 0 ∨ i = 1 ∨ i = 2 ∨ i = 3 ∨ i = 4 := by omega
    rcases hi5 with rfl | rfl | rfl | rfl | rfl
    all_goals simp only [Int.toNat_natCast, Int.natCast_zero, Int.natCast_one, Int.cast_ofNat_Int, wk,if_true,if_false,forall_const,implies_true,ne_eq,eq_self,Nat.reduceEqDiff,Nat.reduceAdd,Nat.reduceMul,Nat.reduceSub,Nat.reduceLeDiff,Nat.reduceLT,Int.reduceEq,Int.reduceLT,Int.reduceLE,Int.reduceAdd,Int.reduceSub,Int.reduceMul,Int.reduceNeg,Int.reduceNe,reduceCtorEq,Int.reduceToNat,↓reduceIte]
    · simp only [J_law22_LetterOdd_j2, wk,if_true,if_false,forall_const,implies_true,ne_eq,eq_self,Nat.reduceEqDiff,Nat.reduceAdd,Nat.reduceMul,Nat.reduceSub,Nat.reduceLeDiff,Nat.reduceLT,Int.reduceEq,Int.reduceLT,Int.reduceLE,Int.reduceAdd,Int.reduceSub,Int.reduceMul,Int.reduceNeg,Int.reduceNe,reduceCtorEq,Int.reduceToNat,↓reduceIte]
      repeat' (first | (refine PCalls.use q0 ?_; simp only [wk,if_true,if_false,forall_const,implies_true,ne_eq,eq_self,Nat.reduceEqDiff,Nat.reduceAdd,Nat.reduceMul,Nat.reduceSub,Nat.reduceLeDiff,Nat.reduceLT,Int.reduceEq,Int.reduceLT,Int.reduceLE,Int.reduceAdd,Int.reduceSub,Int.reduceMul,Int.reduceNeg,Int.reduceNe,reduceCtorEq,Int.reduceToNat,↓reduceIte]) | (refine ⟨by decide, ?_⟩) | (refine And.intro ?_ ?_) | intro _)
      all_goals first
        | (exfalso; have := odd0 ‹_›; omega)
        | decide
        | exact ⟨5 - 1, by omega, 1, by omega, rfl, rfl⟩
        | exact ⟨5 - 1, by omega, 1, by omega, rfl, rfl, rfl⟩
    · simp only [J_law22_LetterOdd_j3, J_law22_LetterOdd_j2, wk,if_true,if_false,forall_const,implies_true,ne_eq,eq_self,Nat.reduceEqDiff,Nat.reduceAdd,Nat.reduceMul,Nat.reduceSub,Nat.reduceLeDiff,Nat.reduceLT,Int.reduceEq,Int.reduceLT,Int.reduceLE,Int.reduceAdd,Int.reduceSub,Int.reduceMul,Int.reduceNeg,Int.reduceNe,reduceCtorEq,Int.reduceToNat,↓reduceIte]
      repeat' (first | (refine PCalls.use q1 ?_; simp only [wk,if_true,if_false,forall_const,implies_true,ne_eq,eq_self,Nat.reduceEqDiff,Nat.reduceAdd,Nat.reduceMul,Nat.reduceSub,Nat.reduceLeDiff,Nat.reduceLT,Int.reduceEq,Int.reduceLT,Int.reduceLE,Int.reduceAdd,Int.reduceSub,Int.reduceMul,Int.reduceNeg,Int.reduceNe,reduceCtorEq,Int.reduceToNat,↓reduceIte]) | (refine ⟨by decide, ?_⟩) | (refine And.intro ?_ ?_) | intro _)
      all_goals first
        | (exfalso; have := odd1 ‹_›; omega)
        | decide
        | exact ⟨5 - 2, by omega, 2, by omega, rfl, rfl⟩
        | exact ⟨5 - 2, by omega, 2, by omega, rfl, rfl, rfl⟩
    · simp only [J_law22_LetterOdd_j3, J_law22_LetterOdd_j2, wk,if_true,if_false,forall_const,implies_true,ne_eq,eq_self,Nat.reduceEqDiff,Nat.reduceAdd,Nat.reduceMul,Nat.reduceSub,Nat.reduceLeDiff,Nat.reduceLT,Int.reduceEq,Int.reduceLT,Int.reduceLE,Int.reduceAdd,Int.reduceSub,Int.reduceMul,Int.reduceNeg,Int.reduceNe,reduceCtorEq,Int.reduceToNat,↓reduceIte]
      repeat' (first | (refine PCalls.use q2 ?_; simp only [wk,if_true,if_false,forall_const,implies_true,ne_eq,eq_self,Nat.reduceEqDiff,Nat.reduceAdd,Nat.reduceMul,Nat.reduceSub,Nat.reduceLeDiff,Nat.reduceLT,Int.reduceEq,Int.reduceLT,Int.reduceLE,Int.reduceAdd,Int.reduceSub,Int.reduceMul,Int.reduceNeg,Int.reduceNe,reduceCtorEq,Int.reduceToNat,↓reduceIte]) | (refine ⟨by decide, ?_⟩) | (refine And.intro ?_ ?_) | intro _)
      all_goals first
        | (exfalso; have := odd2 ‹_›; omega)
        | decide
        | exact ⟨5 - 3, by omega, 3, by omega, rfl, rfl⟩
        | exact ⟨5 - 3, by omega, 3, by omega, rfl, rfl, rfl⟩
    · simp only [J_law22_LetterOdd_j3, J_law22_LetterOdd_j2, wk,if_true,if_false,forall_const,implies_true,ne_eq,eq_self,Nat.reduceEqDiff,Nat.reduceAdd,Nat.reduceMul,Nat.reduceSub,Nat.reduceLeDiff,Nat.reduceLT,Int.reduceEq,Int.reduceLT,Int.reduceLE,Int.reduceAdd,Int.reduceSub,Int.reduceMul,Int.reduceNeg,Int.reduceNe,reduceCtorEq,Int.reduceToNat,↓reduceIte]
      repeat' (first | (refine PCalls.use q3 ?_; simp only [wk,if_true,if_false,forall_const,implies_true,ne_eq,eq_self,Nat.reduceEqDiff,Nat.reduceAdd,Nat.reduceMul,Nat.reduceSub,Nat.reduceLeDiff,Nat.reduceLT,Int.reduceEq,Int.reduceLT,Int.reduceLE,Int.reduceAdd,Int.reduceSub,Int.reduceMul,Int.reduceNeg,Int.reduceNe,reduceCtorEq,Int.reduceToNat,↓reduceIte]) | (refine ⟨by decide, ?_⟩) | (refine And.intro ?_ ?_) | intro _)
      all_goals first
        | (exfalso; have := odd3 ‹_›; omega)
        | decide
        | exact ⟨5 - 4, by omega, 4, by omega, rfl, rfl⟩
        | exact ⟨5 - 4, by omega, 4, by omega, rfl, rfl, rfl⟩
    · simp only [J_law22_LetterOdd_j3, J_law22_LetterOdd_j2, wk,if_true,if_false,forall_const,implies_true,ne_eq,eq_self,Nat.reduceEqDiff,Nat.reduceAdd,Nat.reduceMul,Nat.reduceSub,Nat.reduceLeDiff,Nat.reduceLT,Int.reduceEq,Int.reduceLT,Int.reduceLE,Int.reduceAdd,Int.reduceSub,Int.reduceMul,Int.reduceNeg,Int.reduceNe,reduceCtorEq,Int.reduceToNat,↓reduceIte]
      repeat' (first | (refine PCalls.use q4 ?_; simp only [wk,if_true,if_false,forall_const,implies_true,ne_eq,eq_self,Nat.reduceEqDiff,Nat.reduceAdd,Nat.reduceMul,Nat.reduceSub,Nat.reduceLeDiff,Nat.reduceLT,Int.reduceEq,Int.reduceLT,Int.reduceLE,Int.reduceAdd,Int.reduceSub,Int.reduceMul,Int.reduceNeg,Int.reduceNe,reduceCtorEq,Int.reduceToNat,↓reduceIte]) | (refine ⟨by decide, ?_⟩) | (refine And.intro ?_ ?_) | intro _)
      all_goals first
        | (exfalso; have := odd4 ‹_›; omega)
        | decide
        | exact ⟨5 - 5, by omega, 5, by omega, rfl, rfl⟩
        | exact ⟨5 - 5, by omega, 5, by omega, rfl, rfl, rfl⟩
  · simp only [J_law22_LetterOdd_j1, wk,if_true,if_false,forall_const,implies_true,ne_eq,eq_self,Nat.reduceEqDiff,Nat.reduceAdd,Nat.reduceMul,Nat.reduceSub,Nat.reduceLeDiff,Nat.reduceLT,Int.reduceEq,Int.reduceLT,Int.reduceLE,Int.reduceAdd,Int.reduceSub,Int.reduceMul,Int.reduceNeg,Int.reduceNe,reduceCtorEq,Int.reduceToNat,↓reduceIte]
end Go.Proofs.Ytpjlkefadnbgdaa

/- LetterApart, over the abstract code. -/
namespace Go.Proofs.Ytpjlkefadnbgdaa
set_option linter.unusedSimpArgs false
set_option linter.unusedVariables false
open Go.RowKit Go.Lib

end Go.Proofs.Ytpjlkefadnbgdaa
