/- Texts of one proof, laid together: Sk Sl Sn Su Sw Sv Sx Sy Ca Sz Cb Cd Ce Cf Cg Ch Oe Of Og Oj Ok Ua Ub Uc Ud Ue Uf. -/
import Derived.Test.YtlfnepcglnjogaaMB5
import Derived.Test.YtlfnepcglnjogaaMB10
import Derived.Test.YtlfnepcglnjogaaMB1
import Derived.Test.YtlfnepcglnjogaaMB15
import Derived.Test.YtlfnepcglnjogaaMB14
import Derived.Maps.OwnSet
import Derived.Test.YtlfnepcglnjogaaMB13

/- What set.Of does, by the library's contracts. -/
namespace Go.Proofs.Ytlfnepcglnjogaa
set_option linter.unusedSimpArgs false
set_option linter.unusedVariables false
open Go.RowKit Go.Lib Go.Sort Go.Shelf

set_option maxHeartbeats 400000 in
theorem cmp_any (x y : ByteArray) (w : World) :
    Calls Try.prog 79 #[.string x, .string y] w fun e w' => e = .returned (.int .i64 (cmpW x y)) ∧ ∃ q, w' = w.drewN q := by
  cases h1 : wless x y with
  | true =>
    have H1 := Lib.hid h1
    have e : Hid (cmpW x y = -1) := by show _ = _; unfold cmpW; rw [h1]; rfl
    clear h1
    go_enter Try.func79, Try.ntmps79
    go_wp2_with (go_at_call 52; refine (wless_any _ _ _).mono ?_; rintro e w' ⟨rfl, rfl⟩; rw [H1.out])
    go_ret
    exact ⟨by rw [e.out]; rfl, 0, rfl⟩
  | false =>
    have H1 := Lib.hid h1
    cases h2 : wless y x with
    | true =>
      have H2 := Lib.hid h2
      have e : Hid (cmpW x y = 1) := by show _ = _; unfold cmpW; rw [h1, h2]; rfl
      clear h1 h2
      go_enter Try.func79, Try.ntmps79
      go_wp2_with (go_at_call 52; refine (wless_any _ _ _).mono ?_; rintro e w' ⟨rfl, rfl⟩; first | rw [H1.out] | rw [H2.out])
      go_ret
      exact ⟨by rw [e.out]; rfl, 0, rfl⟩
    | false =>
      have H2 := Lib.hid h2
      have e : Hid (cmpW x y = 0) := by show _ = _; unfold cmpW; rw [h1, h2]; rfl
      clear h1 h2
      go_enter Try.func79, Try.ntmps79
      go_wp2_with (go_at_call 52; refine (wless_any _ _ _).mono ?_; rintro e w' ⟨rfl, rfl⟩; first | rw [H1.out] | rw [H2.out])
      go_ret
      exact ⟨by rw [e.out]; rfl, 0, rfl⟩
theorem holds_row {w : World} {b : Nat} {cur : Array Value} {e : TypeId} {l : List ByteArray} (hb : w.heap[b]? = some (.cells cur e (0, 0))) (ht : cur.toList.take l.length = l.map .string) : Holds Value.string w b 0 l.toArray := by
  intro j hj
  have hj' : j < l.length := by simpa using hj
  refine ⟨?_, by simp [World.frozen?, hb]⟩
  have h1 : (cur.toList.take l.length)[j]? = (l.map Value.string)[j]? := by rw [ht]
  rw [List.getElem?_take_of_lt hj'] at h1
  simp only [World.cell?, hb, Nat.zero_add]
  simp only [Option.isSome_none, Bool.false_eq_true, if_false]
  rw [← Array.getElem?_toList, h1]
  simp [hj']
theorem eql_word (T : TypeId) : EqlAt Try.prog T Value.string (fun x y => decide (x = y)) := ⟨fun x y w => by rw [(EqlAt.string Try.prog T).1 x y w]; simp only [str_iff], (EqlAt.string Try.prog T).2⟩
theorem neq_word (T : TypeId) : NeqAt Try.prog T Value.string (fun x y => decide (x = y)) := ⟨fun x y w => by rw [(NeqAt.string Try.prog T).1 x y w]; simp only [str_iff], (NeqAt.string Try.prog T).2⟩
theorem cmp_lays (blk off size : Nat) (w : World) : CmpLays1 Try.prog 79 #[] Value.string cmpW blk off size w :=
  CmpReads.lays fun _ _ _ _ x y => cmp_any x y _
theorem holds_grow {w : World} {blk off : Nat} {d : Array ByteArray} (os : Array Obj) (hb : blk < w.heap.size) (h : Holds Value.string w blk off d) : Holds Value.string (grow w os) blk off d := by
  have e : (grow w os).heap[blk]? = w.heap[blk]? := by simp only [grow]; rw [Array.getElem?_append_left hb]
  intro j hj
  obtain ⟨h1, h2⟩ := h j hj
  refine ⟨?_, ?_⟩
  · rw [World.cell?_of_block (w := w) e]; exact h1
  · simp only [World.frozen?] at h2 ⊢
    rw [e]; exact h2
theorem below_put {w : World} {B blk off q : Nat} {d : Array ByteArray} (hb : B ≤ blk) : RowKit.Below B w (putRow Value.string (Sort.ahead w q) blk off d) :=
  ⟨rfl, rfl, rfl, by simp [putRow, mapBlock, Sort.ahead], fun k hk => by
    simp only [putRow, mapBlock, Sort.ahead, Array.getElem?_modify]
    rw [if_neg (by omega)]⟩
theorem below_grow {w w' : World} {B : Nat} (os : Array Obj) (hs : B ≤ w.heap.size) (h : RowKit.Below B w w') : RowKit.Below B w (grow w' os) :=
  ⟨h.os, h.tape, h.output, by simp only [grow, Array.size_append]; have := h.size; omega, fun k hk => by
    simp only [grow]
    rw [Array.getElem?_append_left (by have := h.size; omega)]
    exact h.block k hk⟩
set_option maxHeartbeats 400000 in
theorem clip_any (b n c : Nat) (w : World) (hn : 0 < n) (hc : n ≤ c) (hm : n ≤ 9223372036854775807) :
    Calls Try.prog 81 #[.slice (some ⟨b, 0, none⟩) n c] w fun e w' => e = .returned (.slice (some ⟨b, 0, none⟩) n n) ∧ w = w' := by
  go_enter Try.func81, Try.ntmps81
  go_wp2
  go_ret
  exact ⟨rfl, rfl⟩
structure Made (w w' : World) (e : Ending) (r : List ByteArray × Int) : Prop where
  below : Below w.heap.size w w'
  res : (r.2 ≠ 0 ∧ e = .returned (.tuple #[.slice none 0 0, .int .i64 r.2])) ∨ (r.2 = 0 ∧ ∃ b c, w.heap.size ≤ b ∧ e = .returned (.tuple #[.slice (some ⟨b, 0, none⟩) r.1.length c, .int .i64 0]) ∧ r.1.length ≤ c ∧ ∀ i s, r.1[i]? = some s → w'.cell? ⟨b, i, none⟩ = some (.string s))
set_option maxRecDepth 100000 in
set_option maxHeartbeats 2000000 in
theorem sof_any (rb off cap n : Nat) (l : List ByteArray) (w : World) (hl : Hid (l.length = n)) (h0 : 0 < n) (hn : n ≤ 1000000) (hr : Hid (∀ j u, (l.map Value.string)[j]? = some u → w.cell? ⟨rb, off + j, none⟩ = some u)) (hs : Hid (∀ x ∈ l, x.size ≤ 9223372036854775807)) :
    Calls Try.prog 74 #[.slice (some ⟨rb, off, none⟩) n cap] w fun e w' => Made w w' e (ofE l) := by
  go_enter Try.func74, Try.ntmps74
  go_wp2_with fail
  go_loopw [9] (fun t wr => ∃ i : Nat, i ≤ n ∧ t = .int .i64 i ∧ Hid (∀ x ∈ l.take i, wordMay x = true) ∧ Drawn w wr) (fun t _ => n - (intOf t).toNat)
  case atStart => exact ⟨0, by omega, rfl, by intro x hx; simp at hx, 0, rfl⟩
  case round =>
    obtain ⟨i, hi, rfl, hall, q, rfl⟩ := hrel
    by_cases hlt : i < n
    · have hil : i < l.length := by have := hl.out; omega
      have ci : w.cell? ⟨rb, off + i, none⟩ = some (.string l[i]) := hr.out i _ (by simp [hil])
      have hsz := hs.out l[i] (List.getElem_mem hil)
      have hmem := Lib.hid (List.getElem_mem hil)
      have hnext : Hid (wordMay l[i] = true → ∀ x ∈ l.take (i + 1), wordMay x = true) := by
        intro hw x hx
        rw [List.take_succ_eq_append_getElem hil, List.mem_append] at hx
        rcases hx with hx | hx
        · exact hall.out x hx
        · simp at hx; subst hx; exact hw
      generalize l[i] = y at ci hsz hmem hnext
      cases hwy : wordMay y with
      | false =>
        have e : Hid (ofE l = ([], 2)) := by
          show _ = _
          unfold ofE
          rw [if_pos]
          cases hb : l.all wordMay with
          | false => rfl
          | true => rw [List.all_eq_true.1 hb y hmem.out] at hwy; cases hwy
        have HWY := Lib.hid hwy
        clear hwy
        go_wp2_with fail
        refine (wmay_any y _ hsz).mono ?_
        rintro e w' ⟨rfl, m, rfl⟩
        rw [HWY.out]
        go_wp2_with fail
        go_ret2
        rw [e.out]
        exact ⟨⟨rfl, rfl, rfl, Nat.le_refl _, fun _ _ => rfl⟩, .inl ⟨by decide, rfl⟩⟩
      | true =>
        have HWY := Lib.hid hwy
        clear hwy
        go_wp2_with fail
        refine (wmay_any y _ hsz).mono ?_
        rintro e w' ⟨rfl, m, rfl⟩
        rw [HWY.out]
        go_wp2_with fail
        go_roundw
        case rel => exact ⟨i + 1, by omega, by go_num, hnext.out HWY.out, q + m, rfl⟩
        case measure => simp [intOf]; omega
    · have hin : i = n := by omega
      subst hin
      go_wp2_with fail
      obtain ⟨i0, z, hi0, hz, hz1, hz2, hzs, _⟩ := elem_of (P := Try.prog) (e := 27) (sz := 1) (bytes := 16) (by kernel_rfl)
      refine (AnyE.slices_Clone lClone i0 z 1 16 hi0 hz hz1 hz2 hzs (by decide) Try.sizeOf27 rb off i cap (l.map .string) (w.drewN q) (by rw [List.length_map, hl.out, Nat.mul_one]) (by unfold maxLen; omega) (by omega) hr.out (fun u hu => by obtain ⟨s, _, rfl⟩ := List.mem_map.1 hu; rfl)).mono ?_
      rintro e w2 ⟨v', rfl, hown, hnn, hbel⟩
      rcases hown.2 with ⟨rfl, _⟩ | ⟨b, c, cur, rfl, hb, hblk, hnc, hcm, hcs, htake⟩
      · exact absurd rfl hnn
      have hH : Holds Value.string w2 b 0 l.toArray := holds_row hblk (by rw [hl.out]; simpa using htake)
      have hbs : b < w2.heap.size := lt_of_block hblk
      have hd : l.toArray.size = i := by simpa using hl.out
      have hsort := Any.slices_SortFunc lSort Value.string (fun _ => rfl) cmpW swo_cmp 79 #[] b 0 c l.toArray w2 (enters_of Try.func79 (by kernel_rfl) rfl) (cmp_lays b 0 _ w2) hH hbs (by rw [hd]; omega)
      rw [hd] at hsort
      have HH := Lib.hid hH
      have HB := Lib.hid hbel
      clear hH hbel htake hcs hown
      go_wp2_with fail
      refine hsort.mono ?_
      rintro e w3 ⟨rfl, d', q2, os, hperm, hsorted, hw3⟩
      have hd' : d'.size = i := by rw [hperm.1, hd]
      have hH3 : Holds Value.string w3 b 0 d' := by
        rw [hw3]
        unfold sortWorld
        exact holds_grow os (by simpa [putRow, mapBlock, Sort.ahead] using hbs) (holds_putRow _ _ b 0 l.toArray d' (holds_ahead _ _ _ _ _ _ HH.out) (by rw [hd', hd]))
      have hB3 : Hid (RowKit.Below w.heap.size w w3) := by
        have h1 : RowKit.Below w.heap.size w w2 := ⟨HB.out.os, HB.out.tape, HB.out.output, HB.out.size, HB.out.block⟩
        refine h1.trans ?_
        rw [hw3]
        unfold sortWorld
        exact below_grow os h1.size (below_put hb)
      have hcomp : Hid (compactUpTo d' d'.size = nrm l) := by
        refine compact_nrm (fun a b' hab hb' => ?_) (fun x => ?_)
        · have := hsorted a b' (Nat.zero_le _) hab (by omega)
          rwa [ltOf_cmp] at this
        · have hp := hperm.2.2.mem_iff (a := x)
          have e1 : (d'.extract 0 i).toList = d'.toList := by simp [← hd']
          have e2 : (l.toArray.extract 0 i).toList = l := by simp; exact List.take_of_length_le (by rw [hl.out]; exact Nat.le_refl _)
          rw [e1, e2] at hp
          exact hp
      have hsize3 : Hid (b < w3.heap.size) := by
        show _ < _
        rw [hw3]
        simp only [sortWorld, grow, Array.size_append, putRow, mapBlock, Sort.ahead, Array.size_modify]
        omega
      have hcompact := AnyE.slices_Compact lCompact Value.string (fun _ => rfl) (eql_word _) (neq_word _) ByteArray.empty Try.zeroValue27 b 0 c d' w3 hH3 (by rw [hd']; omega) (by rw [hd']; exact hnc)
      rw [hcomp.out, hd'] at hcompact
      have HH3 := Lib.hid hH3
      have hlen : Hid ((nrm l).length ≤ i ∧ 0 < (nrm l).length) := by
        have h1 : ∀ l : List ByteArray, (nrm l).length ≤ l.length := by
          have h : ∀ (x : ByteArray) (l : List ByteArray), (ins x l).length ≤ l.length + 1 := by
            intro x l
            induction l with
            | nil => simp [ins]
            | cons y l ih => simp only [ins]; split; simp; split <;> simp only [List.length_cons] <;> omega
          intro l
          induction l with
          | nil => simp [nrm]
          | cons x l ih => simp only [nrm, List.length_cons]; have := h x (nrm l); omega
        refine ⟨by have := h1 l; rw [hl.out] at this; exact this, ?_⟩
        have hne : 0 < l.length := by rw [hl.out]; exact h0
        exact List.length_pos_of_mem (mem_nrm.2 (List.getElem_mem hne))
      have hmay : Hid (∀ x ∈ l, wordMay x = true) := by
        have := hall.out
        rwa [List.take_of_length_le (by rw [hl.out]; exact Nat.le_refl _)] at this
      have hof : Hid (ofE l = if 1 ≤ (nrm l).length ∧ (nrm l).length ≤ 16 then (nrm l, 0) else ([], 3)) := by
        show _ = _
        unfold ofE
        rw [if_neg (by rw [List.all_eq_true.2 hmay.out]; simp)]
      have hdd := hd'
      clear hsort hH3 hsorted hperm hw3 hd'
      obtain ⟨m, hm⟩ : ∃ m, m = (nrm l).length := ⟨_, rfl⟩
      rw [← hm] at hcompact
      have HM := Lib.hid hm
      have hmi : m ≤ i ∧ 0 < m := by rw [hm]; exact hlen.out
      clear hm
      go_wp2_with fail
      refine hcompact.mono ?_
      rintro e w4 ⟨rfl, q3, hw4⟩
      have HB4 : Hid (RowKit.Below w.heap.size w w4) := by
        show RowKit.Below _ _ _
        rw [hw4]
        exact hB3.out.trans (below_put hb)
      have HC4 : Hid (∀ j s, (nrm l)[j]? = some s → w4.cell? ⟨b, j, none⟩ = some (.string s)) := by
        intro j s hj
        have hjl : j < (nrm l).length := (List.getElem?_eq_some_iff.1 hj).1
        have hsz : (nrm l ++ List.replicate (i - m) ByteArray.empty).toArray.size = d'.size := by
          have e1 : d'.size = i := by have := hcomp; exact hdd
          rw [e1, List.size_toArray, List.length_append, List.length_replicate, ← HM.out]; omega
        have hh := holds_putRow Value.string (Sort.ahead w3 q3) b 0 d' (nrm l ++ List.replicate (i - m) ByteArray.empty).toArray (holds_ahead _ _ _ _ _ _ HH3.out) hsz
        rw [← hw4] at hh
        have := (hh j (by simp; omega)).1
        rw [Nat.zero_add] at this
        rw [this]
        congr 2
        rw [getElem!_pos _ j (by simp; omega)]
        simp only [List.getElem_toArray]
        rw [List.getElem_append_left hjl]
        exact (List.getElem?_eq_some_iff.1 hj).2
      clear hw4 hcompact
      have g1 : decide ((m : Int) < 1) = false := by simp; omega
      by_cases h16 : 16 < m
      · have g2 : decide (16 < (m : Int)) = true := by simp; omega
        go_wp2_with fail
        go_ret2
        rw [hof.out, if_neg (by rw [← HM.out]; omega)]
        exact ⟨HB4.out, .inl ⟨by decide, rfl⟩⟩
      · have g2 : decide (16 < (m : Int)) = false := by simp; omega
        go_wp2_with fail
        refine (clip_any b m c w4 (by omega) (by omega) (by omega)).mono ?_
        rintro e w' ⟨rfl, rfl⟩
        go_wp2_with fail
        go_ret2
        rw [hof.out, if_pos (by rw [← HM.out]; omega)]
        exact ⟨HB4.out, .inr ⟨rfl, b, m, hb, by rw [← HM.out]; rfl, by rw [← HM.out]; exact Nat.le_refl _, HC4.out⟩⟩
set_option maxRecDepth 100000 in
set_option maxHeartbeats 2000000 in
theorem clone_none (ad : Addr) (c : Nat) (w : World) :
    Calls Try.prog 77 #[.slice (some ad) 0 c] w fun e w' => ∃ a' cap', e = .returned (.slice a' 0 cap') ∧ Below w.heap.size w w' := by
  obtain ⟨i0, z, hi, hz0, hz1, hz2, hzs, _⟩ := elem_of (P := Try.prog) (e := 27) (sz := 1) (bytes := 16) (by kernel_rfl)
  have q22 : ∀ (w : World) (a : Option Addr) (n c n' c' : Nat), (binOp .eql 25 (.slice a n c) (.slice none n' c')).run Try.prog w = .ok (.bool a.isNone) w := fun w a n c n' c' => Lib.run_eql_slice_nil w _ _ a n c n' c' Try.underlying25
  go_enter Try.func77, Try.ntmps77
  go_wp2_with (at_builtin; refine wpList_append_row _ rfl _ _ 25 rfl w.heap.size 27 i0 z 1 16 Try.underlying25 hi hz0 hz1 hz2 hzs (by decide) (.slice (some ⟨w.heap.size, 0, none⟩) 0 0) 0 [] rfl (World.ownsRow_made w #[] 0 (Nat.le_refl _) (Nat.zero_le _) (by simp)) (some ad) 0 c [] rfl (by simp) (RowOf.nil _ _) (by intro h; cases h) (by simp) (by unfold maxLen; omega) (by omega) (by simp) ?_; intro a' cap' w1 hown hgrow _ _)
  go_ret
  exact ⟨a', cap', rfl, ((Below.refl _ w).alloc (Nat.le_refl _) _).grown hgrow (by simp) (by simp [Value.ownBlock])⟩
theorem clone_zero (a : Option Addr) (c : Nat) (w : World) :
    Calls Try.prog 77 #[.slice a 0 c] w fun e w' => ∃ a' cap', e = .returned (.slice a' 0 cap') ∧ Below w.heap.size w w' := by
  cases a with
  | none => exact (AnyE.slices_Clone_nil lClone 0 c w).mono (by rintro e w' ⟨rfl, rfl⟩; exact ⟨_, _, rfl, Below.refl _ _⟩)
  | some ad => exact clone_none ad c w
set_option maxRecDepth 100000 in
set_option maxHeartbeats 2000000 in
theorem compact_zero (a : Option Addr) (c : Nat) (w : World) :
    Calls Try.prog 80 #[.slice a 0 c] w fun e w' => e = .returned (.slice a 0 c) ∧ w = w' := by
  go_enter Try.func80, Try.ntmps80
  go_wp2
  go_ret
  exact ⟨rfl, rfl⟩
set_option maxRecDepth 100000 in
set_option maxHeartbeats 2000000 in
theorem sof_none (a : Option Addr) (c : Nat) (w : World) :
    Calls Try.prog 74 #[.slice a 0 c] w fun e w' => Made w w' e (ofE []) := by
  have hsort := fun (p : Option Addr) (cap : Nat) (fv : Value) (w : World) => AnyF.slices_SortFunc_none (P := Try.prog) { lSort with } p cap fv w
  go_enter Try.func74, Try.ntmps74
  go_wp2_with fail
  go_loopw [9] (fun t wr => t = .int .i64 0 ∧ wr = w) (fun _ _ => 0)
  case atStart => exact ⟨rfl, rfl⟩
  case round =>
    obtain ⟨rfl, rfl⟩ := hrel
    go_wp2_with fail
    refine (clone_zero a c _).mono ?_
    rintro e w1 ⟨a', cap', rfl, hb1⟩
    have HB := Lib.hid hb1
    clear hb1
    go_wp2_with fail
    refine (hsort a' cap' _ w1).mono ?_
    rintro e w2 ⟨rfl, rfl⟩
    go_wp2_with fail
    refine (compact_zero a' cap' w2).mono ?_
    rintro e w3 ⟨rfl, rfl⟩
    go_wp2_with fail
    go_ret2
    exact ⟨HB.out, .inl ⟨by decide, rfl⟩⟩
end Go.Proofs.Ytlfnepcglnjogaa

/- set.Of as a call that leaves all objects alone. -/
namespace Go.Proofs.Ytlfnepcglnjogaa
set_option linter.unusedSimpArgs false
set_option linter.unusedVariables false
open Go.RowKit Go.Lib

theorem ofE_snd (l : List ByteArray) (h : (ofE l).2 ≠ 0) : (ofE l).1 = [] := by
  unfold ofE at h ⊢
  split
  · rfl
  · next h1 =>
    rw [if_neg h1] at h
    split
    · next h2 => rw [if_pos h2] at h; exact absurd rfl h
    · rfl
theorem cells_news {g : Gh} {w w' : World} {b : Nat} {l : List ByteArray} (hb : w.heap.size ≤ b) (hc : ∀ i s, l[i]? = some s → w'.cell? ⟨b, i, none⟩ = some (.string s)) : CellsAt (g.news w w') b 0 (l.map .string) := by
  intro i v hv
  rw [List.getElem?_map] at hv
  cases hs : l[i]? with
  | none => rw [hs] at hv; cases hv
  | some s =>
    rw [hs] at hv
    cases hv
    rw [Nat.zero_add]
    exact news_new hb (hc i s hs) rfl
theorem repL_strs (g : Gh) : ∀ l : List ByteArray, RepL g (l.map .string) (l.map .str)
  | [] => .nil
  | s :: l => .cons (.str s) (repL_strs g l)
theorem plains_strs (l : List ByteArray) : plains (l.map .str) := by
  intro a ha
  obtain ⟨s, _, rfl⟩ := List.mem_map.1 ha
  rfl
theorem rep_new {g : Gh} {w w' : World} {b c : Nat} {f : Fl} {l : List ByteArray} (hb : w.heap.size ≤ b) (hn : l.length ≤ c) (hf : f = .clip → c = l.length) (hc : ∀ i s, l[i]? = some s → w'.cell? ⟨b, i, none⟩ = some (.string s)) : Rep (g.news w w') (.slice (some ⟨b, 0, none⟩) l.length c) (.lst f l.length (l.map .str)) :=
  .lst b 0 _ c f _ _ (cells_news hb hc) (plains_strs l) hn hf (repL_strs _ l)
theorem p_sof (l : List ByteArray) (hl : l.length ≤ 1000000) (hs : ∀ x ∈ l, x.size ≤ 9223372036854775807) : PCalls Try.prog 74 [.lst .ro l.length (l.map .str)] (vSet (ofE l)) := by
  refine pcalls_calls (by simp [free, free.frees, frees_str]) (free_vSet _) (by simp [vSet, plain]) (by kernel_rfl) ?_
  intro g w vargs hsim hr
  obtain ⟨v, vs, rfl, hv, hvs⟩ : ∃ v vs, vargs = v :: vs ∧ Rep g v (.lst .ro l.length (l.map .str)) ∧ RepL g vs [] := by
    cases hr with
    | cons h1 h2 => exact ⟨_, _, rfl, h1, h2⟩
  cases hvs
  obtain ⟨a, c, rfl, hrow⟩ := rep_strs hsim hv
  have hm : ∀ e w', Made w w' e (ofE l) → ∃ x, e = .returned x ∧ Below w.heap.size w w' ∧ Rep (g.news w w') x (vSet (ofE l)) := by
    rintro e w' ⟨hb, h | ⟨h0, b, c, hbb, rfl, hnc, hcell⟩⟩
    · obtain ⟨h1, rfl⟩ := h
      refine ⟨_, rfl, hb, ?_⟩
      unfold vSet
      rw [ofE_snd l h1]
      exact .tup [_, _] _ (by intro a ha; simp at ha; rcases ha with rfl | rfl <;> rfl) (.cons (.lst0 none 0 .ro (fun _ => rfl)) (.cons (.int .i64 _) .nil))
    · refine ⟨_, rfl, hb, ?_⟩
      unfold vSet
      rw [h0]
      exact .tup [_, _] _ (by intro a ha; simp at ha; rcases ha with rfl | rfl <;> rfl) (.cons (rep_new hbb hnc (fun h => nomatch h) hcell) (.cons (.int .i64 _) .nil))
  rcases hrow with h0 | ⟨b, off, rfl, hcells⟩
  · have hl0 : l = [] := by simpa using h0
    subst hl0
    exact (sof_none a c w).mono hm
  · by_cases h0 : l = []
    · subst h0
      exact (sof_none _ c w).mono hm
    · exact (sof_any b off c l.length l w rfl (List.length_pos_iff.2 h0) hl hcells hs).mono hm
end Go.Proofs.Ytlfnepcglnjogaa

/- slices.Concat of two sets. -/
namespace Go.Proofs.Ytlfnepcglnjogaa
set_option linter.unusedSimpArgs false
set_option linter.unusedVariables false
open Go.RowKit Go.Lib Go.Sort Go.Shelf

end Go.Proofs.Ytlfnepcglnjogaa

/- And, Quote, As, For of package set. -/
namespace Go.Proofs.Ytlfnepcglnjogaa
set_option linter.unusedSimpArgs false
set_option linter.unusedVariables false
open Go.RowKit Go.Lib

theorem setMay_ne {l : List ByteArray} (h : setMay l = true) : l ≠ [] := by
  rintro rfl
  have := (setMay_words h).1.1
  simp at this
end Go.Proofs.Ytlfnepcglnjogaa

/- set.Within: a map that the call keeps to itself. -/
namespace Go.Proofs.Ytlfnepcglnjogaa
set_option linter.unusedSimpArgs false
set_option linter.unusedVariables false
open Go.RowKit Go.Lib Go.Maps Go.WideMaps

theorem lawW : Keyed Try.prog 27 := string_keyed Try.underlying27
theorem zeroU (w : World) : (zeroValue 137).run Try.prog w = .ok (.agg #[]) w := by kernel_rfl
def litW (s : ByteArray) : Lit := .string s.data.toList
def setW (l : List ByteArray) : DataW Unit := setOf (.agg []) (l.map litW)
theorem setW_snoc (l : List ByteArray) (s : ByteArray) : setW (l ++ [s]) = (setW l).put (litW s) (.agg []) := by
  unfold setW
  rw [List.map_append, List.map_cons, List.map_nil, setOf_snoc]
theorem has_setW (l : List ByteArray) (s : ByteArray) : Maps.has (setW l) (litW s) = hasW l s := by
  unfold setW
  rw [has_setOf]
  · unfold hasW
    rw [List.any_map]
    congr 1
    funext y
    simp only [Function.comp]
    by_cases h : s = y
    · subst h
      rw [decide_eq_true rfl, WideAt.sameKey_self (by exact trivial)]
    · rw [decide_eq_false h, sameKey_ne]
      intro e
      unfold litW at e
      injection e with e
      exact h (WideShapes.bytes_inj e.symm)
  · intro x hx
    obtain ⟨s, _, rfl⟩ := List.mem_map.1 hx
    exact trivial
theorem run_makeMap_hint (n : Int) (w : World) : (Instr.makeMap 136 (some (.int .i64 n))).run Try.prog w = .ok (.map (some w.heap.size)) (w.alloc (.map #[] 0)) := by
  simp only [Instr.makeMap, Sem.run_bind, run_underlying Try.underlying136, Result.andThen_ok, asInt, asIntOf]
  rfl
set_option maxRecDepth 100000 in
set_option maxHeartbeats 2000000 in
theorem within_any (a1 a2 : Option Addr) (n1 n2 c1 c2 : Nat) (l1 l2 : List ByteArray) (w : World) (h1 : n1 ≤ 1000000) (h2 : n2 ≤ 1000000) (hl1 : Hid (l1.length = n1)) (hl2 : Hid (l2.length = n2))
    (r1 : Hid (RowOf w a1 (l1.map .string))) (r2 : Hid (RowOf w a2 (l2.map .string))) (s1 : Hid (∀ x ∈ l1, x.size ≤ maxLen)) (s2 : Hid (∀ x ∈ l2, x.size ≤ maxLen)) :
    Calls Try.prog 82 #[.slice a1 n1 c1, .slice a2 n2 c2] w fun e w' => e = .returned (.bool (withinE l1 l2)) ∧ Below w.heap.size w w' := by
  have hmm := run_makeMap_hint
  go_enter Try.func82, Try.ntmps82
  go_wp2_with fail
  go_loopw [17] (fun t wr => ∃ k : Nat, k ≤ n2 ∧ t = .int .i64 k ∧ Hid (wr.ownsMap Try.prog 27 unitElem w.heap.size k (setW (l2.take k))) ∧ Hid (Below w.heap.size w wr)) (fun t _ => n2 - (intOf t).toNat)
  case atStart => exact ⟨0, Nat.zero_le _, rfl, World.ownsMap_made _ _ _ _, (Below.refl _ _).alloc (Nat.le_refl _) _⟩
  case round =>
    obtain ⟨k, hk, rfl, HO, HB⟩ := hrel
    by_cases hlt : k < n2
    · have hkl : k < l2.length := by have := hl2.out; omega
      obtain ⟨b, off, ha, hcell⟩ : ∃ b off, a2 = some ⟨b, off, none⟩ ∧ w.cell? ⟨b, off + k, none⟩ = some (.string l2[k]) := by
        rcases r2.out with h | ⟨b, off, h, hc⟩
        · simp at h; rw [h] at hkl; simp at hkl
        · exact ⟨b, off, h, hc k _ (by simp [hkl])⟩
      have hc : wr.cell? ⟨b, off + k, none⟩ = some (.string l2[k]) := (HB.out.cell (World.block_lt_of_cell? w _ hcell)).trans hcell
      have hkey : keyOf Try.prog 27 (.string l2[k]) = some (litW l2[k]) := keyOf_string_mk Try.underlying27 (s2.out _ (List.getElem_mem hkl))
      have hnext : Hid (setW (l2.take (k + 1)) = (setW (l2.take k)).put (litW l2[k]) (.agg [])) := by show _ = _; rw [List.take_succ_eq_append_getElem hkl, setW_snoc]
      generalize l2[k] = y at hc hkey hnext
      subst ha
      clear hcell r2
      go_wp2_with (first | (at_mapUpdate; refine wpList_mapUpdate_own _ rfl _ _ _ 136 rfl 27 137 lawW Try.underlying136 (unitElem (H := Unit)) w.heap.size k _ rfl HO.out (by unfold maxLen; omega) _ _ _ rfl rfl hkey _ [] unitElem_mk ?_; intro w1 hown1 hgrow1; have HO1 := Lib.hid hown1; have HB1 := Lib.hid (HB.out.grown hgrow1 HB.out.size (fun j hj => by cases hj; exact Nat.le_refl _)); clear hown1 hgrow1))
      exact ⟨⟨k + 1, by omega, by go_num, by rw [hnext.out]; exact HO1.out, HB1⟩, by simp [intOf]; omega⟩
    · have hkn : k = n2 := by omega
      subst hkn
      go_wp2_with fail
      have HO' : Hid (wr.ownsMap Try.prog 27 unitElem w.heap.size k (setW l2)) := by
        have := HO.out
        rw [List.take_of_length_le (by rw [hl2.out]; exact Nat.le_refl _)] at this
        exact this
      clear HO r2 s2
      go_loopw [27] (fun t wr => ∃ k' : Nat, k' ≤ n1 ∧ t = .int .i64 k' ∧ Hid (wr.ownsMap Try.prog 27 unitElem w.heap.size k (setW l2)) ∧ Hid (Below w.heap.size w wr) ∧ Hid (∀ x ∈ l1.take k', hasW l2 x = true)) (fun t _ => n1 - (intOf t).toNat)
      case atStart => exact ⟨0, Nat.zero_le _, rfl, HO', HB, by intro x hx; simp at hx⟩
      case round =>
        clear HO' HB
        obtain ⟨i, hi, rfl, HO, HB, HA⟩ := hrel
        by_cases hlt : i < n1
        · have hkl : i < l1.length := by have := hl1.out; omega
          obtain ⟨b, off, ha, hcell⟩ : ∃ b off, a1 = some ⟨b, off, none⟩ ∧ w.cell? ⟨b, off + i, none⟩ = some (.string l1[i]) := by
            rcases r1.out with h | ⟨b, off, h, hc⟩
            · simp at h; rw [h] at hkl; simp at hkl
            · exact ⟨b, off, h, hc i _ (by simp [hkl])⟩
          have hc : wr.cell? ⟨b, off + i, none⟩ = some (.string l1[i]) := (HB.out.cell (World.block_lt_of_cell? w _ hcell)).trans hcell
          have hkey : keyOf Try.prog 27 (.string l1[i]) = some (litW l1[i]) := keyOf_string_mk Try.underlying27 (s1.out _ (List.getElem_mem hkl))
          have hmem := Lib.hid (List.getElem_mem hkl)
          have hnext : Hid (hasW l2 l1[i] = true → ∀ x ∈ l1.take (i + 1), hasW l2 x = true) := by
            intro hw x hx
            rw [List.take_succ_eq_append_getElem hkl, List.mem_append] at hx
            rcases hx with hx | hx
            · exact HA.out x hx
            · simp at hx; subst hx; exact hw
          generalize l1[i] = y at hc hkey hnext hmem
          subst ha
          clear hcell r1
          cases hh : hasW l2 y with
          | true =>
            have HH : Maps.has (setW l2) (litW y) = true := by rw [has_setW]; exact hh
            have HN := Lib.hid (hnext.out hh)
            clear hh hnext
            go_wp2_with (first | (at_lookup; refine wpList_lookup_own_unit _ rfl _ _ 136 rfl 27 137 lawW Try.underlying136 (zeroU _) w.heap.size k _ rfl HO.out _ _ rfl hkey ?_; rw [HH]))
            exact ⟨⟨i + 1, by omega, by go_num, HO.out.alloc _, HB.out.alloc HB.out.size _, HN⟩, by simp [intOf]; omega⟩
          | false =>
            have HH : Maps.has (setW l2) (litW y) = false := by rw [has_setW]; exact hh
            have HN : Hid (withinE l1 l2 = false) := by
              show _ = _
              cases hb : withinE l1 l2 with
              | false => rfl
              | true => rw [hasW_iff.2 (withinE_iff.1 hb y hmem.out)] at hh; cases hh
            clear hh hnext
            go_wp2_with (first | (at_lookup; refine wpList_lookup_own_unit _ rfl _ _ 136 rfl 27 137 lawW Try.underlying136 (zeroU _) w.heap.size k _ rfl HO.out _ _ rfl hkey ?_; rw [HH]))
            go_ret
            exact ⟨ret_bool HN.out.symm, HB.out.alloc HB.out.size _⟩
        · have hin : i = n1 := by omega
          subst hin
          go_wp2_with fail
          go_ret
          refine ⟨ret_bool ?_, HB.out⟩
          have := HA.out
          rw [List.take_of_length_le (by rw [hl1.out]; exact Nat.le_refl _)] at this
          exact (withinE_iff.2 fun w hw => hasW_iff.1 (this w hw)).symm
theorem p_within (l1 l2 : List ByteArray) (h1 : l1.length ≤ 1000000) (h2 : l2.length ≤ 1000000) (s1 : ∀ x ∈ l1, x.size ≤ maxLen) (s2 : ∀ x ∈ l2, x.size ≤ maxLen) :
    PCalls Try.prog 82 [.lst .ro l1.length (l1.map .str), .lst .ro l2.length (l2.map .str)] (.bool (withinE l1 l2)) := by
  refine pcalls_calls (by simp [free, free.frees, frees_str]) rfl rfl (by kernel_rfl) ?_
  intro g w vargs hsim hr
  obtain ⟨v1, v2, rfl, hv1, hv2⟩ : ∃ v1 v2, vargs = [v1, v2] ∧ Rep g v1 (.lst .ro l1.length (l1.map .str)) ∧ Rep g v2 (.lst .ro l2.length (l2.map .str)) := by
    cases hr with
    | cons q1 q2 =>
      cases q2 with
      | cons q3 q4 => cases q4; exact ⟨_, _, rfl, q1, q3⟩
  obtain ⟨a1, c1, rfl, r1⟩ := rep_strs hsim hv1
  obtain ⟨a2, c2, rfl, r2⟩ := rep_strs hsim hv2
  refine (within_any a1 a2 l1.length l2.length c1 c2 l1 l2 w h1 h2 rfl rfl r1 r2 s1 s2).mono ?_
  rintro e w' ⟨rfl, hb⟩
  exact ⟨_, rfl, hb, .bool _⟩
theorem p_same (l1 l2 : List ByteArray) (h1 : l1.length ≤ 1000000) (h2 : l2.length ≤ 1000000) (s1 : ∀ x ∈ l1, x.size ≤ maxLen) (s2 : ∀ x ∈ l2, x.size ≤ maxLen) :
    PCalls Try.prog 75 [.lst .ro l1.length (l1.map .str), .lst .ro l2.length (l2.map .str)] (.bool (withinE l1 l2 && withinE l2 l1)) := by
  refine pcalls_of (by first | rfl | simp [free, free.frees, frees_str, frees_u8, frees_u16]) (by first | rfl | simp [free, free.frees, frees_str, frees_u8, frees_u16]) (acalls_of mixed J_set_Same_ok (Nat.le_of_ble_eq_true rfl) ?_); simp only [J_set_Same, wk,if_true,if_false,forall_const,implies_true,ne_eq,eq_self,Nat.reduceEqDiff,Nat.reduceAdd,Nat.reduceMul,Nat.reduceSub,Nat.reduceLeDiff,Nat.reduceLT,Int.reduceEq,Int.reduceLT,Int.reduceLE,Int.reduceAdd,Int.reduceSub,Int.reduceMul,Int.reduceNeg,Int.reduceNe,reduceCtorEq,Int.reduceToNat,↓reduceIte]
  refine PCalls.use (p_within l1 l2 h1 h2 s1 s2) ?_; simp only [wk,if_true,if_false,forall_const,implies_true,ne_eq,eq_self,Nat.reduceEqDiff,Nat.reduceAdd,Nat.reduceMul,Nat.reduceSub,Nat.reduceLeDiff,Nat.reduceLT,Int.reduceEq,Int.reduceLT,Int.reduceLE,Int.reduceAdd,Int.reduceSub,Int.reduceMul,Int.reduceNeg,Int.reduceNe,reduceCtorEq,Int.reduceToNat,↓reduceIte]
  cases hw : withinE l1 l2 with
  | true =>
    simp only [wk,if_true,if_false,forall_const,implies_true,ne_eq,eq_self,Nat.reduceEqDiff,Nat.reduceAdd,Nat.reduceMul,Nat.reduceSub,Nat.reduceLeDiff,Nat.reduceLT,Int.reduceEq,Int.reduceLT,Int.reduceLE,Int.reduceAdd,Int.reduceSub,Int.reduceMul,Int.reduceNeg,Int.reduceNe,reduceCtorEq,Int.reduceToNat,↓reduceIte]
    refine PCalls.use (p_within l2 l1 h2 h1 s2 s1) ?_; simp only [wk,if_true,if_false,forall_const,implies_true,ne_eq,eq_self,Nat.reduceEqDiff,Nat.reduceAdd,Nat.reduceMul,Nat.reduceSub,Nat.reduceLeDiff,Nat.reduceLT,Int.reduceEq,Int.reduceLT,Int.reduceLE,Int.reduceAdd,Int.reduceSub,Int.reduceMul,Int.reduceNeg,Int.reduceNe,reduceCtorEq,Int.reduceToNat,↓reduceIte]
    rfl
  | false =>
    simp only [wk,if_true,if_false,forall_const,implies_true,ne_eq,eq_self,Nat.reduceEqDiff,Nat.reduceAdd,Nat.reduceMul,Nat.reduceSub,Nat.reduceLeDiff,Nat.reduceLT,Int.reduceEq,Int.reduceLT,Int.reduceLE,Int.reduceAdd,Int.reduceSub,Int.reduceMul,Int.reduceNeg,Int.reduceNe,reduceCtorEq,Int.reduceToNat,↓reduceIte]
    rfl
end Go.Proofs.Ytlfnepcglnjogaa

/- awake of the laws on sets: what each call comes to. -/
namespace Go.Proofs.Ytlfnepcglnjogaa
set_option linter.unusedSimpArgs false
set_option linter.unusedVariables false
open Go.RowKit Go.Lib

end Go.Proofs.Ytlfnepcglnjogaa

/- large of the laws on sets; what stays small. -/
namespace Go.Proofs.Ytlfnepcglnjogaa
set_option linter.unusedSimpArgs false
set_option linter.unusedVariables false
open Go.RowKit Go.Lib

end Go.Proofs.Ytlfnepcglnjogaa

/- SetAnd: the plain law, and the walk. -/
namespace Go.Proofs.Ytlfnepcglnjogaa
set_option linter.unusedSimpArgs false
set_option linter.unusedVariables false
open Go.RowKit Go.Lib

theorem and_may {a b : List ByteArray} (ha : setMay a = true) (hb : setMay b = true) : andE a b = boundE (nrm (a ++ b)) := by
  unfold andE
  rw [if_neg (by simp [ha, hb]), ofE_may (fun x hx => by rcases List.mem_append.1 hx with h | h; exact (setMay_words ha).2 x h; exact (setMay_words hb).2 x h)]
theorem nrm_pos {l : List ByteArray} (h : l ≠ []) : 1 ≤ (nrm l).length := by
  cases l with
  | nil => exact absurd rfl h
  | cons x l => exact List.length_pos_of_mem (mem_nrm.2 (List.mem_cons_self ..))
theorem and_fit {a b : List ByteArray} (ha : setMay a = true) (hb : setMay b = true) (h : (nrm (a ++ b)).length ≤ 16) : andE a b = (nrm (a ++ b), 0) ∧ setMay (nrm (a ++ b)) = true := by
  have h1 := nrm_pos (l := a ++ b) (by simp [setMay_ne ha])
  refine ⟨by rw [and_may ha hb]; unfold boundE; rw [if_pos ⟨h1, h⟩], setMay_mk h1 h (fun x hx => ?_) (rising_nrm _)⟩
  rcases List.mem_append.1 (mem_nrm.1 hx) with h | h
  · exact (setMay_words ha).2 x h
  · exact (setMay_words hb).2 x h
theorem and_self {a : List ByteArray} (ha : setMay a = true) : andE a a = (a, 0) := by
  have e : nrm (a ++ a) = a := (nrm_eq (setMay_rising ha) (fun x => by simp)).symm
  have := (and_fit ha ha (by rw [e]; exact (setMay_small ha).1)).1
  rwa [e] at this
theorem smallS_nrm {a : List ByteArray} (h : setMay a = true) : a.length ≤ 10000 ∧ (∀ x ∈ a, x.size ≤ 1000000) ∧ ∀ x ∈ a, x.size ≤ maxLen := by
  have := setMay_small h
  exact ⟨by omega, fun x hx => by have := this.2 x hx; omega, fun x hx => by have := this.2 x hx; unfold maxLen; omega⟩
theorem ofE_small (l : List ByteArray) : (ofE l).1.length ≤ 16 := by
  unfold ofE
  split
  · simp
  · split
    · next h => exact h.2
    · simp
end Go.Proofs.Ytlfnepcglnjogaa

/- Certificates: the plain structure, and the small functions of cert and its reference. -/
namespace Go.Proofs.Ytlfnepcglnjogaa
set_option linter.unusedSimpArgs false
set_option linter.unusedVariables false
open Go.RowKit Go.Lib

structure Crt where
  kind : Int
  signer : Nat
  speaker : ByteArray
  words : List ByteArray
  since : Int
  till : Int
  serial : Int
def cC (c : Crt) : List AV := [.int .i64 c.kind, .int .u16 c.signer, .str c.speaker, .lst .ro c.words.length (c.words.map .str), .int .i64 c.since, .int .i64 c.till, .int .i64 c.serial]
def vC (c : Crt) : AV := .agg (cC c)
theorem free_vC (c : Crt) : free (vC c) = true := by unfold vC cC; simp [free, free.frees, frees_str]
theorem drop_ints {l : List Int} {i : Nat} (h : i < l.length) : (l.map (AV.int .i64)).drop i = .int .i64 l[i] :: (l.map (AV.int .i64)).drop (i + 1) := by
  rw [← List.map_drop, List.drop_eq_getElem_cons h, List.map_cons, List.map_drop]
def idxI (x : Int) : List Int → Int
  | [] => -1
  | y :: l => if x = y then 0 else if idxI x l < 0 then -1 else idxI x l + 1
def hasI (l : List Int) (x : Int) : Bool := l.any fun y => decide (x = y)
theorem hasI_iff {l : List Int} {x : Int} : hasI l x = true ↔ x ∈ l := by
  unfold hasI
  rw [List.any_eq_true]
  constructor
  · rintro ⟨y, hy, h⟩; simp only [decide_eq_true_eq] at h; subst h; exact hy
  · intro h; exact ⟨x, h, by simp⟩
theorem idxI_none {x : Int} : ∀ {l : List Int}, x ∉ l → idxI x l = -1
  | [], _ => rfl
  | y :: r, h => by
    simp only [List.mem_cons, not_or] at h
    simp only [idxI]
    rw [if_neg h.1, idxI_none h.2]; rfl
theorem idxI_at {x : Int} : ∀ {l : List Int} {i : Nat}, l[i]? = some x → x ∉ l.take i → idxI x l = i
  | [], i, h, _ => by simp at h
  | y :: r, 0, h, _ => by simp at h; subst h; simp [idxI]
  | y :: r, i + 1, h, hn => by
    simp only [List.getElem?_cons_succ] at h
    simp only [List.take_succ_cons, List.mem_cons, not_or] at hn
    have := idxI_at h hn.2
    simp only [idxI]
    rw [if_neg hn.1, if_neg (by omega), this]; omega
theorem idxI_mem (x : Int) (l : List Int) : decide (0 ≤ idxI x l) = hasI l x := by
  by_cases h : x ∈ l
  · have hk : ∀ (l : List Int), x ∈ l → 0 ≤ idxI x l := by
      intro l
      induction l with
      | nil => intro h; simp at h
      | cons y r ih =>
        intro h
        simp only [idxI]
        split
        · omega
        · next hx =>
          have := ih (by rcases List.mem_cons.1 h with h | h; exact absurd h hx; exact h)
          rw [if_neg (by omega)]; omega
    rw [decide_eq_true (hk l h), hasI_iff.2 h]
  · rw [idxI_none h]
    cases hh : hasI l x with
    | false => rfl
    | true => exact absurd (hasI_iff.1 hh) h
theorem frees_ints (l : List Int) : free.frees (l.map (AV.int .i64)) = true := by
  induction l with
  | nil => rfl
  | cons s ls ih => simp only [List.map_cons, free.frees, ih, free, Bool.and_true]
set_option maxHeartbeats 1000000 in
theorem p_indexI (l : List Int) (x : Int) (hl : l.length ≤ 9223372036854775807) : PCalls Try.prog 72 [.lst .ro l.length (l.map (.int .i64)), .int .i64 x] (.int .i64 (idxI x l)) := by
  refine pcalls_of (by simp [free.frees, free, frees_ints]) rfl (acalls_of mixed J_slices_Index_int_int_ok (Nat.le_of_ble_eq_true rfl) ?_); simp only [J_slices_Index_int_int, wk,if_true,if_false,forall_const,implies_true,ne_eq,eq_self,Nat.reduceEqDiff,Nat.reduceAdd,Nat.reduceMul,Nat.reduceSub,Nat.reduceLeDiff,Nat.reduceLT,Int.reduceEq,Int.reduceLT,Int.reduceLE,Int.reduceAdd,Int.reduceSub,Int.reduceMul,Int.reduceNeg,Int.reduceNe,reduceCtorEq,Int.reduceToNat,↓reduceIte]
  refine W_loop (fun n fr h => ∃ i : Nat, i ≤ l.length ∧ n = l.length - i ∧ fr = [(0, .lst .ro l.length (l.map (.int .i64))), (1, .int .i64 x), (7, .int .i64 l.length), (8, .int .i64 i)] ∧ x ∉ l.take i) l.length ⟨0, by omega, by omega, rfl, by simp⟩ ?_
  rintro n fr h ⟨i, hi, rfl, rfl, hno⟩
  simp only [J_slices_Index_int_int_j2, J_slices_Index_int_int_j1, wk,if_true,if_false,forall_const,implies_true,ne_eq,eq_self,Nat.reduceEqDiff,Nat.reduceAdd,Nat.reduceMul,Nat.reduceSub,Nat.reduceLeDiff,Nat.reduceLT,Int.reduceEq,Int.reduceLT,Int.reduceLE,Int.reduceAdd,Int.reduceSub,Int.reduceMul,Int.reduceNeg,Int.reduceNe,reduceCtorEq,Int.reduceToNat,↓reduceIte]
  refine ⟨fun hlt => ?_, fun hge => int_eq ?_⟩
  · have hil : i < l.length := by omega
    (repeat (refine And.intro (by first | omega | exact inR_of (by omega) (by omega) | exact ⟨by omega, by omega⟩ | exact ⟨by omega, by omega, by omega⟩ | rfl) ?_))
    rw [show (i : Int).toNat = i by omega, drop_ints hil]
    simp only [wk,if_true,if_false,forall_const,implies_true,ne_eq,eq_self,Nat.reduceEqDiff,Nat.reduceAdd,Nat.reduceMul,Nat.reduceSub,Nat.reduceLeDiff,Nat.reduceLT,Int.reduceEq,Int.reduceLT,Int.reduceLE,Int.reduceAdd,Int.reduceSub,Int.reduceMul,Int.reduceNeg,Int.reduceNe,reduceCtorEq,Int.reduceToNat,↓reduceIte]
    refine ⟨fun he => int_eq ?_, fun hne => ⟨inR_of (by omega) (by omega), l.length - (i + 1), by omega, i + 1, by omega, rfl, rfl, fun hm => ?_⟩⟩
    · rw [idxI_at (i := i) (by rw [List.getElem?_eq_getElem hil, he]) hno]
    · rcases (take_mem_succ hil).1 hm with h | h
      · exact hno h
      · exact hne h
  · rw [List.take_of_length_le (by omega)] at hno
    rw [idxI_none hno]
theorem p_containsI (l : List Int) (x : Int) (hl : l.length ≤ 9223372036854775807) : PCalls Try.prog 64 [.lst .ro l.length (l.map (.int .i64)), .int .i64 x] (.bool (hasI l x)) := by
  refine pcalls_of (by simp [free.frees, free, frees_ints]) rfl (acalls_of mixed J_slices_Contains_int_int_ok (Nat.le_of_ble_eq_true rfl) ?_); simp only [J_slices_Contains_int_int, wk,if_true,if_false,forall_const,implies_true,ne_eq,eq_self,Nat.reduceEqDiff,Nat.reduceAdd,Nat.reduceMul,Nat.reduceSub,Nat.reduceLeDiff,Nat.reduceLT,Int.reduceEq,Int.reduceLT,Int.reduceLE,Int.reduceAdd,Int.reduceSub,Int.reduceMul,Int.reduceNeg,Int.reduceNe,reduceCtorEq,Int.reduceToNat,↓reduceIte]
  refine PCalls.use (p_indexI l x hl) ?_; simp only [wk,if_true,if_false,forall_const,implies_true,ne_eq,eq_self,Nat.reduceEqDiff,Nat.reduceAdd,Nat.reduceMul,Nat.reduceSub,Nat.reduceLeDiff,Nat.reduceLT,Int.reduceEq,Int.reduceLT,Int.reduceLE,Int.reduceAdd,Int.reduceSub,Int.reduceMul,Int.reduceNeg,Int.reduceNe,reduceCtorEq,Int.reduceToNat,↓reduceIte]
  exact bool_eq (idxI_mem x l)
theorem p_kind (a : Nat) (h : a < 65536) : PCalls Try.prog 58 [.int .u16 a] (.int .i64 ((a / 8192 : Nat) : Int)) := by
  refine pcalls_of (by first | rfl | simp [free, free.frees, frees_str, frees_u8, frees_u16]) (by first | rfl | simp [free, free.frees, frees_str, frees_u8, frees_u16]) (acalls_of mixed J_ref01_Kind_ok (Nat.le_of_ble_eq_true rfl) ?_); simp only [J_ref01_Kind, wk,if_true,if_false,forall_const,implies_true,ne_eq,eq_self,Nat.reduceEqDiff,Nat.reduceAdd,Nat.reduceMul,Nat.reduceSub,Nat.reduceLeDiff,Nat.reduceLT,Int.reduceEq,Int.reduceLT,Int.reduceLE,Int.reduceAdd,Int.reduceSub,Int.reduceMul,Int.reduceNeg,Int.reduceNe,reduceCtorEq,Int.reduceToNat,↓reduceIte]
  have hw : IntKind.wrap .i64 (a : Int) = a := by rw [IntKind.wrap_i64]; omega
  have hm : (a : Int).tmod 8192 = ((a % 8192 : Nat) : Int) := by rw [Int.tmod_eq_emod_of_nonneg (by omega)]; omega
  have hd : ((a : Int) - ((a % 8192 : Nat) : Int)).tdiv 8192 = ((a / 8192 : Nat) : Int) := by rw [Int.tdiv_eq_ediv_of_nonneg (by omega)]; omega
  rw [hw, hm, hd]
  exact ⟨inR_of (by omega) (by omega), inR_of (by omega) (by omega), rfl⟩
theorem p_isOf (a : Nat) (l : List Int) (h : a < 65536) (hl : l.length ≤ 9223372036854775807) : PCalls Try.prog 55 [.int .u16 a, .lst .ro l.length (l.map (.int .i64))] (.bool (hasI l ((a / 8192 : Nat) : Int))) := by
  refine pcalls_of (by simp [free.frees, free, frees_ints]) rfl (acalls_of mixed J_cert_isOf_ok (Nat.le_of_ble_eq_true rfl) ?_); simp only [J_cert_isOf, wk,if_true,if_false,forall_const,implies_true,ne_eq,eq_self,Nat.reduceEqDiff,Nat.reduceAdd,Nat.reduceMul,Nat.reduceSub,Nat.reduceLeDiff,Nat.reduceLT,Int.reduceEq,Int.reduceLT,Int.reduceLE,Int.reduceAdd,Int.reduceSub,Int.reduceMul,Int.reduceNeg,Int.reduceNe,reduceCtorEq,Int.reduceToNat,↓reduceIte]
  have hw : IntKind.wrap .i64 (a : Int) = a := by rw [IntKind.wrap_i64]; omega
  have hd : (a : Int).tdiv 8192 = ((a / 8192 : Nat) : Int) := by rw [Int.tdiv_eq_ediv_of_nonneg (by omega)]; omega
  rw [hw, hd]
  refine ⟨inR_of (by omega) (by omega), ?_⟩
  refine PCalls.use (p_containsI l ((a / 8192 : Nat) : Int) hl) ?_; simp only [wk,if_true,if_false,forall_const,implies_true,ne_eq,eq_self,Nat.reduceEqDiff,Nat.reduceAdd,Nat.reduceMul,Nat.reduceSub,Nat.reduceLeDiff,Nat.reduceLT,Int.reduceEq,Int.reduceLT,Int.reduceLE,Int.reduceAdd,Int.reduceSub,Int.reduceMul,Int.reduceNeg,Int.reduceNe,reduceCtorEq,Int.reduceToNat,↓reduceIte]
theorem p_alone (w : ByteArray) (l : List Int) (hw : w.size ≤ 9223372036854775807) (hl : l.length ≤ 9223372036854775807) : PCalls Try.prog 66 [.str w, .lst .ro l.length (l.map (.int .i64))] (.bool (decide (w.size / 2 = 1) && hasI l ((atomAt w 0 / 8192 : Nat) : Int))) := by
  refine pcalls_of (by simp [free.frees, free, frees_ints]) rfl (acalls_of mixed J_cert_alone_ok (Nat.le_of_ble_eq_true rfl) ?_); simp only [J_cert_alone, wk,if_true,if_false,forall_const,implies_true,ne_eq,eq_self,Nat.reduceEqDiff,Nat.reduceAdd,Nat.reduceMul,Nat.reduceSub,Nat.reduceLeDiff,Nat.reduceLT,Int.reduceEq,Int.reduceLT,Int.reduceLE,Int.reduceAdd,Int.reduceSub,Int.reduceMul,Int.reduceNeg,Int.reduceNe,reduceCtorEq,Int.reduceToNat,↓reduceIte]
  refine PCalls.use (p_wlen w hw) ?_; simp only [wk,if_true,if_false,forall_const,implies_true,ne_eq,eq_self,Nat.reduceEqDiff,Nat.reduceAdd,Nat.reduceMul,Nat.reduceSub,Nat.reduceLeDiff,Nat.reduceLT,Int.reduceEq,Int.reduceLT,Int.reduceLE,Int.reduceAdd,Int.reduceSub,Int.reduceMul,Int.reduceNeg,Int.reduceNe,reduceCtorEq,Int.reduceToNat,↓reduceIte]
  refine ⟨fun h1 => ?_, fun h1 => bool_eq (by rw [decide_eq_false (by omega)]; rfl)⟩
  refine PCalls.use (p_wat w 0 hw (by omega)) ?_; simp only [wk,if_true,if_false,forall_const,implies_true,ne_eq,eq_self,Nat.reduceEqDiff,Nat.reduceAdd,Nat.reduceMul,Nat.reduceSub,Nat.reduceLeDiff,Nat.reduceLT,Int.reduceEq,Int.reduceLT,Int.reduceLE,Int.reduceAdd,Int.reduceSub,Int.reduceMul,Int.reduceNeg,Int.reduceNe,reduceCtorEq,Int.reduceToNat,↓reduceIte]
  refine PCalls.use (p_isOf (atomAt w 0) l (atomAt_lt w 0) hl) ?_; simp only [wk,if_true,if_false,forall_const,implies_true,ne_eq,eq_self,Nat.reduceEqDiff,Nat.reduceAdd,Nat.reduceMul,Nat.reduceSub,Nat.reduceLeDiff,Nat.reduceLT,Int.reduceEq,Int.reduceLT,Int.reduceLE,Int.reduceAdd,Int.reduceSub,Int.reduceMul,Int.reduceNeg,Int.reduceNe,reduceCtorEq,Int.reduceToNat,↓reduceIte]
  rw [decide_eq_true (show w.size / 2 = 1 by omega)]
  rfl
def numL (l : List Int) : Bool := l.all fun x => decide (0 ≤ x) && decide (x ≤ 4611686018427387904)
theorem p_cnum (l : List Int) (hl : l.length ≤ 9223372036854775807) : PCalls Try.prog 56 [.lst .ro l.length (l.map (.int .i64))] (.bool (numL l)) := by
  refine pcalls_of (by simp [free.frees, free, frees_ints]) rfl (acalls_of mixed J_cert_num_ok (Nat.le_of_ble_eq_true rfl) ?_); simp only [J_cert_num, wk,if_true,if_false,forall_const,implies_true,ne_eq,eq_self,Nat.reduceEqDiff,Nat.reduceAdd,Nat.reduceMul,Nat.reduceSub,Nat.reduceLeDiff,Nat.reduceLT,Int.reduceEq,Int.reduceLT,Int.reduceLE,Int.reduceAdd,Int.reduceSub,Int.reduceMul,Int.reduceNeg,Int.reduceNe,reduceCtorEq,Int.reduceToNat,↓reduceIte]
  refine W_loop (fun n fr h => ∃ i : Nat, i ≤ l.length ∧ n = l.length - i ∧ fr = [(5, .lst .ro l.length (l.map (.int .i64))), (6, .int .i64 l.length), (7, .int .i64 i)] ∧ ∀ x ∈ l.take i, 0 ≤ x ∧ x ≤ 4611686018427387904) l.length ⟨0, by omega, by omega, rfl, by simp⟩ ?_
  rintro n fr h ⟨i, hi, rfl, rfl, hall⟩
  simp only [J_cert_num_j2, J_cert_num_j1, wk,if_true,if_false,forall_const,implies_true,ne_eq,eq_self,Nat.reduceEqDiff,Nat.reduceAdd,Nat.reduceMul,Nat.reduceSub,Nat.reduceLeDiff,Nat.reduceLT,Int.reduceEq,Int.reduceLT,Int.reduceLE,Int.reduceAdd,Int.reduceSub,Int.reduceMul,Int.reduceNeg,Int.reduceNe,reduceCtorEq,Int.reduceToNat,↓reduceIte]
  refine ⟨fun hlt => ?_, fun hge => bool_eq ?_⟩
  · have hil : i < l.length := by omega
    (repeat (refine And.intro (by first | omega | exact inR_of (by omega) (by omega) | exact ⟨by omega, by omega⟩ | exact ⟨by omega, by omega, by omega⟩ | rfl) ?_))
    rw [show (i : Int).toNat = i by omega, drop_ints hil]
    simp only [wk,if_true,if_false,forall_const,implies_true,ne_eq,eq_self,Nat.reduceEqDiff,Nat.reduceAdd,Nat.reduceMul,Nat.reduceSub,Nat.reduceLeDiff,Nat.reduceLT,Int.reduceEq,Int.reduceLT,Int.reduceLE,Int.reduceAdd,Int.reduceSub,Int.reduceMul,Int.reduceNeg,Int.reduceNe,reduceCtorEq,Int.reduceToNat,↓reduceIte]
    have hno : ¬ (0 ≤ l[i] ∧ l[i] ≤ 4611686018427387904) → numL l = false := by
      intro h
      cases hn : numL l with
      | false => rfl
      | true =>
        have := List.all_eq_true.1 hn l[i] (List.getElem_mem hil)
        simp only [Bool.and_eq_true, decide_eq_true_eq] at this
        exact absurd this h
    have hyes : 0 ≤ l[i] → l[i] ≤ 4611686018427387904 → ∀ x ∈ l.take (i + 1), 0 ≤ x ∧ x ≤ 4611686018427387904 := by
      intro h1 h2 x hx
      rcases (take_mem_succ hil).1 hx with h | h
      · exact hall x h
      · subst h; exact ⟨h1, h2⟩
    refine ⟨fun h0 => ⟨fun h1 => bool_eq (hno (by omega)).symm, fun h1 => ⟨inR_of (by omega) (by omega), l.length - (i + 1), by omega, i + 1, by omega, rfl, rfl, hyes (by omega) (by omega)⟩⟩, fun h0 => bool_eq (hno (by omega)).symm⟩
  · rw [List.take_of_length_le (by omega)] at hall
    unfold numL
    symm
    rw [List.all_eq_true]
    intro x hx
    have := hall x hx
    simp only [Bool.and_eq_true, decide_eq_true_eq]
    exact this
theorem p_rcnum (a : Int) : PCalls Try.prog 59 [.int .i64 a] (.bool (decide (0 ≤ a ∧ a ≤ 4611686018427387904))) := by
  refine pcalls_of (by first | rfl | simp [free, free.frees, frees_str, frees_u8, frees_u16]) (by first | rfl | simp [free, free.frees, frees_str, frees_u8, frees_u16]) (acalls_of mixed J_ref08_num_ok (Nat.le_of_ble_eq_true rfl) ?_); simp only [J_ref08_num, wk,if_true,if_false,forall_const,implies_true,ne_eq,eq_self,Nat.reduceEqDiff,Nat.reduceAdd,Nat.reduceMul,Nat.reduceSub,Nat.reduceLeDiff,Nat.reduceLT,Int.reduceEq,Int.reduceLT,Int.reduceLE,Int.reduceAdd,Int.reduceSub,Int.reduceMul,Int.reduceNeg,Int.reduceNe,reduceCtorEq,Int.reduceToNat,↓reduceIte]
  exact ⟨fun h => bool_eq (by simp [h]), fun h => bool_eq (by simp [h])⟩
def singleE (w : ByteArray) : Int := if w.size / 2 = 1 then ((atomAt w 0 / 8192 : Nat) : Int) else -1
theorem p_single (w : ByteArray) (hw : w.size ≤ 1000000) : PCalls Try.prog 67 [.str w] (.int .i64 (singleE w)) := by
  refine pcalls_of (by first | rfl | simp [free, free.frees, frees_str, frees_u8, frees_u16]) (by first | rfl | simp [free, free.frees, frees_str, frees_u8, frees_u16]) (acalls_of mixed J_ref08_single_ok (Nat.le_of_ble_eq_true rfl) ?_); simp only [J_ref08_single, wk,if_true,if_false,forall_const,implies_true,ne_eq,eq_self,Nat.reduceEqDiff,Nat.reduceAdd,Nat.reduceMul,Nat.reduceSub,Nat.reduceLeDiff,Nat.reduceLT,Int.reduceEq,Int.reduceLT,Int.reduceLE,Int.reduceAdd,Int.reduceSub,Int.reduceMul,Int.reduceNeg,Int.reduceNe,reduceCtorEq,Int.reduceToNat,↓reduceIte]
  refine PCalls.use (p_ratoms w (by omega)) ?_; simp only [wk,if_true,if_false,forall_const,implies_true,ne_eq,eq_self,Nat.reduceEqDiff,Nat.reduceAdd,Nat.reduceMul,Nat.reduceSub,Nat.reduceLeDiff,Nat.reduceLT,Int.reduceEq,Int.reduceLT,Int.reduceLE,Int.reduceAdd,Int.reduceSub,Int.reduceMul,Int.reduceNeg,Int.reduceNe,reduceCtorEq,Int.reduceToNat,↓reduceIte]
  refine ⟨fun h => int_eq (by unfold singleE; rw [if_neg (by omega)]), fun h => ⟨by omega, ?_⟩⟩
  have h1 : w.size / 2 = 1 := by omega
  rw [h1, show atomsL w 1 = [.int .u16 (atomAt w 0)] from rfl]
  simp only [wk,if_true,if_false,forall_const,implies_true,ne_eq,eq_self,Nat.reduceEqDiff,Nat.reduceAdd,Nat.reduceMul,Nat.reduceSub,Nat.reduceLeDiff,Nat.reduceLT,Int.reduceEq,Int.reduceLT,Int.reduceLE,Int.reduceAdd,Int.reduceSub,Int.reduceMul,Int.reduceNeg,Int.reduceNe,reduceCtorEq,Int.reduceToNat,↓reduceIte]
  refine PCalls.use (p_kind (atomAt w 0) (atomAt_lt w 0)) ?_; simp only [wk,if_true,if_false,forall_const,implies_true,ne_eq,eq_self,Nat.reduceEqDiff,Nat.reduceAdd,Nat.reduceMul,Nat.reduceSub,Nat.reduceLeDiff,Nat.reduceLT,Int.reduceEq,Int.reduceLT,Int.reduceLE,Int.reduceAdd,Int.reduceSub,Int.reduceMul,Int.reduceNeg,Int.reduceNe,reduceCtorEq,Int.reduceToNat,↓reduceIte]
  exact int_eq (by unfold singleE; rw [if_pos h1])
def rulesL (c : Crt) (l : List ByteArray) : List AV := l.flatMap fun w => [.str w, .str c.speaker]
theorem frees_rules (c : Crt) (l : List ByteArray) : free.frees (rulesL c l) = true := by
  unfold rulesL
  induction l with
  | nil => rfl
  | cons w l ih => simp only [List.flatMap_cons, List.cons_append, List.nil_append, free.frees, free, Bool.true_and, ih]
theorem rulesL_succ {c : Crt} {l : List ByteArray} {i : Nat} (h : i < l.length) : rulesL c (l.take (i + 1)) = rulesL c (l.take i) ++ [.str l[i], .str c.speaker] := by
  unfold rulesL
  rw [List.take_succ_eq_append_getElem h, List.flatMap_append]; rfl
theorem p_rules (c : Crt) (h : c.words.length ≤ 10000) : PCalls Try.prog 40 [vC c] (.lst .ro c.words.length (rulesL c c.words)) := by
  refine pcalls_of (by simp [free.frees, free_vC]) (by simp only [free]; exact frees_rules _ _) (ACalls.weak (acalls_of mixed J_cert_Rules_ok (Nat.le_of_ble_eq_true rfl) ?_)); simp only [J_cert_Rules, vC, cC, wk,if_true,if_false,forall_const,implies_true,ne_eq,eq_self,Nat.reduceEqDiff,Nat.reduceAdd,Nat.reduceMul,Nat.reduceSub,Nat.reduceLeDiff,Nat.reduceLT,Int.reduceEq,Int.reduceLT,Int.reduceLE,Int.reduceAdd,Int.reduceSub,Int.reduceMul,Int.reduceNeg,Int.reduceNe,reduceCtorEq,Int.reduceToNat,↓reduceIte]
  refine ⟨⟨by omega, by omega, by omega⟩, ?_⟩
  refine W_loop (fun n fr h => ∃ i : Nat, i ≤ c.words.length ∧ n = c.words.length - i ∧ h = [some (false, cC c)] ∧ fr = [(1, .ptr 0 0), (3, .lst (.own 29) i (rulesL c (c.words.take i))), (11, .lst .ro c.words.length (c.words.map .str)), (12, .int .i64 c.words.length), (13, .int .i64 i)]) c.words.length ⟨0, by omega, by omega, rfl, rfl⟩ ?_
  rintro n fr h ⟨i, hi, rfl, rfl, rfl⟩
  simp only [J_cert_Rules_j2, cC, wk,if_true,if_false,forall_const,implies_true,ne_eq,eq_self,Nat.reduceEqDiff,Nat.reduceAdd,Nat.reduceMul,Nat.reduceSub,Nat.reduceLeDiff,Nat.reduceLT,Int.reduceEq,Int.reduceLT,Int.reduceLE,Int.reduceAdd,Int.reduceSub,Int.reduceMul,Int.reduceNeg,Int.reduceNe,reduceCtorEq,Int.reduceToNat,↓reduceIte]
  refine ⟨fun hlt => ?_, fun hge => ?_⟩
  · have hil : i < c.words.length := by omega
    have hd : (c.words.map AV.str).drop (i : Int).toNat = .str c.words[i] :: (c.words.map AV.str).drop (i + 1) := by rw [show (i : Int).toNat = i by omega, drop_str hil]
    refine ⟨⟨by omega, by omega⟩, ?_⟩
    simp only [hd, wk,if_true,if_false,forall_const,implies_true,ne_eq,eq_self,Nat.reduceEqDiff,Nat.reduceAdd,Nat.reduceMul,Nat.reduceSub,Nat.reduceLeDiff,Nat.reduceLT,Int.reduceEq,Int.reduceLT,Int.reduceLE,Int.reduceAdd,Int.reduceSub,Int.reduceMul,Int.reduceNeg,Int.reduceNe,reduceCtorEq,Int.reduceToNat,↓reduceIte]
    refine ⟨⟨by omega, by omega⟩, inR_of (by omega) (by omega), c.words.length - (i + 1), by omega, i + 1, by omega, rfl, ?_⟩
    rw [rulesL_succ hil]; rfl
  · obtain rfl : i = c.words.length := by omega
    simp only [J_cert_Rules_j1, wk,if_true,if_false,forall_const,implies_true,ne_eq,eq_self,Nat.reduceEqDiff,Nat.reduceAdd,Nat.reduceMul,Nat.reduceSub,Nat.reduceLeDiff,Nat.reduceLT,Int.reduceEq,Int.reduceLT,Int.reduceLE,Int.reduceAdd,Int.reduceSub,Int.reduceMul,Int.reduceNeg,Int.reduceNe,reduceCtorEq,Int.reduceToNat,↓reduceIte]
    rw [List.take_length]
    exact ro_ro _ _
theorem p_rrules (c : Crt) (h : c.words.length ≤ 10000) : PCalls Try.prog 44 [vC c] (.lst .ro c.words.length (rulesL c c.words)) := by
  refine pcalls_of (by simp [free.frees, free_vC]) (by simp only [free]; exact frees_rules _ _) (ACalls.weak (acalls_of mixed J_ref08_Rules_ok (Nat.le_of_ble_eq_true rfl) ?_)); simp only [J_ref08_Rules, vC, cC, wk,if_true,if_false,forall_const,implies_true,ne_eq,eq_self,Nat.reduceEqDiff,Nat.reduceAdd,Nat.reduceMul,Nat.reduceSub,Nat.reduceLeDiff,Nat.reduceLT,Int.reduceEq,Int.reduceLT,Int.reduceLE,Int.reduceAdd,Int.reduceSub,Int.reduceMul,Int.reduceNeg,Int.reduceNe,reduceCtorEq,Int.reduceToNat,↓reduceIte]
  refine W_loop (fun n fr h => ∃ i : Nat, i ≤ c.words.length ∧ n = c.words.length - i ∧ h = [some (false, cC c)] ∧ fr = [(1, .ptr 0 0), (3, .lst (.own 29) i (rulesL c (c.words.take i))), (4, .int .i64 i)]) c.words.length ⟨0, by omega, by omega, rfl, rfl⟩ ?_
  rintro n fr h ⟨i, hi, rfl, rfl, rfl⟩
  simp only [J_ref08_Rules_j2, cC, wk,if_true,if_false,forall_const,implies_true,ne_eq,eq_self,Nat.reduceEqDiff,Nat.reduceAdd,Nat.reduceMul,Nat.reduceSub,Nat.reduceLeDiff,Nat.reduceLT,Int.reduceEq,Int.reduceLT,Int.reduceLE,Int.reduceAdd,Int.reduceSub,Int.reduceMul,Int.reduceNeg,Int.reduceNe,reduceCtorEq,Int.reduceToNat,↓reduceIte]
  refine ⟨fun hlt => ?_, fun hge => ?_⟩
  · have hil : i < c.words.length := by omega
    have hd : (c.words.map AV.str).drop (i : Int).toNat = .str c.words[i] :: (c.words.map AV.str).drop (i + 1) := by rw [show (i : Int).toNat = i by omega, drop_str hil]
    refine ⟨⟨by omega, by omega⟩, ?_⟩
    simp only [hd, wk,if_true,if_false,forall_const,implies_true,ne_eq,eq_self,Nat.reduceEqDiff,Nat.reduceAdd,Nat.reduceMul,Nat.reduceSub,Nat.reduceLeDiff,Nat.reduceLT,Int.reduceEq,Int.reduceLT,Int.reduceLE,Int.reduceAdd,Int.reduceSub,Int.reduceMul,Int.reduceNeg,Int.reduceNe,reduceCtorEq,Int.reduceToNat,↓reduceIte]
    refine ⟨⟨by omega, by omega⟩, inR_of (by omega) (by omega), c.words.length - (i + 1), by omega, i + 1, by omega, rfl, ?_⟩
    rw [rulesL_succ hil]; rfl
  · obtain rfl : i = c.words.length := by omega
    simp only [J_ref08_Rules_j1, wk,if_true,if_false,forall_const,implies_true,ne_eq,eq_self,Nat.reduceEqDiff,Nat.reduceAdd,Nat.reduceMul,Nat.reduceSub,Nat.reduceLeDiff,Nat.reduceLT,Int.reduceEq,Int.reduceLT,Int.reduceLE,Int.reduceAdd,Int.reduceSub,Int.reduceMul,Int.reduceNeg,Int.reduceNe,reduceCtorEq,Int.reduceToNat,↓reduceIte]
    rw [List.take_length]
    exact ro_ro _ _
end Go.Proofs.Ytlfnepcglnjogaa

/- SetQuote, SetFor: the plain laws. -/
namespace Go.Proofs.Ytlfnepcglnjogaa
set_option linter.unusedSimpArgs false
set_option linter.unusedVariables false
open Go.RowKit Go.Lib

theorem ofE_ok {l : List ByteArray} (h : (ofE l).2 = 0) : ofE l = (nrm l, 0) := by
  unfold ofE at h ⊢
  split at h
  · cases h
  · next h1 =>
    split at h
    · next h2 => rw [if_neg h1, if_pos h2]
    · cases h
end Go.Proofs.Ytlfnepcglnjogaa

/- cert.delegate: a certificate of delegation. -/
namespace Go.Proofs.Ytlfnepcglnjogaa
set_option linter.unusedSimpArgs false
set_option linter.unusedVariables false
open Go.RowKit Go.Lib

theorem p_wwithin (w : ByteArray) (hw : w.size ≤ 1000000) (h : 2 ≤ w.size) : PCalls Try.prog 76 [.str w, .int .i64 0, .int .i64 1] (.bool true) := by
  refine pcalls_of (by first | rfl | simp [free, free.frees, frees_str, frees_u8, frees_u16]) (by first | rfl | simp [free, free.frees, frees_str, frees_u8, frees_u16]) (acalls_of mixed J_word_within_ok (Nat.le_of_ble_eq_true rfl) ?_); simp only [J_word_within, wk,if_true,if_false,forall_const,implies_true,ne_eq,eq_self,Nat.reduceEqDiff,Nat.reduceAdd,Nat.reduceMul,Nat.reduceSub,Nat.reduceLeDiff,Nat.reduceLT,Int.reduceEq,Int.reduceLT,Int.reduceLE,Int.reduceAdd,Int.reduceSub,Int.reduceMul,Int.reduceNeg,Int.reduceNe,reduceCtorEq,Int.reduceToNat,↓reduceIte]
  refine PCalls.use (p_wlen w (by omega)) ?_; simp only [wk,if_true,if_false,forall_const,implies_true,ne_eq,eq_self,Nat.reduceEqDiff,Nat.reduceAdd,Nat.reduceMul,Nat.reduceSub,Nat.reduceLeDiff,Nat.reduceLT,Int.reduceEq,Int.reduceLT,Int.reduceLE,Int.reduceAdd,Int.reduceSub,Int.reduceMul,Int.reduceNeg,Int.reduceNe,reduceCtorEq,Int.reduceToNat,↓reduceIte]
  refine ⟨fun _ => ?_, fun h0 => by omega⟩
  refine PCalls.use (p_wlen w (by omega)) ?_; simp only [wk,if_true,if_false,forall_const,implies_true,ne_eq,eq_self,Nat.reduceEqDiff,Nat.reduceAdd,Nat.reduceMul,Nat.reduceSub,Nat.reduceLeDiff,Nat.reduceLT,Int.reduceEq,Int.reduceLT,Int.reduceLE,Int.reduceAdd,Int.reduceSub,Int.reduceMul,Int.reduceNeg,Int.reduceNe,reduceCtorEq,Int.reduceToNat,↓reduceIte]
  exact ⟨inR_of (by omega) (by omega), bool_eq (decide_eq_true (by omega))⟩
def toldW (w : ByteArray) : ByteArray := atomW 1 ++ w.extract 2 w.size
theorem p_swap (w : ByteArray) (hev : w.size % 2 = 0) (hw : w.size ≤ 16) (h : 4 ≤ w.size) : PCalls Try.prog 73 [.str w, .int .i64 0, .int .i64 1, .str (atomW 1)] (.tup [.str (toldW w), .int .i64 0]) := by
  refine pcalls_of (by first | rfl | simp [free, free.frees, frees_str, frees_u8, frees_u16]) (by first | rfl | simp [free, free.frees, frees_str, frees_u8, frees_u16]) (acalls_of mixed J_word_Swap_ok (Nat.le_of_ble_eq_true rfl) ?_); simp only [J_word_Swap, wk,if_true,if_false,forall_const,implies_true,ne_eq,eq_self,Nat.reduceEqDiff,Nat.reduceAdd,Nat.reduceMul,Nat.reduceSub,Nat.reduceLeDiff,Nat.reduceLT,Int.reduceEq,Int.reduceLT,Int.reduceLE,Int.reduceAdd,Int.reduceSub,Int.reduceMul,Int.reduceNeg,Int.reduceNe,reduceCtorEq,Int.reduceToNat,↓reduceIte]
  refine PCalls.use (p_wodd w) ?_; simp only [wk,if_true,if_false,forall_const,implies_true,ne_eq,eq_self,Nat.reduceEqDiff,Nat.reduceAdd,Nat.reduceMul,Nat.reduceSub,Nat.reduceLeDiff,Nat.reduceLT,Int.reduceEq,Int.reduceLT,Int.reduceLE,Int.reduceAdd,Int.reduceSub,Int.reduceMul,Int.reduceNeg,Int.reduceNe,reduceCtorEq,Int.reduceToNat,↓reduceIte]
  refine ⟨fun _ => ?_, fun h0 => absurd hev h0⟩
  refine PCalls.use (p_wodd (atomW 1)) ?_; simp only [wk,if_true,if_false,forall_const,implies_true,ne_eq,eq_self,Nat.reduceEqDiff,Nat.reduceAdd,Nat.reduceMul,Nat.reduceSub,Nat.reduceLeDiff,Nat.reduceLT,Int.reduceEq,Int.reduceLT,Int.reduceLE,Int.reduceAdd,Int.reduceSub,Int.reduceMul,Int.reduceNeg,Int.reduceNe,reduceCtorEq,Int.reduceToNat,↓reduceIte]
  refine ⟨fun h0 => absurd rfl h0, fun _ => ?_⟩
  refine PCalls.use (p_wwithin w (by omega) (by omega)) ?_; simp only [wk,if_true,if_false,forall_const,implies_true,ne_eq,eq_self,Nat.reduceEqDiff,Nat.reduceAdd,Nat.reduceMul,Nat.reduceSub,Nat.reduceLeDiff,Nat.reduceLT,Int.reduceEq,Int.reduceLT,Int.reduceLE,Int.reduceAdd,Int.reduceSub,Int.reduceMul,Int.reduceNeg,Int.reduceNe,reduceCtorEq,Int.reduceToNat,↓reduceIte]
  refine PCalls.use (p_wlen w (by omega)) ?_; simp only [wk,if_true,if_false,forall_const,implies_true,ne_eq,eq_self,Nat.reduceEqDiff,Nat.reduceAdd,Nat.reduceMul,Nat.reduceSub,Nat.reduceLeDiff,Nat.reduceLT,Int.reduceEq,Int.reduceLT,Int.reduceLE,Int.reduceAdd,Int.reduceSub,Int.reduceMul,Int.reduceNeg,Int.reduceNe,reduceCtorEq,Int.reduceToNat,↓reduceIte]
  refine ⟨inR_of (by omega) (by omega), ?_⟩
  refine PCalls.use (p_wlen (atomW 1) (by decide)) ?_; simp only [wk,if_true,if_false,forall_const,implies_true,ne_eq,eq_self,Nat.reduceEqDiff,Nat.reduceAdd,Nat.reduceMul,Nat.reduceSub,Nat.reduceLeDiff,Nat.reduceLT,Int.reduceEq,Int.reduceLT,Int.reduceLE,Int.reduceAdd,Int.reduceSub,Int.reduceMul,Int.reduceNeg,Int.reduceNe,reduceCtorEq,Int.reduceToNat,↓reduceIte]
  have hD : (atomW 1).size = 2 := rfl
  rw [hD]
  refine ⟨inR_of (by omega) (by omega), fun h0 => by omega, fun _ => ?_⟩
  have e0 : w.extract 0 0 ++ atomW 1 = atomW 1 := by apply ByteArray.ext; apply Array.ext'; simp
  have e1 : (w.extract 0 0).size = 0 := by simp [ByteArray.size_extract]
  have e2 : (w.size : Int).toNat = w.size := by omega
  rw [e0, e1, e2, hD]
  refine ⟨inR_of (by omega) (by omega), by omega, by omega, inR_of (by omega) (by omega), inR_of (by omega) (by omega), ⟨by omega, by omega⟩, ?_, rfl⟩
  rw [ByteArray.size_extract]; omega
theorem q_wd : PCalls Try.prog 39 [.lst .ro 1 [.int .u16 1]] (.str (atomW 1)) := by
  have := p_wof [1] (by decide) (by decide)
  rw [atomBytes_one] at this
  exact this
def delegE (c : Crt) : Bool := decide (2 ≤ c.speaker.size / 2) && (decide ((ofE [c.speaker, toldW c.speaker]).2 = 0) && (withinE c.words (ofE [c.speaker, toldW c.speaker]).1 && withinE (ofE [c.speaker, toldW c.speaker]).1 c.words))
theorem told_size {w : ByteArray} (h : 2 ≤ w.size) : (toldW w).size = w.size := by
  unfold toldW
  rw [ByteArray.size_append, ByteArray.size_extract]
  have hD : (atomW 1).size = 2 := rfl
  omega
set_option maxRecDepth 100000 in
theorem p_deleg (c : Crt) (hm : wordMay c.speaker = true) (hs : setMay c.words = true) : PCalls Try.prog 65 [vC c] (.bool (delegE c)) := by
  have hsz := wordMay_even hm
  have hsm := smallS_nrm hs
  refine pcalls_of (by simp [free.frees, free_vC]) rfl (acalls_of mixed J_cert_delegate_ok (Nat.le_of_ble_eq_true rfl) ?_); simp only [J_cert_delegate, vC, cC, wk,if_true,if_false,forall_const,implies_true,ne_eq,eq_self,Nat.reduceEqDiff,Nat.reduceAdd,Nat.reduceMul,Nat.reduceSub,Nat.reduceLeDiff,Nat.reduceLT,Int.reduceEq,Int.reduceLT,Int.reduceLE,Int.reduceAdd,Int.reduceSub,Int.reduceMul,Int.reduceNeg,Int.reduceNe,reduceCtorEq,Int.reduceToNat,↓reduceIte]
  refine PCalls.use (p_wlen c.speaker (by omega)) ?_; simp only [wk,if_true,if_false,forall_const,implies_true,ne_eq,eq_self,Nat.reduceEqDiff,Nat.reduceAdd,Nat.reduceMul,Nat.reduceSub,Nat.reduceLeDiff,Nat.reduceLT,Int.reduceEq,Int.reduceLT,Int.reduceLE,Int.reduceAdd,Int.reduceSub,Int.reduceMul,Int.reduceNeg,Int.reduceNe,reduceCtorEq,Int.reduceToNat,↓reduceIte]
  refine ⟨fun h2 => bool_eq (by unfold delegE; rw [decide_eq_false (by omega)]; rfl), fun h2 => ?_⟩
  have hd : decide (2 ≤ c.speaker.size / 2) = true := decide_eq_true (by omega)
  refine ⟨_, q_wd, _, p_swap c.speaker hsz.1 hsz.2 (by omega), ?_⟩
  simp only [wk,if_true,if_false,forall_const,implies_true,ne_eq,eq_self,Nat.reduceEqDiff,Nat.reduceAdd,Nat.reduceMul,Nat.reduceSub,Nat.reduceLeDiff,Nat.reduceLT,Int.reduceEq,Int.reduceLT,Int.reduceLE,Int.reduceAdd,Int.reduceSub,Int.reduceMul,Int.reduceNeg,Int.reduceNe,reduceCtorEq,Int.reduceToNat,↓reduceIte]
  have hts := told_size (w := c.speaker) (by omega)
  have ho := p_sof [c.speaker, toldW c.speaker] (by simp) (by intro x hx; simp at hx; rcases hx with rfl | rfl <;> omega)
  refine PCalls.use ho ?_
  simp only [vSet, wk,if_true,if_false,forall_const,implies_true,ne_eq,eq_self,Nat.reduceEqDiff,Nat.reduceAdd,Nat.reduceMul,Nat.reduceSub,Nat.reduceLeDiff,Nat.reduceLT,Int.reduceEq,Int.reduceLT,Int.reduceLE,Int.reduceAdd,Int.reduceSub,Int.reduceMul,Int.reduceNeg,Int.reduceNe,reduceCtorEq,Int.reduceToNat,↓reduceIte]
  have hos := ofE_small [c.speaker, toldW c.speaker]
  refine ⟨fun h0 => ?_, fun h0 => bool_eq (by unfold delegE; rw [hd, decide_eq_false h0]; rfl)⟩
  have hg : setMay (ofE [c.speaker, toldW c.speaker]).1 = true := by
    have e := ofE_ok h0
    have := ofE_good e
    rw [e]; exact this
  refine PCalls.use (p_same c.words (ofE [c.speaker, toldW c.speaker]).1 (by omega) (by omega) hsm.2.2 (smallS_nrm hg).2.2) ?_; simp only [wk,if_true,if_false,forall_const,implies_true,ne_eq,eq_self,Nat.reduceEqDiff,Nat.reduceAdd,Nat.reduceMul,Nat.reduceSub,Nat.reduceLeDiff,Nat.reduceLT,Int.reduceEq,Int.reduceLT,Int.reduceLE,Int.reduceAdd,Int.reduceSub,Int.reduceMul,Int.reduceNeg,Int.reduceNe,reduceCtorEq,Int.reduceToNat,↓reduceIte]
  exact bool_eq (by unfold delegE; rw [hd, decide_eq_true h0]; rfl)
end Go.Proofs.Ytlfnepcglnjogaa

/- cert.like. -/
namespace Go.Proofs.Ytlfnepcglnjogaa
set_option linter.unusedSimpArgs false
set_option linter.unusedVariables false
open Go.RowKit Go.Lib

def kindAt (w : ByteArray) (i : Nat) : Int := ((atomAt w i / 8192 : Nat) : Int)
def aloneE (w : ByteArray) (l : List Int) : Bool := decide (w.size / 2 = 1) && hasI l (kindAt w 0)
def likeOne (c : Crt) (w : ByteArray) : Bool :=
  if c.kind = 1 then aloneE c.speaker [1] && (decide (w.size / 2 = 2) && (hasI [3] (kindAt w 0) && hasI [5] (kindAt w 1)))
  else if c.kind = 2 then aloneE c.speaker [1] && decide (w = atomW c.signer)
  else if c.kind = 3 then aloneE c.speaker [2]
  else if c.kind = 4 then aloneE c.speaker [3] && aloneE w [4]
  else if c.kind = 5 then aloneE c.speaker [1, 2] && (decide (2 ≤ w.size / 2) && hasI [5] (kindAt w (w.size / 2 - 1)))
  else false
def likeE (c : Crt) : Bool :=
  if c.kind = 6 then true else if c.kind = 7 then delegE c else match c.words with
    | [w] => likeOne c w
    | _ => false
set_option maxRecDepth 100000 in
set_option maxHeartbeats 2000000 in
theorem p_like (c : Crt) (hm : wordMay c.speaker = true) (hs : setMay c.words = true) (hg : c.signer < 65536) : PCalls Try.prog 57 [vC c] (.bool (likeE c)) := by
  have hsz := wordMay_even hm
  have hsm := setMay_small hs
  refine pcalls_of (by simp [free.frees, free_vC]) rfl (acalls_of mixed J_cert_like_ok (Nat.le_of_ble_eq_true rfl) ?_); simp only [J_cert_like, vC, cC, wk,if_true,if_false,forall_const,implies_true,ne_eq,eq_self,Nat.reduceEqDiff,Nat.reduceAdd,Nat.reduceMul,Nat.reduceSub,Nat.reduceLeDiff,Nat.reduceLT,Int.reduceEq,Int.reduceLT,Int.reduceLE,Int.reduceAdd,Int.reduceSub,Int.reduceMul,Int.reduceNeg,Int.reduceNe,reduceCtorEq,Int.reduceToNat,↓reduceIte]
  refine ⟨fun h6 => bool_eq (by simp [likeE, h6]), fun h6 => ⟨fun h7 => ?_, fun h7 => ⟨fun h1 => bool_eq ?_, fun h1 => ⟨by omega, ?_⟩⟩⟩⟩
  · have hp := p_deleg c hm hs
    unfold vC cC at hp
    refine PCalls.use (hp) ?_; simp only [wk,if_true,if_false,forall_const,implies_true,ne_eq,eq_self,Nat.reduceEqDiff,Nat.reduceAdd,Nat.reduceMul,Nat.reduceSub,Nat.reduceLeDiff,Nat.reduceLT,Int.reduceEq,Int.reduceLT,Int.reduceLE,Int.reduceAdd,Int.reduceSub,Int.reduceMul,Int.reduceNeg,Int.reduceNe,reduceCtorEq,Int.reduceToNat,↓reduceIte]
    exact bool_eq (by unfold likeE; rw [if_neg h6, if_pos h7])
  · unfold likeE
    rw [if_neg h6, if_neg h7]
    split
    · next w e => rw [e] at h1; exact absurd rfl h1
    · rfl
  obtain ⟨w, hw⟩ : ∃ w, c.words = [w] := by
    cases e : c.words with
    | nil => rw [e] at h1; cases h1
    | cons w l =>
      cases l with
      | nil => exact ⟨w, rfl⟩
      | cons x l => rw [e] at h1; simp at h1; omega
  have hL : likeE c = likeOne c w := by unfold likeE; rw [if_neg h6, if_neg h7, hw]
  have hwz : w.size ≤ 16 := hsm.2 w (by rw [hw]; simp)
  have hmw := (setMay_words hs).2 w (by rw [hw]; simp)
  rw [hL]
  simp only [hw, List.map_cons, List.map_nil, wk,if_true,if_false,forall_const,implies_true,ne_eq,eq_self,Nat.reduceEqDiff,Nat.reduceAdd,Nat.reduceMul,Nat.reduceSub,Nat.reduceLeDiff,Nat.reduceLT,Int.reduceEq,Int.reduceLT,Int.reduceLE,Int.reduceAdd,Int.reduceSub,Int.reduceMul,Int.reduceNeg,Int.reduceNe,reduceCtorEq,Int.reduceToNat,↓reduceIte]
  refine PCalls.use (p_wlen w (by omega)) ?_; simp only [wk,if_true,if_false,forall_const,implies_true,ne_eq,eq_self,Nat.reduceEqDiff,Nat.reduceAdd,Nat.reduceMul,Nat.reduceSub,Nat.reduceLeDiff,Nat.reduceLT,Int.reduceEq,Int.reduceLT,Int.reduceLE,Int.reduceAdd,Int.reduceSub,Int.reduceMul,Int.reduceNeg,Int.reduceNe,reduceCtorEq,Int.reduceToNat,↓reduceIte]
  have qa : ∀ (s : ByteArray) (l : List Int), s.size ≤ 16 → l.length ≤ 2 → PCalls Try.prog 66 [.str s, .lst .ro l.length (l.map (.int .i64))] (.bool (aloneE s l)) := fun s l hz hl => p_alone s l (by omega) (by omega)
  have qo : ∀ (i : Nat) (l : List Int), l.length ≤ 2 → PCalls Try.prog 55 [.int .u16 (atomAt w i), .lst .ro l.length (l.map (.int .i64))] (.bool (hasI l (kindAt w i))) := fun i l hl => p_isOf (atomAt w i) l (atomAt_lt w i) (by omega)
  refine ⟨fun k1 => ?_, fun k1 => ⟨fun k2 => ?_, fun k2 => ⟨fun k3 => ?_, fun k3 => ⟨fun k4 => ?_, fun k4 => ⟨fun k5 => ?_, fun k5 => bool_eq ?_⟩⟩⟩⟩⟩
  · have e : likeOne c w = (aloneE c.speaker [1] && (decide (w.size / 2 = 2) && (hasI [3] (kindAt w 0) && hasI [5] (kindAt w 1)))) := by unfold likeOne; rw [if_pos k1]
    rw [e]
    refine PCalls.use (qa c.speaker [1] hsz.2 (by simp)) ?_; simp only [wk,if_true,if_false,forall_const,implies_true,ne_eq,eq_self,Nat.reduceEqDiff,Nat.reduceAdd,Nat.reduceMul,Nat.reduceSub,Nat.reduceLeDiff,Nat.reduceLT,Int.reduceEq,Int.reduceLT,Int.reduceLE,Int.reduceAdd,Int.reduceSub,Int.reduceMul,Int.reduceNeg,Int.reduceNe,reduceCtorEq,Int.reduceToNat,↓reduceIte]
    cases ha : aloneE c.speaker [1] with
    | false => simp only [wk,if_true,if_false,forall_const,implies_true,ne_eq,eq_self,Nat.reduceEqDiff,Nat.reduceAdd,Nat.reduceMul,Nat.reduceSub,Nat.reduceLeDiff,Nat.reduceLT,Int.reduceEq,Int.reduceLT,Int.reduceLE,Int.reduceAdd,Int.reduceSub,Int.reduceMul,Int.reduceNeg,Int.reduceNe,reduceCtorEq,Int.reduceToNat,↓reduceIte]; rfl
    | true =>
      simp only [wk,if_true,if_false,forall_const,implies_true,ne_eq,eq_self,Nat.reduceEqDiff,Nat.reduceAdd,Nat.reduceMul,Nat.reduceSub,Nat.reduceLeDiff,Nat.reduceLT,Int.reduceEq,Int.reduceLT,Int.reduceLE,Int.reduceAdd,Int.reduceSub,Int.reduceMul,Int.reduceNeg,Int.reduceNe,reduceCtorEq,Int.reduceToNat,↓reduceIte]
      refine ⟨fun h2 => ?_, fun h2 => bool_eq (by rw [decide_eq_false (by omega)]; rfl)⟩
      refine PCalls.use (p_wat w 0 (by omega) (by omega)) ?_; simp only [wk,if_true,if_false,forall_const,implies_true,ne_eq,eq_self,Nat.reduceEqDiff,Nat.reduceAdd,Nat.reduceMul,Nat.reduceSub,Nat.reduceLeDiff,Nat.reduceLT,Int.reduceEq,Int.reduceLT,Int.reduceLE,Int.reduceAdd,Int.reduceSub,Int.reduceMul,Int.reduceNeg,Int.reduceNe,reduceCtorEq,Int.reduceToNat,↓reduceIte]
      refine PCalls.use (qo 0 [3] (by simp)) ?_; simp only [wk,if_true,if_false,forall_const,implies_true,ne_eq,eq_self,Nat.reduceEqDiff,Nat.reduceAdd,Nat.reduceMul,Nat.reduceSub,Nat.reduceLeDiff,Nat.reduceLT,Int.reduceEq,Int.reduceLT,Int.reduceLE,Int.reduceAdd,Int.reduceSub,Int.reduceMul,Int.reduceNeg,Int.reduceNe,reduceCtorEq,Int.reduceToNat,↓reduceIte]
      rw [decide_eq_true (show w.size / 2 = 2 by omega)]
      cases h3 : hasI [3] (kindAt w 0) with
      | false => simp only [wk,if_true,if_false,forall_const,implies_true,ne_eq,eq_self,Nat.reduceEqDiff,Nat.reduceAdd,Nat.reduceMul,Nat.reduceSub,Nat.reduceLeDiff,Nat.reduceLT,Int.reduceEq,Int.reduceLT,Int.reduceLE,Int.reduceAdd,Int.reduceSub,Int.reduceMul,Int.reduceNeg,Int.reduceNe,reduceCtorEq,Int.reduceToNat,↓reduceIte]; rfl
      | true =>
        simp only [wk,if_true,if_false,forall_const,implies_true,ne_eq,eq_self,Nat.reduceEqDiff,Nat.reduceAdd,Nat.reduceMul,Nat.reduceSub,Nat.reduceLeDiff,Nat.reduceLT,Int.reduceEq,Int.reduceLT,Int.reduceLE,Int.reduceAdd,Int.reduceSub,Int.reduceMul,Int.reduceNeg,Int.reduceNe,reduceCtorEq,Int.reduceToNat,↓reduceIte]
        refine PCalls.use (p_wat w 1 (by omega) (by omega)) ?_; simp only [wk,if_true,if_false,forall_const,implies_true,ne_eq,eq_self,Nat.reduceEqDiff,Nat.reduceAdd,Nat.reduceMul,Nat.reduceSub,Nat.reduceLeDiff,Nat.reduceLT,Int.reduceEq,Int.reduceLT,Int.reduceLE,Int.reduceAdd,Int.reduceSub,Int.reduceMul,Int.reduceNeg,Int.reduceNe,reduceCtorEq,Int.reduceToNat,↓reduceIte]
        refine PCalls.use (qo 1 [5] (by simp)) ?_; simp only [wk,if_true,if_false,forall_const,implies_true,ne_eq,eq_self,Nat.reduceEqDiff,Nat.reduceAdd,Nat.reduceMul,Nat.reduceSub,Nat.reduceLeDiff,Nat.reduceLT,Int.reduceEq,Int.reduceLT,Int.reduceLE,Int.reduceAdd,Int.reduceSub,Int.reduceMul,Int.reduceNeg,Int.reduceNe,reduceCtorEq,Int.reduceToNat,↓reduceIte]
        rfl
  · have e : likeOne c w = (aloneE c.speaker [1] && decide (w = atomW c.signer)) := by unfold likeOne; rw [if_neg k1, if_pos k2]
    rw [e]
    refine PCalls.use (qa c.speaker [1] hsz.2 (by simp)) ?_; simp only [wk,if_true,if_false,forall_const,implies_true,ne_eq,eq_self,Nat.reduceEqDiff,Nat.reduceAdd,Nat.reduceMul,Nat.reduceSub,Nat.reduceLeDiff,Nat.reduceLT,Int.reduceEq,Int.reduceLT,Int.reduceLE,Int.reduceAdd,Int.reduceSub,Int.reduceMul,Int.reduceNeg,Int.reduceNe,reduceCtorEq,Int.reduceToNat,↓reduceIte]
    cases ha : aloneE c.speaker [1] with
    | false => simp only [wk,if_true,if_false,forall_const,implies_true,ne_eq,eq_self,Nat.reduceEqDiff,Nat.reduceAdd,Nat.reduceMul,Nat.reduceSub,Nat.reduceLeDiff,Nat.reduceLT,Int.reduceEq,Int.reduceLT,Int.reduceLE,Int.reduceAdd,Int.reduceSub,Int.reduceMul,Int.reduceNeg,Int.reduceNe,reduceCtorEq,Int.reduceToNat,↓reduceIte]; rfl
    | true =>
      simp only [wk,if_true,if_false,forall_const,implies_true,ne_eq,eq_self,Nat.reduceEqDiff,Nat.reduceAdd,Nat.reduceMul,Nat.reduceSub,Nat.reduceLeDiff,Nat.reduceLT,Int.reduceEq,Int.reduceLT,Int.reduceLE,Int.reduceAdd,Int.reduceSub,Int.reduceMul,Int.reduceNeg,Int.reduceNe,reduceCtorEq,Int.reduceToNat,↓reduceIte]
      refine PCalls.use (p_wof [c.signer] (by simp) (by simpa using hg)) ?_; simp only [wk,if_true,if_false,forall_const,implies_true,ne_eq,eq_self,Nat.reduceEqDiff,Nat.reduceAdd,Nat.reduceMul,Nat.reduceSub,Nat.reduceLeDiff,Nat.reduceLT,Int.reduceEq,Int.reduceLT,Int.reduceLE,Int.reduceAdd,Int.reduceSub,Int.reduceMul,Int.reduceNeg,Int.reduceNe,reduceCtorEq,Int.reduceToNat,↓reduceIte]
      rw [atomBytes_one]
      rfl
  · have e : likeOne c w = aloneE c.speaker [2] := by unfold likeOne; rw [if_neg k1, if_neg k2, if_pos k3]
    rw [e]
    refine PCalls.use (qa c.speaker [2] hsz.2 (by simp)) ?_; simp only [wk,if_true,if_false,forall_const,implies_true,ne_eq,eq_self,Nat.reduceEqDiff,Nat.reduceAdd,Nat.reduceMul,Nat.reduceSub,Nat.reduceLeDiff,Nat.reduceLT,Int.reduceEq,Int.reduceLT,Int.reduceLE,Int.reduceAdd,Int.reduceSub,Int.reduceMul,Int.reduceNeg,Int.reduceNe,reduceCtorEq,Int.reduceToNat,↓reduceIte]
  · have e : likeOne c w = (aloneE c.speaker [3] && aloneE w [4]) := by unfold likeOne; rw [if_neg k1, if_neg k2, if_neg k3, if_pos k4]
    rw [e]
    refine PCalls.use (qa c.speaker [3] hsz.2 (by simp)) ?_; simp only [wk,if_true,if_false,forall_const,implies_true,ne_eq,eq_self,Nat.reduceEqDiff,Nat.reduceAdd,Nat.reduceMul,Nat.reduceSub,Nat.reduceLeDiff,Nat.reduceLT,Int.reduceEq,Int.reduceLT,Int.reduceLE,Int.reduceAdd,Int.reduceSub,Int.reduceMul,Int.reduceNeg,Int.reduceNe,reduceCtorEq,Int.reduceToNat,↓reduceIte]
    cases ha : aloneE c.speaker [3] with
    | false => simp only [wk,if_true,if_false,forall_const,implies_true,ne_eq,eq_self,Nat.reduceEqDiff,Nat.reduceAdd,Nat.reduceMul,Nat.reduceSub,Nat.reduceLeDiff,Nat.reduceLT,Int.reduceEq,Int.reduceLT,Int.reduceLE,Int.reduceAdd,Int.reduceSub,Int.reduceMul,Int.reduceNeg,Int.reduceNe,reduceCtorEq,Int.reduceToNat,↓reduceIte]; rfl
    | true =>
      simp only [wk,if_true,if_false,forall_const,implies_true,ne_eq,eq_self,Nat.reduceEqDiff,Nat.reduceAdd,Nat.reduceMul,Nat.reduceSub,Nat.reduceLeDiff,Nat.reduceLT,Int.reduceEq,Int.reduceLT,Int.reduceLE,Int.reduceAdd,Int.reduceSub,Int.reduceMul,Int.reduceNeg,Int.reduceNe,reduceCtorEq,Int.reduceToNat,↓reduceIte]
      refine PCalls.use (qa w [4] hwz (by simp)) ?_; simp only [wk,if_true,if_false,forall_const,implies_true,ne_eq,eq_self,Nat.reduceEqDiff,Nat.reduceAdd,Nat.reduceMul,Nat.reduceSub,Nat.reduceLeDiff,Nat.reduceLT,Int.reduceEq,Int.reduceLT,Int.reduceLE,Int.reduceAdd,Int.reduceSub,Int.reduceMul,Int.reduceNeg,Int.reduceNe,reduceCtorEq,Int.reduceToNat,↓reduceIte]
      rfl
  · have e : likeOne c w = (aloneE c.speaker [1, 2] && (decide (2 ≤ w.size / 2) && hasI [5] (kindAt w (w.size / 2 - 1)))) := by unfold likeOne; rw [if_neg k1, if_neg k2, if_neg k3, if_neg k4, if_pos k5]
    rw [e]
    refine PCalls.use (qa c.speaker [1, 2] hsz.2 (by simp)) ?_; simp only [wk,if_true,if_false,forall_const,implies_true,ne_eq,eq_self,Nat.reduceEqDiff,Nat.reduceAdd,Nat.reduceMul,Nat.reduceSub,Nat.reduceLeDiff,Nat.reduceLT,Int.reduceEq,Int.reduceLT,Int.reduceLE,Int.reduceAdd,Int.reduceSub,Int.reduceMul,Int.reduceNeg,Int.reduceNe,reduceCtorEq,Int.reduceToNat,↓reduceIte]
    cases ha : aloneE c.speaker [1, 2] with
    | false => simp only [wk,if_true,if_false,forall_const,implies_true,ne_eq,eq_self,Nat.reduceEqDiff,Nat.reduceAdd,Nat.reduceMul,Nat.reduceSub,Nat.reduceLeDiff,Nat.reduceLT,Int.reduceEq,Int.reduceLT,Int.reduceLE,Int.reduceAdd,Int.reduceSub,Int.reduceMul,Int.reduceNeg,Int.reduceNe,reduceCtorEq,Int.reduceToNat,↓reduceIte]; rfl
    | true =>
      simp only [wk,if_true,if_false,forall_const,implies_true,ne_eq,eq_self,Nat.reduceEqDiff,Nat.reduceAdd,Nat.reduceMul,Nat.reduceSub,Nat.reduceLeDiff,Nat.reduceLT,Int.reduceEq,Int.reduceLT,Int.reduceLE,Int.reduceAdd,Int.reduceSub,Int.reduceMul,Int.reduceNeg,Int.reduceNe,reduceCtorEq,Int.reduceToNat,↓reduceIte]
      refine ⟨fun h2 => ?_, fun h2 => bool_eq (by rw [decide_eq_false (by omega)]; rfl)⟩
      refine ⟨inR_of (by omega) (by omega), ?_⟩
      rw [show ((w.size / 2 : Nat) : Int) - 1 = ((w.size / 2 - 1 : Nat) : Int) by omega]
      refine PCalls.use (p_wat w (w.size / 2 - 1) (by omega) (by omega)) ?_; simp only [wk,if_true,if_false,forall_const,implies_true,ne_eq,eq_self,Nat.reduceEqDiff,Nat.reduceAdd,Nat.reduceMul,Nat.reduceSub,Nat.reduceLeDiff,Nat.reduceLT,Int.reduceEq,Int.reduceLT,Int.reduceLE,Int.reduceAdd,Int.reduceSub,Int.reduceMul,Int.reduceNeg,Int.reduceNe,reduceCtorEq,Int.reduceToNat,↓reduceIte]
      refine PCalls.use (qo (w.size / 2 - 1) [5] (by simp)) ?_; simp only [wk,if_true,if_false,forall_const,implies_true,ne_eq,eq_self,Nat.reduceEqDiff,Nat.reduceAdd,Nat.reduceMul,Nat.reduceSub,Nat.reduceLeDiff,Nat.reduceLT,Int.reduceEq,Int.reduceLT,Int.reduceLE,Int.reduceAdd,Int.reduceSub,Int.reduceMul,Int.reduceNeg,Int.reduceNe,reduceCtorEq,Int.reduceToNat,↓reduceIte]
      rw [decide_eq_true (show 2 ≤ w.size / 2 by omega)]
      rfl
  · unfold likeOne; rw [if_neg k1, if_neg k2, if_neg k3, if_neg k4, if_neg k5]
end Go.Proofs.Ytlfnepcglnjogaa

/- cert.Check. -/
namespace Go.Proofs.Ytlfnepcglnjogaa
set_option linter.unusedSimpArgs false
set_option linter.unusedVariables false
open Go.RowKit Go.Lib

def checkE (c : Crt) : Int :=
  if c.kind < 1 ∨ 7 < c.kind then 1
  else if hasI [1] ((c.signer / 8192 : Nat) : Int) = true ∧ wordMay c.speaker = true ∧ setMay c.words = true ∧ numL [c.since, c.till, c.serial] = true then
    (if c.till < c.since then 5 else if c.words.any (fun w => decide (w.size / 2 < c.speaker.size / 2)) = true then 4 else if likeE c = true then 0 else 13)
  else 2
def smallC (c : Crt) : Prop := c.signer < 65536 ∧ c.speaker.size ≤ 1000000 ∧ c.words.length ≤ 10000 ∧ ∀ x ∈ c.words, x.size ≤ 1000000
set_option maxRecDepth 100000 in
set_option maxHeartbeats 2000000 in
theorem p_check (c : Crt) (h : smallC c) : PCalls Try.prog 38 [vC c] (.int .i64 (checkE c)) := by
  obtain ⟨hg, hz, hl, hx⟩ := h
  refine pcalls_of (by simp [free.frees, free_vC]) rfl (acalls_of mixed J_cert_Check_ok (Nat.le_of_ble_eq_true rfl) ?_); simp only [J_cert_Check, vC, cC, wk,if_true,if_false,forall_const,implies_true,ne_eq,eq_self,Nat.reduceEqDiff,Nat.reduceAdd,Nat.reduceMul,Nat.reduceSub,Nat.reduceLeDiff,Nat.reduceLT,Int.reduceEq,Int.reduceLT,Int.reduceLE,Int.reduceAdd,Int.reduceSub,Int.reduceMul,Int.reduceNeg,Int.reduceNe,reduceCtorEq,Int.reduceToNat,↓reduceIte]
  have e1 : c.kind < 1 ∨ 7 < c.kind → AV.int .i64 1 = .int .i64 (checkE c) := fun h => int_eq (by unfold checkE; rw [if_pos h])
  have e2 : ¬ (c.kind < 1 ∨ 7 < c.kind) → ¬ (hasI [1] ((c.signer / 8192 : Nat) : Int) = true ∧ wordMay c.speaker = true ∧ setMay c.words = true ∧ numL [c.since, c.till, c.serial] = true) → AV.int .i64 2 = .int .i64 (checkE c) := fun h h' => int_eq (by unfold checkE; rw [if_neg h, if_neg h'])
  refine ⟨fun k1 => ⟨fun k2 => e1 (.inr k2), fun k2 => ?_⟩, fun k1 => e1 (.inl k1)⟩
  have hk : ¬ (c.kind < 1 ∨ 7 < c.kind) := by omega
  refine PCalls.use (p_isOf c.signer [1] hg (by simp)) ?_; simp only [wk,if_true,if_false,forall_const,implies_true,ne_eq,eq_self,Nat.reduceEqDiff,Nat.reduceAdd,Nat.reduceMul,Nat.reduceSub,Nat.reduceLeDiff,Nat.reduceLT,Int.reduceEq,Int.reduceLT,Int.reduceLE,Int.reduceAdd,Int.reduceSub,Int.reduceMul,Int.reduceNeg,Int.reduceNe,reduceCtorEq,Int.reduceToNat,↓reduceIte]
  refine ⟨fun a1 => ?_, fun a1 => e2 hk (fun h => by rw [a1] at h; exact absurd h.1 (by simp))⟩
  refine PCalls.use (p_wmay c.speaker (by omega)) ?_; simp only [wk,if_true,if_false,forall_const,implies_true,ne_eq,eq_self,Nat.reduceEqDiff,Nat.reduceAdd,Nat.reduceMul,Nat.reduceSub,Nat.reduceLeDiff,Nat.reduceLT,Int.reduceEq,Int.reduceLT,Int.reduceLE,Int.reduceAdd,Int.reduceSub,Int.reduceMul,Int.reduceNeg,Int.reduceNe,reduceCtorEq,Int.reduceToNat,↓reduceIte]
  refine ⟨fun a2 => ?_, fun a2 => e2 hk (fun h => by rw [a2] at h; exact absurd h.2.1 (by simp))⟩
  refine PCalls.use (p_smay c.words (by omega) (fun x q => by have := hx x q; omega)) ?_; simp only [wk,if_true,if_false,forall_const,implies_true,ne_eq,eq_self,Nat.reduceEqDiff,Nat.reduceAdd,Nat.reduceMul,Nat.reduceSub,Nat.reduceLeDiff,Nat.reduceLT,Int.reduceEq,Int.reduceLT,Int.reduceLE,Int.reduceAdd,Int.reduceSub,Int.reduceMul,Int.reduceNeg,Int.reduceNe,reduceCtorEq,Int.reduceToNat,↓reduceIte]
  refine ⟨fun a3 => ?_, fun a3 => e2 hk (fun h => by rw [a3] at h; exact absurd h.2.2.1 (by simp))⟩
  refine PCalls.use (p_cnum [c.since, c.till, c.serial] (by simp)) ?_; simp only [wk,if_true,if_false,forall_const,implies_true,ne_eq,eq_self,Nat.reduceEqDiff,Nat.reduceAdd,Nat.reduceMul,Nat.reduceSub,Nat.reduceLeDiff,Nat.reduceLT,Int.reduceEq,Int.reduceLT,Int.reduceLE,Int.reduceAdd,Int.reduceSub,Int.reduceMul,Int.reduceNeg,Int.reduceNe,reduceCtorEq,Int.reduceToNat,↓reduceIte]
  refine ⟨fun a4 => e2 hk (fun h => by rw [a4] at h; exact absurd h.2.2.2 (by simp)), fun a4 => ?_⟩
  have e3 : checkE c = (if c.till < c.since then 5 else if c.words.any (fun w => decide (w.size / 2 < c.speaker.size / 2)) = true then 4 else if likeE c = true then 0 else 13) := by
    unfold checkE; rw [if_neg hk, if_pos ⟨a1, a2, a3, a4⟩]
  refine ⟨fun a5 => int_eq (by rw [e3, if_pos a5]), fun a5 => ?_⟩
  rw [if_neg a5] at e3
  refine W_loop (fun n fr h => ∃ i : Nat, i ≤ c.words.length ∧ n = c.words.length - i ∧ h = [some (false, cC c)] ∧ fr = [(1, .ptr 0 0), (47, .lst .ro c.words.length (c.words.map .str)), (48, .int .i64 c.words.length), (49, .int .i64 i)] ∧ ∀ w ∈ c.words.take i, ¬ w.size / 2 < c.speaker.size / 2) c.words.length ⟨0, by omega, by omega, rfl, rfl, by simp⟩ ?_
  rintro n fr h ⟨i, hi, rfl, rfl, rfl, hall⟩
  simp only [J_cert_Check_j2, cC, wk,if_true,if_false,forall_const,implies_true,ne_eq,eq_self,Nat.reduceEqDiff,Nat.reduceAdd,Nat.reduceMul,Nat.reduceSub,Nat.reduceLeDiff,Nat.reduceLT,Int.reduceEq,Int.reduceLT,Int.reduceLE,Int.reduceAdd,Int.reduceSub,Int.reduceMul,Int.reduceNeg,Int.reduceNe,reduceCtorEq,Int.reduceToNat,↓reduceIte]
  refine ⟨fun hlt => ?_, fun hge => ?_⟩
  · have hil : i < c.words.length := by omega
    have hd : (c.words.map AV.str).drop (i : Int).toNat = .str c.words[i] :: (c.words.map AV.str).drop (i + 1) := by rw [show (i : Int).toNat = i by omega, drop_str hil]
    have z := hx _ (List.getElem_mem hil)
    refine ⟨⟨by omega, by omega⟩, ?_⟩
    simp only [hd, wk,if_true,if_false,forall_const,implies_true,ne_eq,eq_self,Nat.reduceEqDiff,Nat.reduceAdd,Nat.reduceMul,Nat.reduceSub,Nat.reduceLeDiff,Nat.reduceLT,Int.reduceEq,Int.reduceLT,Int.reduceLE,Int.reduceAdd,Int.reduceSub,Int.reduceMul,Int.reduceNeg,Int.reduceNe,reduceCtorEq,Int.reduceToNat,↓reduceIte]
    refine PCalls.use (p_wlen c.speaker (by omega)) ?_; simp only [wk,if_true,if_false,forall_const,implies_true,ne_eq,eq_self,Nat.reduceEqDiff,Nat.reduceAdd,Nat.reduceMul,Nat.reduceSub,Nat.reduceLeDiff,Nat.reduceLT,Int.reduceEq,Int.reduceLT,Int.reduceLE,Int.reduceAdd,Int.reduceSub,Int.reduceMul,Int.reduceNeg,Int.reduceNe,reduceCtorEq,Int.reduceToNat,↓reduceIte]
    refine PCalls.use (p_wlen c.words[i] (by omega)) ?_; simp only [wk,if_true,if_false,forall_const,implies_true,ne_eq,eq_self,Nat.reduceEqDiff,Nat.reduceAdd,Nat.reduceMul,Nat.reduceSub,Nat.reduceLeDiff,Nat.reduceLT,Int.reduceEq,Int.reduceLT,Int.reduceLE,Int.reduceAdd,Int.reduceSub,Int.reduceMul,Int.reduceNeg,Int.reduceNe,reduceCtorEq,Int.reduceToNat,↓reduceIte]
    refine ⟨fun h4 => int_eq ?_, fun h4 => ⟨inR_of (by omega) (by omega), c.words.length - (i + 1), by omega, i + 1, by omega, rfl, rfl, fun w hw => ?_⟩⟩
    · rw [e3, if_pos]
      rw [List.any_eq_true]
      exact ⟨_, List.getElem_mem hil, by simp; omega⟩
    · rcases (take_mem_succ hil).1 hw with h | h
      · exact hall w h
      · subst h; omega
  · rw [List.take_of_length_le (by omega)] at hall
    have e4 : ¬ (c.words.any (fun w => decide (w.size / 2 < c.speaker.size / 2)) = true) := by
      rw [List.any_eq_true]
      rintro ⟨w, hw, h1⟩
      simp only [decide_eq_true_eq] at h1
      exact hall w hw h1
    rw [if_neg e4] at e3
    simp only [J_cert_Check_j1, wk,if_true,if_false,forall_const,implies_true,ne_eq,eq_self,Nat.reduceEqDiff,Nat.reduceAdd,Nat.reduceMul,Nat.reduceSub,Nat.reduceLeDiff,Nat.reduceLT,Int.reduceEq,Int.reduceLT,Int.reduceLE,Int.reduceAdd,Int.reduceSub,Int.reduceMul,Int.reduceNeg,Int.reduceNe,reduceCtorEq,Int.reduceToNat,↓reduceIte]
    have hp := p_like c a2 a3 hg
    unfold vC cC at hp
    refine PCalls.use (hp) ?_; simp only [wk,if_true,if_false,forall_const,implies_true,ne_eq,eq_self,Nat.reduceEqDiff,Nat.reduceAdd,Nat.reduceMul,Nat.reduceSub,Nat.reduceLeDiff,Nat.reduceLT,Int.reduceEq,Int.reduceLT,Int.reduceLE,Int.reduceAdd,Int.reduceSub,Int.reduceMul,Int.reduceNeg,Int.reduceNe,reduceCtorEq,Int.reduceToNat,↓reduceIte]
    refine ⟨fun h0 => int_eq ?_, fun h0 => int_eq ?_⟩
    · rw [e3, if_neg (by rw [h0]; simp)]
    · rw [e3, if_pos h0]
end Go.Proofs.Ytlfnepcglnjogaa

/- The reference's like. -/
namespace Go.Proofs.Ytlfnepcglnjogaa
set_option linter.unusedSimpArgs false
set_option linter.unusedVariables false
open Go.RowKit Go.Lib

theorem word_one {w : ByteArray} (h : w.size = 2) : w = atomW (atomAt w 0) := by
  have := atomBytes_atoms (s := w) (by omega)
  rw [show atomNs w = [atomAt w 0] by unfold atomNs; rw [h]; rfl] at this
  rw [← atomBytes_one]
  apply ByteArray.ext
  apply Array.ext'
  simpa using this.symm
theorem atom_back {a : Nat} (h : a < 65536) : atomAt (atomW a) 0 = a := by
  have e : atomAt (atomW a) 0 = (UInt8.ofNat (a / 256)).toNat * 256 + (UInt8.ofNat (a % 256)).toNat := rfl
  rw [e]
  simp
  omega
theorem one_is {w : ByteArray} {a : Nat} (h : w.size = 2) (ha : a < 65536) : (atomAt w 0 = a) ↔ w = atomW a := by
  constructor
  · intro e; rw [← e]; exact word_one h
  · intro e; rw [e]; exact atom_back ha
theorem told_eq {s : ByteArray} (h : s.size % 2 = 0) (h2 : 2 ≤ s.size) : (⟨(atomBytes (1 :: (atomNs s).drop 1)).toArray⟩ : ByteArray) = toldW s := by
  have hb := atomBytes_atoms h
  cases hn : atomNs s with
  | nil => have := atomNs_len s; rw [hn] at this; simp at this; omega
  | cons a r =>
    rw [hn] at hb
    have e1 : atomBytes (a :: r) = [UInt8.ofNat (a / 256), UInt8.ofNat (a % 256)] ++ atomBytes r := by simp [atomBytes]
    rw [e1] at hb
    have e2 : atomBytes r = s.data.toList.drop 2 := by rw [← hb]; rfl
    have e3 : atomBytes (1 :: r) = [UInt8.ofNat (1 / 256), UInt8.ofNat (1 % 256)] ++ atomBytes r := by simp [atomBytes]
    apply ByteArray.ext
    apply Array.ext'
    unfold toldW
    simp only [List.drop_succ_cons, List.drop_zero, e3, e2, ByteArray.data_append, Array.toList_append, ByteArray.data_extract, Array.toList_extract]
    rw [List.extract_eq_take_drop, List.take_of_length_le (by rw [List.length_drop]; exact Nat.le_refl _)]
    rfl
theorem deleg_eq {c : Crt} (hm : wordMay c.speaker = true) (hs : setMay c.words = true) (h2 : 2 ≤ c.speaker.size / 2) : delegE c = decide (c.words = nrm [c.speaker, toldW c.speaker]) := by
  unfold delegE
  rw [decide_eq_true h2, Bool.true_and]
  by_cases e : c.words = nrm [c.speaker, toldW c.speaker]
  · have hall : ∀ x ∈ [c.speaker, toldW c.speaker], wordMay x = true := fun x hx => (setMay_words hs).2 x (by rw [e]; exact mem_nrm.2 hx)
    have hl := (setMay_words hs).1
    rw [e] at hl
    have ho : ofE [c.speaker, toldW c.speaker] = (nrm [c.speaker, toldW c.speaker], 0) := by
      rw [ofE_may hall]; unfold boundE; rw [if_pos hl]
    rw [ho, decide_eq_true e, ← e, decide_eq_true rfl, withinE_iff.2 (fun w hw => hw)]; rfl
  · rw [decide_eq_false e]
    by_cases h0 : (ofE [c.speaker, toldW c.speaker]).2 = 0
    · rw [decide_eq_true h0, Bool.true_and, ofE_ok h0]
      cases hw : (withinE c.words (nrm [c.speaker, toldW c.speaker]) && withinE (nrm [c.speaker, toldW c.speaker]) c.words) with
      | false => rfl
      | true =>
        rw [Bool.and_eq_true, withinE_iff, withinE_iff] at hw
        exact absurd (rising_ext (setMay_rising hs) (rising_nrm _) fun x => ⟨hw.1 x, hw.2 x⟩) e
    · rw [decide_eq_false h0]; rfl
theorem hasI_one {k x : Int} : hasI [k] x = decide (x = k) := by simp [hasI]
theorem alone_single {s : ByteArray} {k : Int} (hk : 0 ≤ k) : aloneE s [k] = decide (singleE s = k) := by
  unfold aloneE singleE kindAt
  rw [hasI_one]
  by_cases h : s.size / 2 = 1
  · rw [if_pos h, decide_eq_true h]; rfl
  · rw [if_neg h, decide_eq_false h, Bool.false_and, decide_eq_false (by omega)]
theorem like_many {c : Crt} {w x : ByteArray} {l : List ByteArray} (h : c.words = w :: x :: l) (h6 : c.kind ≠ 6) (h7 : c.kind ≠ 7) : likeE c = false := by
  unfold likeE
  rw [if_neg h6, if_neg h7, h]
set_option maxRecDepth 100000 in
set_option maxHeartbeats 2000000 in
theorem p_rlike (c : Crt) (hm : wordMay c.speaker = true) (hs : setMay c.words = true) (hg : c.signer < 65536) (hk : 1 ≤ c.kind ∧ c.kind ≤ 7) : PCalls Try.prog 60 [vC c] (.bool (likeE c)) := by
  have hsz := wordMay_even hm
  have hsm := setMay_small hs
  have hne := setMay_ne hs
  obtain ⟨w, l, hw⟩ : ∃ w l, c.words = w :: l := by
    cases e : c.words with
    | nil => exact absurd e hne
    | cons w l => exact ⟨w, l, rfl⟩
  have hmw := (setMay_words hs).2 w (by rw [hw]; simp)
  have hwz := wordMay_size hmw
  refine pcalls_of (by simp [free.frees, free_vC]) rfl (acalls_of mixed J_ref08_like_ok (Nat.le_of_ble_eq_true rfl) ?_); simp only [J_ref08_like, vC, cC, hw, List.map_cons, List.length_cons, wk,if_true,if_false,forall_const,implies_true,ne_eq,eq_self,Nat.reduceEqDiff,Nat.reduceAdd,Nat.reduceMul,Nat.reduceSub,Nat.reduceLeDiff,Nat.reduceLT,Int.reduceEq,Int.reduceLT,Int.reduceLE,Int.reduceAdd,Int.reduceSub,Int.reduceMul,Int.reduceNeg,Int.reduceNe,reduceCtorEq,Int.reduceToNat,↓reduceIte]
  refine ⟨by omega, ?_⟩
  refine PCalls.use (p_ratoms w (by omega)) ?_; simp only [wk,if_true,if_false,forall_const,implies_true,ne_eq,eq_self,Nat.reduceEqDiff,Nat.reduceAdd,Nat.reduceMul,Nat.reduceSub,Nat.reduceLeDiff,Nat.reduceLT,Int.reduceEq,Int.reduceLT,Int.reduceLE,Int.reduceAdd,Int.reduceSub,Int.reduceMul,Int.reduceNeg,Int.reduceNe,reduceCtorEq,Int.reduceToNat,↓reduceIte]
  refine ⟨inR_of (by omega) (by omega), ⟨by omega, by omega⟩, ?_⟩
  have hd : (atomsL w (w.size / 2)).drop (((w.size / 2 : Nat) : Int) - 1).toNat = .int .u16 (atomAt w (w.size / 2 - 1)) :: (atomsL w (w.size / 2)).drop (w.size / 2 - 1 + 1) := by
    rw [show (((w.size / 2 : Nat) : Int) - 1).toNat = w.size / 2 - 1 by omega, atomsL_drop (by omega)]
  simp only [hd, wk,if_true,if_false,forall_const,implies_true,ne_eq,eq_self,Nat.reduceEqDiff,Nat.reduceAdd,Nat.reduceMul,Nat.reduceSub,Nat.reduceLeDiff,Nat.reduceLT,Int.reduceEq,Int.reduceLT,Int.reduceLE,Int.reduceAdd,Int.reduceSub,Int.reduceMul,Int.reduceNeg,Int.reduceNe,reduceCtorEq,Int.reduceToNat,↓reduceIte]
  refine PCalls.use (p_kind (atomAt w (w.size / 2 - 1)) (atomAt_lt _ _)) ?_; simp only [wk,if_true,if_false,forall_const,implies_true,ne_eq,eq_self,Nat.reduceEqDiff,Nat.reduceAdd,Nat.reduceMul,Nat.reduceSub,Nat.reduceLeDiff,Nat.reduceLT,Int.reduceEq,Int.reduceLT,Int.reduceLE,Int.reduceAdd,Int.reduceSub,Int.reduceMul,Int.reduceNeg,Int.reduceNe,reduceCtorEq,Int.reduceToNat,↓reduceIte]
  refine PCalls.use (p_single c.speaker (by omega)) ?_; simp only [wk,if_true,if_false,forall_const,implies_true,ne_eq,eq_self,Nat.reduceEqDiff,Nat.reduceAdd,Nat.reduceMul,Nat.reduceSub,Nat.reduceLeDiff,Nat.reduceLT,Int.reduceEq,Int.reduceLT,Int.reduceLE,Int.reduceAdd,Int.reduceSub,Int.reduceMul,Int.reduceNeg,Int.reduceNe,reduceCtorEq,Int.reduceToNat,↓reduceIte]
  have hmany : ¬ ((l.length + 1 : Nat) : Int) = 1 → c.kind ≠ 6 → c.kind ≠ 7 → AV.bool false = .bool (likeE c) := by
    intro h h6 h7
    cases l with
    | nil => exact absurd rfl h
    | cons x l => exact bool_eq (like_many hw h6 h7).symm
  have hone : ((l.length + 1 : Nat) : Int) = 1 → c.kind ≠ 6 → c.kind ≠ 7 → likeE c = likeOne c w := by
    intro h h6 h7
    cases l with
    | nil => unfold likeE; rw [if_neg h6, if_neg h7, hw]
    | cons x l => simp at h; omega
  refine ⟨fun k1 => ⟨fun h1 => ?_, fun h1 => hmany h1 (by omega) (by omega)⟩, fun k1 => ⟨fun k2 => ⟨fun h1 => ?_, fun h1 => hmany h1 (by omega) (by omega)⟩, fun k2 => ⟨fun k3 => ⟨fun h1 => ?_, fun h1 => hmany h1 (by omega) (by omega)⟩, fun k3 => ⟨fun k4 => ⟨fun h1 => ?_, fun h1 => hmany h1 (by omega) (by omega)⟩, fun k4 => ⟨fun k5 => ⟨fun h1 => ?_, fun h1 => hmany h1 (by omega) (by omega)⟩, fun k5 => ⟨fun k7 => ?_, fun k7 => ?_⟩⟩⟩⟩⟩⟩
  · rw [hone h1 (by omega) (by omega)]
    have e : likeOne c w = (decide (singleE c.speaker = 1) && (decide (w.size / 2 = 2) && (decide (kindAt w 0 = 3) && decide (kindAt w 1 = 5)))) := by unfold likeOne; rw [if_pos k1, alone_single (by omega), hasI_one, hasI_one]
    rw [e]
    refine ⟨fun q1 => ⟨fun q2 => ⟨by omega, ?_⟩, fun q2 => bool_eq ?_⟩, fun q1 => bool_eq ?_⟩
    · have h2 : w.size / 2 = 2 := by omega
      rw [h2, show atomsL w 2 = [.int .u16 (atomAt w 0), .int .u16 (atomAt w 1)] from rfl]
      simp only [wk,if_true,if_false,forall_const,implies_true,ne_eq,eq_self,Nat.reduceEqDiff,Nat.reduceAdd,Nat.reduceMul,Nat.reduceSub,Nat.reduceLeDiff,Nat.reduceLT,Int.reduceEq,Int.reduceLT,Int.reduceLE,Int.reduceAdd,Int.reduceSub,Int.reduceMul,Int.reduceNeg,Int.reduceNe,reduceCtorEq,Int.reduceToNat,↓reduceIte]
      refine PCalls.use (p_kind (atomAt w 0) (atomAt_lt _ _)) ?_; simp only [wk,if_true,if_false,forall_const,implies_true,ne_eq,eq_self,Nat.reduceEqDiff,Nat.reduceAdd,Nat.reduceMul,Nat.reduceSub,Nat.reduceLeDiff,Nat.reduceLT,Int.reduceEq,Int.reduceLT,Int.reduceLE,Int.reduceAdd,Int.reduceSub,Int.reduceMul,Int.reduceNeg,Int.reduceNe,reduceCtorEq,Int.reduceToNat,↓reduceIte]
      rw [decide_eq_true q1]
      refine ⟨fun q3 => bool_eq ?_, fun q3 => bool_eq ?_⟩
      · rw [decide_eq_true (show kindAt w 0 = 3 from q3)]; rfl
      · rw [decide_eq_false (show ¬ kindAt w 0 = 3 from q3)]; rfl
    · rw [decide_eq_false (show ¬ w.size / 2 = 2 by omega)]; simp
    · rw [decide_eq_false q1]; rfl
  · rw [hone h1 (by omega) (by omega)]
    have e : likeOne c w = (decide (singleE c.speaker = 1) && decide (w = atomW c.signer)) := by unfold likeOne; rw [if_neg k1, if_pos k2, alone_single (by omega)]
    rw [e]
    refine ⟨fun q1 => ⟨fun q2 => ⟨by omega, ?_⟩, fun q2 => bool_eq ?_⟩, fun q1 => bool_eq ?_⟩
    · have h2 : w.size / 2 = 1 := by omega
      rw [h2, show atomsL w 1 = [.int .u16 (atomAt w 0)] from rfl]
      simp only [wk,if_true,if_false,forall_const,implies_true,ne_eq,eq_self,Nat.reduceEqDiff,Nat.reduceAdd,Nat.reduceMul,Nat.reduceSub,Nat.reduceLeDiff,Nat.reduceLT,Int.reduceEq,Int.reduceLT,Int.reduceLE,Int.reduceAdd,Int.reduceSub,Int.reduceMul,Int.reduceNeg,Int.reduceNe,reduceCtorEq,Int.reduceToNat,↓reduceIte]
      rw [decide_eq_true q1, Bool.true_and]
      refine bool_eq (decide_eq_decide.2 ?_)
      rw [← one_is (by omega) hg]
      omega
    · rw [decide_eq_false (show ¬ w = atomW c.signer from fun h => q2 (by rw [h]; have : (atomW c.signer).size = 2 := rfl; omega)), Bool.and_false]
    · rw [decide_eq_false q1]; rfl
  · rw [hone h1 (by omega) (by omega)]
    unfold likeOne
    rw [if_neg k1, if_neg k2, if_pos k3, alone_single (by omega)]
  · rw [hone h1 (by omega) (by omega)]
    have e : likeOne c w = (decide (singleE c.speaker = 3) && aloneE w [4]) := by unfold likeOne; rw [if_neg k1, if_neg k2, if_neg k3, if_pos k4, alone_single (by omega)]
    rw [e]
    refine ⟨fun q1 => ⟨fun q2 => bool_eq ?_, fun q2 => bool_eq ?_⟩, fun q1 => bool_eq ?_⟩
    · have h2 : w.size / 2 = 1 := by omega
      rw [decide_eq_true q1]; unfold aloneE kindAt; rw [hasI_one, decide_eq_true h2, h2]; rfl
    · unfold aloneE; rw [decide_eq_false (show ¬ w.size / 2 = 1 by omega)]; simp
    · rw [decide_eq_false q1]; rfl
  · rw [hone h1 (by omega) (by omega)]
    have e : likeOne c w = ((decide (singleE c.speaker = 1) || decide (singleE c.speaker = 2)) && (decide (2 ≤ w.size / 2) && decide (kindAt w (w.size / 2 - 1) = 5))) := by
      unfold likeOne
      rw [if_neg k1, if_neg k2, if_neg k3, if_neg k4, if_pos k5, hasI_one, ← alone_single (k := 1) (by omega), ← alone_single (k := 2) (by omega)]
      congr 1
      unfold aloneE
      rw [hasI_one, hasI_one, ← Bool.and_or_distrib_left]
      congr 1
      simp [hasI]
    rw [e]
    refine ⟨fun q1 => ⟨fun q2 => ⟨fun q3 => bool_eq ?_, fun q3 => bool_eq ?_⟩, fun q2 => bool_eq ?_⟩, fun q1 => ⟨fun q3 => bool_eq ?_, fun q3 => bool_eq ?_⟩⟩
    · rw [decide_eq_true q2, decide_eq_true (show 2 ≤ w.size / 2 by omega), Bool.or_true]; rfl
    · rw [decide_eq_false (show ¬ 2 ≤ w.size / 2 by omega)]; simp
    · rw [decide_eq_false q1, decide_eq_false q2]; rfl
    · rw [decide_eq_true q1, decide_eq_true (show 2 ≤ w.size / 2 by omega), Bool.true_or]; rfl
    · rw [decide_eq_false (show ¬ 2 ≤ w.size / 2 by omega)]; simp
  · have hE : likeE c = delegE c := by unfold likeE; rw [if_neg (by omega), if_pos k7]
    rw [hE]
    refine PCalls.use (p_ratoms c.speaker (by omega)) ?_; simp only [wk,if_true,if_false,forall_const,implies_true,ne_eq,eq_self,Nat.reduceEqDiff,Nat.reduceAdd,Nat.reduceMul,Nat.reduceSub,Nat.reduceLeDiff,Nat.reduceLT,Int.reduceEq,Int.reduceLT,Int.reduceLE,Int.reduceAdd,Int.reduceSub,Int.reduceMul,Int.reduceNeg,Int.reduceNe,reduceCtorEq,Int.reduceToNat,↓reduceIte]
    refine ⟨fun h2 => bool_eq (by unfold delegE; rw [decide_eq_false (by omega)]; rfl), fun h2 => ?_⟩
    have hn : ((c.speaker.size / 2 : Nat) : Int).toNat = c.speaker.size / 2 := by omega
    rw [hn]
    have hta : List.take (c.speaker.size / 2 - 1) (List.drop 1 (atomsL c.speaker (c.speaker.size / 2))) = u16s ((atomNs c.speaker).drop 1) := by
      rw [List.take_of_length_le (by rw [List.length_drop, atomsL_len]; exact Nat.le_refl _)]
      unfold atomsL u16s atomNs
      simp only [List.map_drop, List.map_map]
      rfl
    have hlr : ((atomNs c.speaker).drop 1).length = c.speaker.size / 2 - 1 := by rw [List.length_drop, atomNs_len]
    have hof := p_rof (1 :: (atomNs c.speaker).drop 1) (by rw [List.length_cons, hlr]; omega) (by
      intro a ha
      rcases List.mem_cons.1 ha with rfl | ha
      · omega
      · exact atomNs_lt _ a (List.mem_of_mem_drop ha))
    rw [List.length_cons, hlr] at hof
    rw [hta, Nat.add_comm 1]
    refine ⟨⟨by omega, by omega, atomsL_len _ _⟩, ⟨by unfold u16s; rw [List.length_map, hlr], by omega, by omega⟩, _, hof, ⟨rfl, rfl⟩, ?_⟩
    rw [told_eq hsz.1 (by omega)]
    have hts := told_size (w := c.speaker) (by omega)
    have hr := p_rright [c.speaker, toldW c.speaker] (by simp) (by intro x hx; simp at hx; rcases hx with rfl | rfl <;> omega)
    have hq := p_requal c.words (nrm [c.speaker, toldW c.speaker]) (by omega)
    rw [deleg_eq hm hs (by omega)]
    rw [hw] at hq ⊢
    exact ⟨_, hr, _, hq, rfl⟩
  · exact bool_eq (by unfold likeE; rw [if_pos (by omega)])
end Go.Proofs.Ytlfnepcglnjogaa

/- The reference's Check. -/
namespace Go.Proofs.Ytlfnepcglnjogaa
set_option linter.unusedSimpArgs false
set_option linter.unusedVariables false
open Go.RowKit Go.Lib

set_option maxRecDepth 100000 in
set_option maxHeartbeats 2000000 in
theorem p_rcheck (c : Crt) (h : smallC c) : PCalls Try.prog 41 [vC c] (.int .i64 (checkE c)) := by
  obtain ⟨hg, hz, hl, hx⟩ := h
  refine pcalls_of (by simp [free.frees, free_vC]) rfl (acalls_of mixed J_ref08_Check_ok (Nat.le_of_ble_eq_true rfl) ?_); simp only [J_ref08_Check, vC, cC, wk,if_true,if_false,forall_const,implies_true,ne_eq,eq_self,Nat.reduceEqDiff,Nat.reduceAdd,Nat.reduceMul,Nat.reduceSub,Nat.reduceLeDiff,Nat.reduceLT,Int.reduceEq,Int.reduceLT,Int.reduceLE,Int.reduceAdd,Int.reduceSub,Int.reduceMul,Int.reduceNeg,Int.reduceNe,reduceCtorEq,Int.reduceToNat,↓reduceIte]
  have e1 : c.kind < 1 ∨ 7 < c.kind → AV.int .i64 1 = .int .i64 (checkE c) := fun h => int_eq (by unfold checkE; rw [if_pos h])
  have e2 : ¬ (c.kind < 1 ∨ 7 < c.kind) → ¬ (hasI [1] ((c.signer / 8192 : Nat) : Int) = true ∧ wordMay c.speaker = true ∧ setMay c.words = true ∧ numL [c.since, c.till, c.serial] = true) → AV.int .i64 2 = .int .i64 (checkE c) := fun h h' => int_eq (by unfold checkE; rw [if_neg h, if_neg h'])
  refine ⟨fun k1 => ⟨fun k2 => e1 (.inr k2), fun k2 => ?_⟩, fun k1 => e1 (.inl k1)⟩
  have hk : ¬ (c.kind < 1 ∨ 7 < c.kind) := by omega
  refine PCalls.use (p_kind c.signer hg) ?_; simp only [wk,if_true,if_false,forall_const,implies_true,ne_eq,eq_self,Nat.reduceEqDiff,Nat.reduceAdd,Nat.reduceMul,Nat.reduceSub,Nat.reduceLeDiff,Nat.reduceLT,Int.reduceEq,Int.reduceLT,Int.reduceLE,Int.reduceAdd,Int.reduceSub,Int.reduceMul,Int.reduceNeg,Int.reduceNe,reduceCtorEq,Int.reduceToNat,↓reduceIte]
  refine ⟨fun a1 => ?_, fun a1 => e2 hk (fun h => a1 (by have := h.1; rw [hasI_one, decide_eq_true_eq] at this; exact this))⟩
  have b1 : hasI [1] ((c.signer / 8192 : Nat) : Int) = true := by rw [hasI_one, decide_eq_true a1]
  refine PCalls.use (p_rwmay c.speaker (by omega)) ?_; simp only [wk,if_true,if_false,forall_const,implies_true,ne_eq,eq_self,Nat.reduceEqDiff,Nat.reduceAdd,Nat.reduceMul,Nat.reduceSub,Nat.reduceLeDiff,Nat.reduceLT,Int.reduceEq,Int.reduceLT,Int.reduceLE,Int.reduceAdd,Int.reduceSub,Int.reduceMul,Int.reduceNeg,Int.reduceNe,reduceCtorEq,Int.reduceToNat,↓reduceIte]
  refine ⟨fun a2 => ?_, fun a2 => e2 hk (fun h => by rw [a2] at h; exact absurd h.2.1 (by simp))⟩
  refine PCalls.use (p_rsmay c.words (by omega) (fun x q => by have := hx x q; omega)) ?_; simp only [wk,if_true,if_false,forall_const,implies_true,ne_eq,eq_self,Nat.reduceEqDiff,Nat.reduceAdd,Nat.reduceMul,Nat.reduceSub,Nat.reduceLeDiff,Nat.reduceLT,Int.reduceEq,Int.reduceLT,Int.reduceLE,Int.reduceAdd,Int.reduceSub,Int.reduceMul,Int.reduceNeg,Int.reduceNe,reduceCtorEq,Int.reduceToNat,↓reduceIte]
  refine ⟨fun a3 => ?_, fun a3 => e2 hk (fun h => by rw [a3] at h; exact absurd h.2.2.1 (by simp))⟩
  have hnum : numL [c.since, c.till, c.serial] = (decide (0 ≤ c.since ∧ c.since ≤ 4611686018427387904) && (decide (0 ≤ c.till ∧ c.till ≤ 4611686018427387904) && decide (0 ≤ c.serial ∧ c.serial ≤ 4611686018427387904))) := by simp [numL, Bool.decide_and]
  refine PCalls.use (p_rcnum c.since) ?_; simp only [wk,if_true,if_false,forall_const,implies_true,ne_eq,eq_self,Nat.reduceEqDiff,Nat.reduceAdd,Nat.reduceMul,Nat.reduceSub,Nat.reduceLeDiff,Nat.reduceLT,Int.reduceEq,Int.reduceLT,Int.reduceLE,Int.reduceAdd,Int.reduceSub,Int.reduceMul,Int.reduceNeg,Int.reduceNe,reduceCtorEq,Int.reduceToNat,↓reduceIte]
  refine ⟨fun b2 => ?_, fun b2 => e2 hk (fun h => by have := h.2.2.2; rw [hnum, decide_eq_false b2] at this; cases this)⟩
  refine PCalls.use (p_rcnum c.till) ?_; simp only [wk,if_true,if_false,forall_const,implies_true,ne_eq,eq_self,Nat.reduceEqDiff,Nat.reduceAdd,Nat.reduceMul,Nat.reduceSub,Nat.reduceLeDiff,Nat.reduceLT,Int.reduceEq,Int.reduceLT,Int.reduceLE,Int.reduceAdd,Int.reduceSub,Int.reduceMul,Int.reduceNeg,Int.reduceNe,reduceCtorEq,Int.reduceToNat,↓reduceIte]
  refine ⟨fun b3 => ?_, fun b3 => e2 hk (fun h => by have := h.2.2.2; rw [hnum, decide_eq_false b3, Bool.false_and, Bool.and_false] at this; cases this)⟩
  refine PCalls.use (p_rcnum c.serial) ?_; simp only [wk,if_true,if_false,forall_const,implies_true,ne_eq,eq_self,Nat.reduceEqDiff,Nat.reduceAdd,Nat.reduceMul,Nat.reduceSub,Nat.reduceLeDiff,Nat.reduceLT,Int.reduceEq,Int.reduceLT,Int.reduceLE,Int.reduceAdd,Int.reduceSub,Int.reduceMul,Int.reduceNeg,Int.reduceNe,reduceCtorEq,Int.reduceToNat,↓reduceIte]
  refine ⟨fun b4 => e2 hk (fun h => by have := h.2.2.2; rw [hnum, decide_eq_false b4, Bool.and_false, Bool.and_false] at this; cases this), fun b4 => ?_⟩
  have a4 : numL [c.since, c.till, c.serial] = true := by rw [hnum, decide_eq_true b2, decide_eq_true b3, decide_eq_true b4]; rfl
  have e3 : checkE c = (if c.till < c.since then 5 else if c.words.any (fun w => decide (w.size / 2 < c.speaker.size / 2)) = true then 4 else if likeE c = true then 0 else 13) := by
    unfold checkE; rw [if_neg hk, if_pos ⟨b1, a2, a3, a4⟩]
  refine ⟨fun a5 => int_eq (by rw [e3, if_pos a5]), fun a5 => ?_⟩
  rw [if_neg a5] at e3
  have hsz := wordMay_even a2
  refine W_loop (fun n fr h => ∃ i : Nat, i ≤ c.words.length ∧ n = c.words.length - i ∧ h = [some (false, cC c)] ∧ fr = [(1, .ptr 0 0), (3, .int .i64 i)] ∧ ∀ w ∈ c.words.take i, ¬ w.size / 2 < c.speaker.size / 2) c.words.length ⟨0, by omega, by omega, rfl, rfl, by simp⟩ ?_
  rintro n fr h ⟨i, hi, rfl, rfl, rfl, hall⟩
  simp only [J_ref08_Check_j2, cC, wk,if_true,if_false,forall_const,implies_true,ne_eq,eq_self,Nat.reduceEqDiff,Nat.reduceAdd,Nat.reduceMul,Nat.reduceSub,Nat.reduceLeDiff,Nat.reduceLT,Int.reduceEq,Int.reduceLT,Int.reduceLE,Int.reduceAdd,Int.reduceSub,Int.reduceMul,Int.reduceNeg,Int.reduceNe,reduceCtorEq,Int.reduceToNat,↓reduceIte]
  refine ⟨fun hlt => ?_, fun hge => ?_⟩
  · have hil : i < c.words.length := by omega
    have hd : (c.words.map AV.str).drop (i : Int).toNat = .str c.words[i] :: (c.words.map AV.str).drop (i + 1) := by rw [show (i : Int).toNat = i by omega, drop_str hil]
    have z := wordMay_even ((setMay_words a3).2 _ (List.getElem_mem hil))
    refine ⟨⟨by omega, by omega⟩, ?_⟩
    simp only [hd, wk,if_true,if_false,forall_const,implies_true,ne_eq,eq_self,Nat.reduceEqDiff,Nat.reduceAdd,Nat.reduceMul,Nat.reduceSub,Nat.reduceLeDiff,Nat.reduceLT,Int.reduceEq,Int.reduceLT,Int.reduceLE,Int.reduceAdd,Int.reduceSub,Int.reduceMul,Int.reduceNeg,Int.reduceNe,reduceCtorEq,Int.reduceToNat,↓reduceIte]
    refine ⟨fun h4 => int_eq ?_, fun h4 => ⟨inR_of (by omega) (by omega), c.words.length - (i + 1), by omega, i + 1, by omega, rfl, rfl, fun w hw => ?_⟩⟩
    · rw [e3, if_pos]
      rw [List.any_eq_true]
      exact ⟨_, List.getElem_mem hil, by simp; omega⟩
    · rcases (take_mem_succ hil).1 hw with h | h
      · exact hall w h
      · subst h; omega
  · rw [List.take_of_length_le (by omega)] at hall
    have e4 : ¬ (c.words.any (fun w => decide (w.size / 2 < c.speaker.size / 2)) = true) := by
      rw [List.any_eq_true]
      rintro ⟨w, hw, h1⟩
      simp only [decide_eq_true_eq] at h1
      exact hall w hw h1
    rw [if_neg e4] at e3
    simp only [J_ref08_Check_j1, wk,if_true,if_false,forall_const,implies_true,ne_eq,eq_self,Nat.reduceEqDiff,Nat.reduceAdd,Nat.reduceMul,Nat.reduceSub,Nat.reduceLeDiff,Nat.reduceLT,Int.reduceEq,Int.reduceLT,Int.reduceLE,Int.reduceAdd,Int.reduceSub,Int.reduceMul,Int.reduceNeg,Int.reduceNe,reduceCtorEq,Int.reduceToNat,↓reduceIte]
    have hp := p_rlike c a2 a3 hg ⟨by omega, by omega⟩
    unfold vC cC at hp
    refine PCalls.use (hp) ?_; simp only [wk,if_true,if_false,forall_const,implies_true,ne_eq,eq_self,Nat.reduceEqDiff,Nat.reduceAdd,Nat.reduceMul,Nat.reduceSub,Nat.reduceLeDiff,Nat.reduceLT,Int.reduceEq,Int.reduceLT,Int.reduceLE,Int.reduceAdd,Int.reduceSub,Int.reduceMul,Int.reduceNeg,Int.reduceNe,reduceCtorEq,Int.reduceToNat,↓reduceIte]
    refine ⟨fun h0 => int_eq ?_, fun h0 => int_eq ?_⟩
    · rw [e3, if_neg (by rw [h0]; simp)]
    · rw [e3, if_pos h0]
end Go.Proofs.Ytlfnepcglnjogaa

/- Encode of certificates, over the abstract code. -/
namespace Go.Proofs.Ytlfnepcglnjogaa
set_option linter.unusedSimpArgs false
set_option linter.unusedVariables false
open Go.RowKit Go.Lib

structure Good (c : Crt) : Prop where
  kind : 1 ≤ c.kind ∧ c.kind ≤ 7
  signer : c.signer / 8192 = 1
  speaker : wordMay c.speaker = true
  words : setMay c.words = true
  since : 0 ≤ c.since ∧ c.since ≤ 4611686018427387904
  till : 0 ≤ c.till ∧ c.till ≤ 4611686018427387904
  serial : 0 ≤ c.serial ∧ c.serial ≤ 4611686018427387904
  order : c.since ≤ c.till
  short : ∀ w ∈ c.words, c.speaker.size / 2 ≤ w.size / 2
  like : likeE c = true
theorem good_of {c : Crt} (h : checkE c = 0) : Good c := by
  unfold checkE at h
  split at h
  · simp at h
  · next h1 =>
    split at h
    · next h2 =>
      obtain ⟨a1, a2, a3, a4⟩ := h2
      split at h
      · simp at h
      · next h3 =>
        split at h
        · simp at h
        · next h4 =>
          split at h
          · next h5 =>
            simp only [numL, List.all_cons, List.all_nil, Bool.and_true, Bool.and_eq_true, decide_eq_true_eq] at a4
            refine ⟨by omega, ?_, a2, a3, a4.1, a4.2.1, a4.2.2, by omega, fun w hw => ?_, h5⟩
            · rw [hasI_one] at a1
              simp only [decide_eq_true_eq] at a1
              omega
            · have h4' : ¬ c.words.any (fun w => decide (w.size / 2 < c.speaker.size / 2)) = true := h4
              rw [List.any_eq_true] at h4'
              apply Nat.le_of_not_lt
              intro hlt
              exact h4' ⟨w, hw, by simpa using hlt⟩
          · simp at h
    · simp at h
end Go.Proofs.Ytlfnepcglnjogaa

/- Models: whether a certificate is honest, over the abstract code. -/
-- fast
namespace Go.Proofs.Ytlfnepcglnjogaa
set_option linter.unusedSimpArgs false
set_option linter.unusedVariables false
open Go.RowKit Go.Lib

def honestE (m : Mdl) (c : Crt) : Bool := (c.words.any fun w => !withinR (wordR m.rows w) (wordR m.rows (atomW c.signer))) || c.words.all fun w => withinR (wordR m.rows w) (wordR m.rows c.speaker)
theorem atomW_may {a : Nat} (h : a / 8192 = 1) : wordMay (atomW a) = true := by
  have hs : (atomW a).size = 2 := rfl
  have hb := atom_back (a := a) (by omega)
  simp only [wordMay, Bool.and_eq_true, decide_eq_true_eq]
  refine ⟨by omega, by omega, by omega, fun i hi => ?_⟩
  obtain rfl : i = 0 := by omega
  rw [hb]; omega
theorem rulesL_at {c : Crt} : ∀ {l : List ByteArray} {i : Nat} (h : i < l.length), (rulesL c l).drop (i * 2) = .str l[i] :: .str c.speaker :: rulesL c (l.drop (i + 1))
  | x :: l, 0, _ => rfl
  | x :: l, i + 1, h => by
    have := rulesL_at (c := c) (l := l) (i := i) (by simpa using h)
    simp only [rulesL, List.flatMap_cons] at this ⊢
    rw [show (i + 1) * 2 = 2 + i * 2 by omega, ← List.drop_drop]
    exact this
set_option maxRecDepth 100000 in
set_option maxHeartbeats 8000000 in
theorem p_mHonest (m : Mdl) (c : Crt) (hm : smallMd m) (hc : smallC c) (hw : ∀ w ∈ c.words, w.size ≤ 1000) (hsp : c.speaker.size ≤ 1000) : PCalls Try.prog 19 [mdV m, vC c] (tupB (mdMay m && decide (checkE c = 0)) (honestE m c)) := by
  have qm := p_mmay m hm.1 hm.2
  have qc := p_check c hc
  have qr := p_mread m hm.1 hm.2
  have qu := p_rules c (by have := hc.2.2.1; omega)
  refine pcalls_of (by simp [free.frees, free_mdV, free_vC]) (free_tupB _ _) (acalls_of mixed J_model_Honest_ok (Nat.le_of_ble_eq_true rfl) ?_); simp only [J_model_Honest, mdV, vC, cC, wk,if_true,if_false,forall_const,implies_true,ne_eq,eq_self,Nat.reduceEqDiff,Nat.reduceAdd,Nat.reduceMul,Nat.reduceSub,Nat.reduceLeDiff,Nat.reduceLT,Int.reduceEq,Int.reduceLT,Int.reduceLE,Int.reduceAdd,Int.reduceSub,Int.reduceMul,Int.reduceNeg,Int.reduceNe,reduceCtorEq,Int.reduceToNat,↓reduceIte]
  simp only [mdV, vC, cC] at qm qc qr qu
  refine PCalls.use (qm) ?_; simp only [wk,if_true,if_false,forall_const,implies_true,ne_eq,eq_self,Nat.reduceEqDiff,Nat.reduceAdd,Nat.reduceMul,Nat.reduceSub,Nat.reduceLeDiff,Nat.reduceLT,Int.reduceEq,Int.reduceLT,Int.reduceLE,Int.reduceAdd,Int.reduceSub,Int.reduceMul,Int.reduceNeg,Int.reduceNe,reduceCtorEq,Int.reduceToNat,↓reduceIte]
  cases hmm : mdMay m with
  | false => simp only [hmm, wk,if_true,if_false,forall_const,implies_true,ne_eq,eq_self,Nat.reduceEqDiff,Nat.reduceAdd,Nat.reduceMul,Nat.reduceSub,Nat.reduceLeDiff,Nat.reduceLT,Int.reduceEq,Int.reduceLT,Int.reduceLE,Int.reduceAdd,Int.reduceSub,Int.reduceMul,Int.reduceNeg,Int.reduceNe,reduceCtorEq,Int.reduceToNat,↓reduceIte]; simp [tupB, hmm]
  | true =>
    try simp only [hmm, wk,if_true,if_false,forall_const,implies_true,ne_eq,eq_self,Nat.reduceEqDiff,Nat.reduceAdd,Nat.reduceMul,Nat.reduceSub,Nat.reduceLeDiff,Nat.reduceLT,Int.reduceEq,Int.reduceLT,Int.reduceLE,Int.reduceAdd,Int.reduceSub,Int.reduceMul,Int.reduceNeg,Int.reduceNe,reduceCtorEq,Int.reduceToNat,↓reduceIte]
    refine PCalls.use (qc) ?_; simp only [wk,if_true,if_false,forall_const,implies_true,ne_eq,eq_self,Nat.reduceEqDiff,Nat.reduceAdd,Nat.reduceMul,Nat.reduceSub,Nat.reduceLeDiff,Nat.reduceLT,Int.reduceEq,Int.reduceLT,Int.reduceLE,Int.reduceAdd,Int.reduceSub,Int.reduceMul,Int.reduceNeg,Int.reduceNe,reduceCtorEq,Int.reduceToNat,↓reduceIte]
    refine ⟨fun hne => ?_, fun he => ?_⟩
    · simp [tupB, hne]
    · have hg := good_of he
      have hln := hc.2.2.1
      have qo := p_wof [c.signer] (by simp) (by simpa using hc.1)
      rw [atomBytes_one] at qo
      simp only [u16s, List.map_cons, List.map_nil, List.length_singleton] at qo
      have qs := p_mword m.rows (atomW c.signer) (atomW_may hg.signer) (by show (2 : Nat) ≤ 1000; omega)
      simp only [mpV, rlV] at qs
      have h8 := wordR_length m.rows (atomW c.signer)
      refine PCalls.use (qr) ?_; simp only [wk,if_true,if_false,forall_const,implies_true,ne_eq,eq_self,Nat.reduceEqDiff,Nat.reduceAdd,Nat.reduceMul,Nat.reduceSub,Nat.reduceLeDiff,Nat.reduceLT,Int.reduceEq,Int.reduceLT,Int.reduceLE,Int.reduceAdd,Int.reduceSub,Int.reduceMul,Int.reduceNeg,Int.reduceNe,reduceCtorEq,Int.reduceToNat,↓reduceIte]
      refine PCalls.use (qo) ?_; simp only [wk,if_true,if_false,forall_const,implies_true,ne_eq,eq_self,Nat.reduceEqDiff,Nat.reduceAdd,Nat.reduceMul,Nat.reduceSub,Nat.reduceLeDiff,Nat.reduceLT,Int.reduceEq,Int.reduceLT,Int.reduceLE,Int.reduceAdd,Int.reduceSub,Int.reduceMul,Int.reduceNeg,Int.reduceNe,reduceCtorEq,Int.reduceToNat,↓reduceIte]
      refine PCalls.use (qs) ?_; simp only [wk,if_true,if_false,forall_const,implies_true,ne_eq,eq_self,Nat.reduceEqDiff,Nat.reduceAdd,Nat.reduceMul,Nat.reduceSub,Nat.reduceLeDiff,Nat.reduceLT,Int.reduceEq,Int.reduceLT,Int.reduceLE,Int.reduceAdd,Int.reduceSub,Int.reduceMul,Int.reduceNeg,Int.reduceNe,reduceCtorEq,Int.reduceToNat,↓reduceIte]
      rw [splice_all _ _ (by simp [len_rlC, h8])]
      refine ⟨by rw [len_rlC, h8], ?_⟩
      generalize hsg : wordR m.rows (atomW c.signer) = sg at *
      have hws : ∀ w ∈ c.words, wordMay w = true := (setMay_words hg.words).2
      refine W_loop (fun n fr h => ∃ i : Nat, i ≤ c.words.length ∧ n = c.words.length - i ∧ (∀ w ∈ c.words.take i, withinR (wordR m.rows w) sg = true) ∧ fr = [(3, .ptr 1 0), (6, mpV m.rows), (7, .ptr 2 0), (29, .lst .ro c.words.length (c.words.map .str)), (30, .int .i64 c.words.length), (31, .int .i64 i)] ∧ h = [some (false, [.int .i64 m.n, .lst .ro m.rows.length (rowsC m.rows)]), some (false, cC c), some (true, rlC sg)]) c.words.length ⟨0, by omega, by omega, by simp, rfl, rfl⟩ ?_
      rintro n fr h' ⟨i, hi, rfl, hall, rfl, rfl⟩
      simp only [J_model_Honest_j4, mpV, cC, wk,if_true,if_false,forall_const,implies_true,ne_eq,eq_self,Nat.reduceEqDiff,Nat.reduceAdd,Nat.reduceMul,Nat.reduceSub,Nat.reduceLeDiff,Nat.reduceLT,Int.reduceEq,Int.reduceLT,Int.reduceLE,Int.reduceAdd,Int.reduceSub,Int.reduceMul,Int.reduceNeg,Int.reduceNe,reduceCtorEq,Int.reduceToNat,↓reduceIte]
      refine ⟨fun hlt => ?_, fun hge => ?_⟩
      · have hil : i < c.words.length := by omega
        have hin : ((0 ≤ (i : Int)) ∧ (i : Int) < (c.words.length : Int)) = True := by simp; omega
        have hd : (c.words.map AV.str).drop i = .str c.words[i] :: (c.words.map AV.str).drop (i + 1) := by
          rw [List.drop_eq_getElem_cons (by simpa using hil)]; simp
        have hmem := List.getElem_mem hil
        have qw := p_mword m.rows c.words[i] (hws _ hmem) (hw _ hmem)
        have qi := p_mwithin (wordR m.rows c.words[i]) sg (wordR_length _ _) h8
        simp only [rlV, mpV] at qw qi
        simp only [hin, Int.toNat_natCast, hd, wk,if_true,if_false,forall_const,implies_true,ne_eq,eq_self,Nat.reduceEqDiff,Nat.reduceAdd,Nat.reduceMul,Nat.reduceSub,Nat.reduceLeDiff,Nat.reduceLT,Int.reduceEq,Int.reduceLT,Int.reduceLE,Int.reduceAdd,Int.reduceSub,Int.reduceMul,Int.reduceNeg,Int.reduceNe,reduceCtorEq,Int.reduceToNat,↓reduceIte]
        refine ⟨_, qw, ?_⟩; try simp only [wk,if_true,if_false,forall_const,implies_true,ne_eq,eq_self,Nat.reduceEqDiff,Nat.reduceAdd,Nat.reduceMul,Nat.reduceSub,Nat.reduceLeDiff,Nat.reduceLT,Int.reduceEq,Int.reduceLT,Int.reduceLE,Int.reduceAdd,Int.reduceSub,Int.reduceMul,Int.reduceNeg,Int.reduceNe,reduceCtorEq,Int.reduceToNat,↓reduceIte]
        rw [take_rlC _ h8, deg_rlC]
        refine ⟨by rw [len_rlC, h8]; omega, ?_⟩
        refine ⟨_, qi, ?_⟩; try simp only [wk,if_true,if_false,forall_const,implies_true,ne_eq,eq_self,Nat.reduceEqDiff,Nat.reduceAdd,Nat.reduceMul,Nat.reduceSub,Nat.reduceLeDiff,Nat.reduceLT,Int.reduceEq,Int.reduceLT,Int.reduceLE,Int.reduceAdd,Int.reduceSub,Int.reduceMul,Int.reduceNeg,Int.reduceNe,reduceCtorEq,Int.reduceToNat,↓reduceIte]
        refine ⟨fun hne => ?_, fun hy => ⟨inR_of (by omega) (by omega), c.words.length - (i + 1), by omega, i + 1, by omega, rfl, fun w hx => ?_, by simp⟩⟩
        · have hh : honestE m c = true := by
            simp only [honestE, Bool.or_eq_true, List.any_eq_true]
            exact .inl ⟨_, hmem, by rw [hsg]; simpa using hne⟩
          simp [tupB, hmm, he, hh]
        · rw [List.take_succ_eq_append_getElem hil, List.mem_append, List.mem_singleton] at hx
          rcases hx with hx | rfl
          · exact hall w hx
          · simpa using hy
      · obtain rfl : i = c.words.length := by omega
        rw [List.take_of_length_le (Nat.le_refl _)] at hall
        simp only [J_model_Honest_j3, wk,if_true,if_false,forall_const,implies_true,ne_eq,eq_self,Nat.reduceEqDiff,Nat.reduceAdd,Nat.reduceMul,Nat.reduceSub,Nat.reduceLeDiff,Nat.reduceLT,Int.reduceEq,Int.reduceLT,Int.reduceLE,Int.reduceAdd,Int.reduceSub,Int.reduceMul,Int.reduceNeg,Int.reduceNe,reduceCtorEq,Int.reduceToNat,↓reduceIte]
        refine PCalls.use (qu) ?_; simp only [wk,if_true,if_false,forall_const,implies_true,ne_eq,eq_self,Nat.reduceEqDiff,Nat.reduceAdd,Nat.reduceMul,Nat.reduceSub,Nat.reduceLeDiff,Nat.reduceLT,Int.reduceEq,Int.reduceLT,Int.reduceLE,Int.reduceAdd,Int.reduceSub,Int.reduceMul,Int.reduceNeg,Int.reduceNe,reduceCtorEq,Int.reduceToNat,↓reduceIte]
        refine W_loop (fun n fr h => ∃ i : Nat, i ≤ c.words.length ∧ n = c.words.length - i ∧ (∀ w ∈ c.words.take i, withinR (wordR m.rows w) (wordR m.rows c.speaker) = true) ∧ fr = [(6, mpV m.rows), (43, .lst .ro c.words.length (rulesL c c.words)), (44, .int .i64 c.words.length), (45, .int .i64 i)]) c.words.length ⟨0, by omega, by omega, by simp, rfl⟩ ?_
        rintro n fr h' ⟨i, hi, rfl, hall2, rfl⟩
        simp only [J_model_Honest_j2, mpV, wk,if_true,if_false,forall_const,implies_true,ne_eq,eq_self,Nat.reduceEqDiff,Nat.reduceAdd,Nat.reduceMul,Nat.reduceSub,Nat.reduceLeDiff,Nat.reduceLT,Int.reduceEq,Int.reduceLT,Int.reduceLE,Int.reduceAdd,Int.reduceSub,Int.reduceMul,Int.reduceNeg,Int.reduceNe,reduceCtorEq,Int.reduceToNat,↓reduceIte]
        refine ⟨fun hlt => ?_, fun hge => ?_⟩
        · have hil : i < c.words.length := by omega
          have hin : ((0 ≤ (i : Int)) ∧ (i : Int) < (c.words.length : Int)) = True := by simp; omega
          have hd := rulesL_at (c := c) hil
          have hmem := List.getElem_mem hil
          have ql := p_mrule m.rows c.words[i] c.speaker ⟨hws _ hmem, hw _ hmem⟩ ⟨hg.speaker, hsp⟩
          simp only [mpV] at ql
          simp only [hin, Int.toNat_natCast, hd, wk,if_true,if_false,forall_const,implies_true,ne_eq,eq_self,Nat.reduceEqDiff,Nat.reduceAdd,Nat.reduceMul,Nat.reduceSub,Nat.reduceLeDiff,Nat.reduceLT,Int.reduceEq,Int.reduceLT,Int.reduceLE,Int.reduceAdd,Int.reduceSub,Int.reduceMul,Int.reduceNeg,Int.reduceNe,reduceCtorEq,Int.reduceToNat,↓reduceIte]
          refine PCalls.use (ql) ?_; simp only [wk,if_true,if_false,forall_const,implies_true,ne_eq,eq_self,Nat.reduceEqDiff,Nat.reduceAdd,Nat.reduceMul,Nat.reduceSub,Nat.reduceLeDiff,Nat.reduceLT,Int.reduceEq,Int.reduceLT,Int.reduceLE,Int.reduceAdd,Int.reduceSub,Int.reduceMul,Int.reduceNeg,Int.reduceNe,reduceCtorEq,Int.reduceToNat,↓reduceIte]
          refine ⟨fun hne => ?_, fun hy => ⟨inR_of (by omega) (by omega), c.words.length - (i + 1), by omega, i + 1, by omega, rfl, fun w hx => ?_, by simp⟩⟩
          · have hh : honestE m c = false := by
              simp only [honestE, Bool.or_eq_false_iff, List.any_eq_false, List.all_eq_false]
              exact ⟨fun w hx => by rw [hsg, hall w hx]; simp, _, hmem, by simpa using hne⟩
            simp [tupB, hmm, he, hh]
          · rw [List.take_succ_eq_append_getElem hil, List.mem_append, List.mem_singleton] at hx
            rcases hx with hx | rfl
            · exact hall2 w hx
            · simpa using hy
        · obtain rfl : i = c.words.length := by omega
          rw [List.take_of_length_le (Nat.le_refl _)] at hall2
          simp only [J_model_Honest_j1, wk,if_true,if_false,forall_const,implies_true,ne_eq,eq_self,Nat.reduceEqDiff,Nat.reduceAdd,Nat.reduceMul,Nat.reduceSub,Nat.reduceLeDiff,Nat.reduceLT,Int.reduceEq,Int.reduceLT,Int.reduceLE,Int.reduceAdd,Int.reduceSub,Int.reduceMul,Int.reduceNeg,Int.reduceNe,reduceCtorEq,Int.reduceToNat,↓reduceIte]
          have hh : honestE m c = true := by
            simp only [honestE, Bool.or_eq_true, List.all_eq_true]
            exact .inr hall2
          simp [tupB, hmm, he, hh]
end Go.Proofs.Ytlfnepcglnjogaa

/- Models: the calls whose answers the document fixes (awake), over the abstract code. -/
-- fast
namespace Go.Proofs.Ytlfnepcglnjogaa
set_option linter.unusedSimpArgs false
set_option linter.unusedVariables false
open Go.RowKit Go.Lib

def wd1 : ByteArray := ⟨#[32, 1]⟩
def wd2 : ByteArray := ⟨#[32, 2]⟩
def wd12 : ByteArray := ⟨#[32, 1, 32, 2]⟩
def md0 : Mdl := ⟨2, [⟨8193, [2, 0]⟩, ⟨8194, [0, 1]⟩]⟩
def md1 : Mdl := ⟨0, []⟩
def md9 : Mdl := ⟨9, []⟩
def ct0 : Crt := ⟨6, 8193, wd2, [wd1], 0, 0, 0⟩
theorem k14_app : wd1 ++ wd2 = wd12 := by apply ByteArray.ext; apply Array.ext'; simp [wd1, wd2, wd12]
theorem sm0 : smallMd md0 := ⟨by decide, by intro x hx; simp [md0] at hx; rcases hx with rfl | rfl <;> exact ⟨by decide, by decide⟩⟩
theorem sm1 : smallMd md1 := ⟨by decide, by intro x hx; simp [md1] at hx⟩
theorem sm9 : smallMd md9 := ⟨by decide, by intro x hx; simp [md9] at hx⟩
theorem k14_word : mWordV md0 wd12 = .tup [.lst .ro 2 [.int .u8 1, .int .u8 0], .int .i64 0] := by kernel_rfl
theorem k14_set : mSetV md0 [wd1, wd2] = .tup [.lst .ro 2 [.int .u8 2, .int .u8 1], .int .i64 0] := by kernel_rfl
theorem k14_holds : tupB (mdMay md0 && (wordMay wd12 && wordMay wd1)) (withinR (wordR md0.rows wd12) (wordR md0.rows wd1)) = .tup [.bool false, .int .i64 0] := by kernel_rfl
theorem k14_speaks : tupB (mdMay md0 && (setMay [wd1, wd2] && setMay [wd2])) (withinR (setN md0.rows [wd2]) (setN md0.rows [wd1, wd2])) = .tup [.bool true, .int .i64 0] := by kernel_rfl
theorem k14_none : mWordV md1 wd1 = .tup [.lst .clip 0 [], .int .i64 2] := by kernel_rfl
theorem k14_hon : tupB (mdMay md0 && decide (checkE ct0 = 0)) (honestE md0 ct0) = .tup [.bool false, .int .i64 0] := by kernel_rfl
theorem k14_may : mdMay md0 = true := by kernel_rfl
theorem k14_may9 : mdMay md9 = false := by kernel_rfl
theorem q14_1 : PCalls Try.prog 22 [.lst .ro 1 [.int .u16 8193]] (.str wd1) := p_rof [8193] (by decide) (by decide)
theorem q14_2 : PCalls Try.prog 22 [.lst .ro 1 [.int .u16 8194]] (.str wd2) := p_rof [8194] (by decide) (by decide)
abbrev md0V : AV := .agg [.int .i64 2, .lst .ro 2 [.int .u16 8193, .lst .ro 2 [.int .u8 2, .int .u8 0], .int .u16 8194, .lst .ro 2 [.int .u8 0, .int .u8 1]]]
theorem q14_word : PCalls Try.prog 10 [md0V, .str wd12] (.tup [.lst .ro 2 [.int .u8 1, .int .u8 0], .int .i64 0]) := by
  have q := p_mWord md0 wd12 sm0 (by decide)
  rw [k14_word] at q; exact q
theorem q14_set : PCalls Try.prog 12 [md0V, .lst .ro 2 [.str wd1, .str wd2]] (.tup [.lst .ro 2 [.int .u8 2, .int .u8 1], .int .i64 0]) := by
  have q := p_mSet md0 [wd1, wd2] sm0 (by decide) (by intro w hw; simp at hw; rcases hw with rfl | rfl <;> decide)
  rw [k14_set] at q; exact q
theorem q14_holds : PCalls Try.prog 14 [md0V, .agg [.str wd12, .str wd1]] (.tup [.bool false, .int .i64 0]) := by
  have q := p_mHolds md0 wd12 wd1 sm0 (by decide) (by decide)
  rw [k14_holds] at q; exact q
theorem q14_speaks : PCalls Try.prog 16 [md0V, .lst .ro 2 [.str wd1, .str wd2], .lst .ro 1 [.str wd2]] (.tup [.bool true, .int .i64 0]) := by
  have q := p_mSpeaks md0 [wd1, wd2] [wd2] sm0 ⟨by decide, by intro w hw; simp at hw; rcases hw with rfl | rfl <;> decide⟩ ⟨by decide, by intro w hw; simp at hw; subst hw; decide⟩
  rw [k14_speaks] at q; exact q
theorem q14_none : PCalls Try.prog 10 [.agg [.int .i64 0, .lst .clip 0 []], .str wd1] (.tup [.lst .clip 0 [], .int .i64 2]) := by
  have q := p_mWord md1 wd1 sm1 (by decide)
  rw [k14_none] at q
  refine PCalls.argd ?_
  simp only [rdpw]; exact q
theorem q14_hon : PCalls Try.prog 19 [md0V, .agg [.int .i64 6, .int .u16 8193, .str wd2, .lst .ro 1 [.str wd1], .int .i64 0, .int .i64 0, .int .i64 0]] (.tup [.bool false, .int .i64 0]) := by
  have q := p_mHonest md0 ct0 sm0 ⟨by decide, by decide, by decide, by intro w hw; simp [ct0] at hw; subst hw; decide⟩ (by intro w hw; simp [ct0] at hw; subst hw; decide) (by decide)
  rw [k14_hon] at q; exact q
theorem q14_may : PCalls Try.prog 8 [md0V] (.bool true) := by
  have q := p_mmay md0 sm0.1 sm0.2
  rw [k14_may] at q; exact q
theorem q14_may9 : PCalls Try.prog 8 [.agg [.int .i64 9, .lst .clip 0 []]] (.bool false) := by
  have q := p_mmay md9 sm9.1 sm9.2
  rw [k14_may9] at q
  refine PCalls.argd ?_
  simp only [rdpw]; exact q
set_option maxRecDepth 100000 in
set_option maxHeartbeats 8000000 in
theorem p14_awake : PCalls Try.prog 5 [] (.bool true) := by
  refine pcalls_of rfl rfl (acalls_of mixed J_law14_awake_ok (Nat.le_of_ble_eq_true rfl) ?_); simp only [J_law14_awake, wk,if_true,if_false,forall_const,implies_true,ne_eq,eq_self,Nat.reduceEqDiff,Nat.reduceAdd,Nat.reduceMul,Nat.reduceSub,Nat.reduceLeDiff,Nat.reduceLT,Int.reduceEq,Int.reduceLT,Int.reduceLE,Int.reduceAdd,Int.reduceSub,Int.reduceMul,Int.reduceNeg,Int.reduceNe,reduceCtorEq,Int.reduceToNat,↓reduceIte]
  refine PCalls.use (q14_1) ?_; simp only [wk,if_true,if_false,forall_const,implies_true,ne_eq,eq_self,Nat.reduceEqDiff,Nat.reduceAdd,Nat.reduceMul,Nat.reduceSub,Nat.reduceLeDiff,Nat.reduceLT,Int.reduceEq,Int.reduceLT,Int.reduceLE,Int.reduceAdd,Int.reduceSub,Int.reduceMul,Int.reduceNeg,Int.reduceNe,reduceCtorEq,Int.reduceToNat,↓reduceIte]
  refine PCalls.use (q14_2) ?_; simp only [wk,if_true,if_false,forall_const,implies_true,ne_eq,eq_self,Nat.reduceEqDiff,Nat.reduceAdd,Nat.reduceMul,Nat.reduceSub,Nat.reduceLeDiff,Nat.reduceLT,Int.reduceEq,Int.reduceLT,Int.reduceLE,Int.reduceAdd,Int.reduceSub,Int.reduceMul,Int.reduceNeg,Int.reduceNe,reduceCtorEq,Int.reduceToNat,↓reduceIte]
  rw [k14_app]
  refine ⟨by decide, ?_⟩
  refine PCalls.use (q14_word) ?_; simp only [wk,if_true,if_false,forall_const,implies_true,ne_eq,eq_self,Nat.reduceEqDiff,Nat.reduceAdd,Nat.reduceMul,Nat.reduceSub,Nat.reduceLeDiff,Nat.reduceLT,Int.reduceEq,Int.reduceLT,Int.reduceLE,Int.reduceAdd,Int.reduceSub,Int.reduceMul,Int.reduceNeg,Int.reduceNe,reduceCtorEq,Int.reduceToNat,↓reduceIte]
  refine PCalls.use (q14_set) ?_; simp only [wk,if_true,if_false,forall_const,implies_true,ne_eq,eq_self,Nat.reduceEqDiff,Nat.reduceAdd,Nat.reduceMul,Nat.reduceSub,Nat.reduceLeDiff,Nat.reduceLT,Int.reduceEq,Int.reduceLT,Int.reduceLE,Int.reduceAdd,Int.reduceSub,Int.reduceMul,Int.reduceNeg,Int.reduceNe,reduceCtorEq,Int.reduceToNat,↓reduceIte]
  refine ⟨by decide, ?_⟩
  try rw [k14_app]
  refine PCalls.use (q14_holds) ?_; simp only [wk,if_true,if_false,forall_const,implies_true,ne_eq,eq_self,Nat.reduceEqDiff,Nat.reduceAdd,Nat.reduceMul,Nat.reduceSub,Nat.reduceLeDiff,Nat.reduceLT,Int.reduceEq,Int.reduceLT,Int.reduceLE,Int.reduceAdd,Int.reduceSub,Int.reduceMul,Int.reduceNeg,Int.reduceNe,reduceCtorEq,Int.reduceToNat,↓reduceIte]
  refine PCalls.use (q14_speaks) ?_; simp only [wk,if_true,if_false,forall_const,implies_true,ne_eq,eq_self,Nat.reduceEqDiff,Nat.reduceAdd,Nat.reduceMul,Nat.reduceSub,Nat.reduceLeDiff,Nat.reduceLT,Int.reduceEq,Int.reduceLT,Int.reduceLE,Int.reduceAdd,Int.reduceSub,Int.reduceMul,Int.reduceNeg,Int.reduceNe,reduceCtorEq,Int.reduceToNat,↓reduceIte]
  refine PCalls.use (q14_none) ?_; simp only [wk,if_true,if_false,forall_const,implies_true,ne_eq,eq_self,Nat.reduceEqDiff,Nat.reduceAdd,Nat.reduceMul,Nat.reduceSub,Nat.reduceLeDiff,Nat.reduceLT,Int.reduceEq,Int.reduceLT,Int.reduceLE,Int.reduceAdd,Int.reduceSub,Int.reduceMul,Int.reduceNeg,Int.reduceNe,reduceCtorEq,Int.reduceToNat,↓reduceIte]
  refine PCalls.use (q14_hon) ?_; simp only [wk,if_true,if_false,forall_const,implies_true,ne_eq,eq_self,Nat.reduceEqDiff,Nat.reduceAdd,Nat.reduceMul,Nat.reduceSub,Nat.reduceLeDiff,Nat.reduceLT,Int.reduceEq,Int.reduceLT,Int.reduceLE,Int.reduceAdd,Int.reduceSub,Int.reduceMul,Int.reduceNeg,Int.reduceNe,reduceCtorEq,Int.reduceToNat,↓reduceIte]
  refine ⟨[1, 0], rfl, rfl, fun _ => ⟨[2, 1], rfl, rfl, fun _ => ?_, fun h => absurd rfl h⟩, fun h => absurd rfl h⟩
  try simp only [wk,if_true,if_false,forall_const,implies_true,ne_eq,eq_self,Nat.reduceEqDiff,Nat.reduceAdd,Nat.reduceMul,Nat.reduceSub,Nat.reduceLeDiff,Nat.reduceLT,Int.reduceEq,Int.reduceLT,Int.reduceLE,Int.reduceAdd,Int.reduceSub,Int.reduceMul,Int.reduceNeg,Int.reduceNe,reduceCtorEq,Int.reduceToNat,↓reduceIte]
  refine PCalls.use (q14_may) ?_; simp only [wk,if_true,if_false,forall_const,implies_true,ne_eq,eq_self,Nat.reduceEqDiff,Nat.reduceAdd,Nat.reduceMul,Nat.reduceSub,Nat.reduceLeDiff,Nat.reduceLT,Int.reduceEq,Int.reduceLT,Int.reduceLE,Int.reduceAdd,Int.reduceSub,Int.reduceMul,Int.reduceNeg,Int.reduceNe,reduceCtorEq,Int.reduceToNat,↓reduceIte]
  refine PCalls.use (q14_may9) ?_; simp only [wk,if_true,if_false,forall_const,implies_true,ne_eq,eq_self,Nat.reduceEqDiff,Nat.reduceAdd,Nat.reduceMul,Nat.reduceSub,Nat.reduceLeDiff,Nat.reduceLT,Int.reduceEq,Int.reduceLT,Int.reduceLE,Int.reduceAdd,Int.reduceSub,Int.reduceMul,Int.reduceNeg,Int.reduceNe,reduceCtorEq,Int.reduceToNat,↓reduceIte]
end Go.Proofs.Ytlfnepcglnjogaa

/- Models: what is too much to be looked at (large), over the abstract code. -/
-- fast
namespace Go.Proofs.Ytlfnepcglnjogaa
set_option linter.unusedSimpArgs false
set_option linter.unusedVariables false
open Go.RowKit Go.Lib

def setsC (l : List (List ByteArray)) : List AV := l.map fun s => .lst .ro s.length (s.map .str)
theorem frees_setsC (l : List (List ByteArray)) : free.frees (setsC l) = true := by
  induction l with
  | nil => rfl
  | cons s l ih => simp only [setsC, List.map_cons, free.frees, free, frees_strs, Bool.true_and] at ih ⊢; exact ih
theorem setsC_at {l : List (List ByteArray)} {i : Nat} (h : i < l.length) : (setsC l).drop i = .lst .ro l[i].length (l[i].map .str) :: (setsC l).drop (i + 1) := by
  unfold setsC
  rw [List.drop_eq_getElem_cons (by simpa using h)]; simp
theorem strs_at {l : List ByteArray} {i : Nat} (h : i < l.length) : (l.map AV.str).drop i = .str l[i] :: (l.map AV.str).drop (i + 1) := by
  rw [List.drop_eq_getElem_cons (by simpa using h)]; simp
def bigS (s : List ByteArray) : Bool := decide (30 < s.length) || s.any fun w => decide (100 < w.size)
def largeM (m : Mdl) (l : List (List ByteArray)) : Bool := decide (30 < m.rows.length) || (m.rows.any fun x => decide (20 < x.to.length)) || l.any bigS
theorem any_take {α : Type} {l : List α} {i : Nat} (h : i < l.length) {p : α → Bool} (ha : (l.take i).any p = false) (hp : p l[i] = false) : (l.take (i + 1)).any p = false := by
  rw [List.take_succ_eq_append_getElem h, List.any_append, ha]; simp [hp]
theorem any_mem {α : Type} {l : List α} {i : Nat} (h : i < l.length) {p : α → Bool} (hp : p l[i] = true) : l.any p = true := List.any_eq_true.2 ⟨_, List.getElem_mem h, hp⟩
set_option maxRecDepth 100000 in
set_option maxHeartbeats 8000000 in
theorem p14_large (m : Mdl) (l : List (List ByteArray)) (hl : l.length ≤ 1000) : PCalls Try.prog 6 [mdV m, .lst .ro l.length (setsC l)] (.bool (largeM m l)) := by
  refine pcalls_of (by simp [free.frees, free, free_mdV, frees_setsC]) rfl (acalls_of mixed J_law14_large_ok (Nat.le_of_ble_eq_true rfl) ?_); simp only [J_law14_large, mdV, wk,if_true,if_false,forall_const,implies_true,ne_eq,eq_self,Nat.reduceEqDiff,Nat.reduceAdd,Nat.reduceMul,Nat.reduceSub,Nat.reduceLeDiff,Nat.reduceLT,Int.reduceEq,Int.reduceLT,Int.reduceLE,Int.reduceAdd,Int.reduceSub,Int.reduceMul,Int.reduceNeg,Int.reduceNe,reduceCtorEq,Int.reduceToNat,↓reduceIte]
  refine ⟨fun h1 => boolE (by simp only [largeM]; rw [decide_eq_true (by omega)]; rfl), fun h1 => ?_⟩
  have e1 : decide (30 < m.rows.length) = false := by simp; omega
  refine W_loop (fun n fr h => ∃ i : Nat, i ≤ m.rows.length ∧ n = m.rows.length - i ∧ (m.rows.take i).any (fun x => decide (20 < x.to.length)) = false ∧ fr = [(1, .lst .ro l.length (setsC l)), (2, .ptr 0 0), (14, .int .i64 m.rows.length), (15, .int .i64 i)] ∧ h = [some (false, [.int .i64 m.n, .lst .ro m.rows.length (rowsC m.rows)])]) m.rows.length ⟨0, by omega, by omega, by simp, rfl, rfl⟩ ?_
  rintro n fr h' ⟨i, hi, rfl, hall, rfl, rfl⟩
  simp only [J_law14_large_j6, wk,if_true,if_false,forall_const,implies_true,ne_eq,eq_self,Nat.reduceEqDiff,Nat.reduceAdd,Nat.reduceMul,Nat.reduceSub,Nat.reduceLeDiff,Nat.reduceLT,Int.reduceEq,Int.reduceLT,Int.reduceLE,Int.reduceAdd,Int.reduceSub,Int.reduceMul,Int.reduceNeg,Int.reduceNe,reduceCtorEq,Int.reduceToNat,↓reduceIte]
  refine ⟨fun hlt => ?_, fun hge => ?_⟩
  · have hil : i < m.rows.length := by omega
    have hin : ((0 ≤ (i : Int)) ∧ (i : Int) < (m.rows.length : Int)) = True := by simp; omega
    have hd := rowsC_at hil
    simp only [rowC, kA, List.cons_append, List.nil_append] at hd
    simp only [hin, Int.toNat_natCast, hd, wk,if_true,if_false,forall_const,implies_true,ne_eq,eq_self,Nat.reduceEqDiff,Nat.reduceAdd,Nat.reduceMul,Nat.reduceSub,Nat.reduceLeDiff,Nat.reduceLT,Int.reduceEq,Int.reduceLT,Int.reduceLE,Int.reduceAdd,Int.reduceSub,Int.reduceMul,Int.reduceNeg,Int.reduceNe,reduceCtorEq,Int.reduceToNat,↓reduceIte]
    refine ⟨fun hb => boolE ?_, fun hb => ⟨inR_of (by omega) (by omega), m.rows.length - (i + 1), by omega, i + 1, by omega, rfl, any_take hil hall (by simp; omega), by simp⟩⟩
    have := any_mem hil (p := fun x : Row => decide (20 < x.to.length)) (by simp; omega)
    simp only [largeM, this, Bool.or_true, Bool.true_or]
  · obtain rfl : i = m.rows.length := by omega
    rw [List.take_of_length_le (Nat.le_refl _)] at hall
    simp only [J_law14_large_j5, wk,if_true,if_false,forall_const,implies_true,ne_eq,eq_self,Nat.reduceEqDiff,Nat.reduceAdd,Nat.reduceMul,Nat.reduceSub,Nat.reduceLeDiff,Nat.reduceLT,Int.reduceEq,Int.reduceLT,Int.reduceLE,Int.reduceAdd,Int.reduceSub,Int.reduceMul,Int.reduceNeg,Int.reduceNe,reduceCtorEq,Int.reduceToNat,↓reduceIte]
    refine W_loop (fun n fr h => ∃ i : Nat, i ≤ l.length ∧ n = l.length - i ∧ (l.take i).any bigS = false ∧ fr = [(1, .lst .ro l.length (setsC l)), (28, .int .i64 l.length), (29, .int .i64 i)]) l.length ⟨0, by omega, by omega, by simp, rfl⟩ ?_
    rintro n fr h' ⟨i, hi, rfl, hall2, rfl⟩
    simp only [J_law14_large_j4, wk,if_true,if_false,forall_const,implies_true,ne_eq,eq_self,Nat.reduceEqDiff,Nat.reduceAdd,Nat.reduceMul,Nat.reduceSub,Nat.reduceLeDiff,Nat.reduceLT,Int.reduceEq,Int.reduceLT,Int.reduceLE,Int.reduceAdd,Int.reduceSub,Int.reduceMul,Int.reduceNeg,Int.reduceNe,reduceCtorEq,Int.reduceToNat,↓reduceIte]
    refine ⟨fun hlt => ?_, fun hge => ?_⟩
    · have hil : i < l.length := by omega
      have hin : ((0 ≤ (i : Int)) ∧ (i : Int) < (l.length : Int)) = True := by simp; omega
      have hd := setsC_at hil
      have big : bigS l[i] = true → largeM m l = true := fun hb => by simp only [largeM, any_mem hil hb, Bool.or_true]
      simp only [hin, Int.toNat_natCast, hd, wk,if_true,if_false,forall_const,implies_true,ne_eq,eq_self,Nat.reduceEqDiff,Nat.reduceAdd,Nat.reduceMul,Nat.reduceSub,Nat.reduceLeDiff,Nat.reduceLT,Int.reduceEq,Int.reduceLT,Int.reduceLE,Int.reduceAdd,Int.reduceSub,Int.reduceMul,Int.reduceNeg,Int.reduceNe,reduceCtorEq,Int.reduceToNat,↓reduceIte]
      refine ⟨fun hb => boolE (big (by simp only [bigS]; rw [decide_eq_true (by omega)]; rfl)).symm, fun hb => ?_⟩
      generalize hx : l[i] = s at hd big hb ⊢
      refine W_loop (fun n fr h => ∃ j : Nat, j ≤ s.length ∧ n = s.length - j ∧ (s.take j).any (fun w => decide (100 < w.size)) = false ∧ fr = [(1, .lst .ro l.length (setsC l)), (6, .int .i64 i), (28, .int .i64 l.length), (29, .int .i64 i), (42, .int .i64 s.length), (43, .int .i64 j)]) s.length ⟨0, by omega, by omega, by simp, rfl⟩ ?_
      rintro n fr h' ⟨j, hj, rfl, hall3, rfl⟩
      simp only [J_law14_large_j3, wk,if_true,if_false,forall_const,implies_true,ne_eq,eq_self,Nat.reduceEqDiff,Nat.reduceAdd,Nat.reduceMul,Nat.reduceSub,Nat.reduceLeDiff,Nat.reduceLT,Int.reduceEq,Int.reduceLT,Int.reduceLE,Int.reduceAdd,Int.reduceSub,Int.reduceMul,Int.reduceNeg,Int.reduceNe,reduceCtorEq,Int.reduceToNat,↓reduceIte]
      refine ⟨fun hlt => ?_, fun hge => ?_⟩
      · have hjl : j < s.length := by omega
        have hjn : ((0 ≤ (j : Int)) ∧ (j : Int) < (s.length : Int)) = True := by simp; omega
        have hd2 := strs_at hjl
        simp only [hin, hjn, Int.toNat_natCast, hd, hd2, wk,if_true,if_false,forall_const,implies_true,ne_eq,eq_self,Nat.reduceEqDiff,Nat.reduceAdd,Nat.reduceMul,Nat.reduceSub,Nat.reduceLeDiff,Nat.reduceLT,Int.reduceEq,Int.reduceLT,Int.reduceLE,Int.reduceAdd,Int.reduceSub,Int.reduceMul,Int.reduceNeg,Int.reduceNe,reduceCtorEq,Int.reduceToNat,↓reduceIte]
        refine ⟨fun hb2 => boolE (big ?_).symm, fun hb2 => ⟨inR_of (by omega) (by omega), s.length - (j + 1), by omega, j + 1, by omega, rfl, any_take hjl hall3 (by simp; omega), by simp⟩⟩
        have := any_mem hjl (p := fun w : ByteArray => decide (100 < w.size)) (by simp; omega)
        simp only [bigS, this, Bool.or_true]
      · obtain rfl : j = s.length := by omega
        rw [List.take_of_length_le (Nat.le_refl _)] at hall3
        simp only [J_law14_large_j2, wk,if_true,if_false,forall_const,implies_true,ne_eq,eq_self,Nat.reduceEqDiff,Nat.reduceAdd,Nat.reduceMul,Nat.reduceSub,Nat.reduceLeDiff,Nat.reduceLT,Int.reduceEq,Int.reduceLT,Int.reduceLE,Int.reduceAdd,Int.reduceSub,Int.reduceMul,Int.reduceNeg,Int.reduceNe,reduceCtorEq,Int.reduceToNat,↓reduceIte]
        refine ⟨inR_of (by omega) (by omega), l.length - (i + 1), by omega, i + 1, by omega, rfl, any_take hil hall2 ?_, by simp⟩
        rw [hx]; simp only [bigS, hall3, Bool.or_false]; simp; omega
    · obtain rfl : i = l.length := by omega
      rw [List.take_of_length_le (Nat.le_refl _)] at hall2
      simp only [J_law14_large_j1, wk,if_true,if_false,forall_const,implies_true,ne_eq,eq_self,Nat.reduceEqDiff,Nat.reduceAdd,Nat.reduceMul,Nat.reduceSub,Nat.reduceLeDiff,Nat.reduceLT,Int.reduceEq,Int.reduceLT,Int.reduceLE,Int.reduceAdd,Int.reduceSub,Int.reduceMul,Int.reduceNeg,Int.reduceNe,reduceCtorEq,Int.reduceToNat,↓reduceIte]
      refine boolE ?_
      simp only [largeM, e1, hall, hall2]; rfl
end Go.Proofs.Ytlfnepcglnjogaa

/- ModelAround: who speaks for another speaks for it quoting, and quoted by, any third one. -/
-- fast
namespace Go.Proofs.Ytlfnepcglnjogaa
set_option linter.unusedSimpArgs false
set_option linter.unusedVariables false
open Go.RowKit Go.Lib

theorem may_two {w : ByteArray} (h : wordMay w = true) : w.size % 2 = 0 ∧ 2 ≤ w.size := by
  simp only [wordMay, Bool.and_eq_true, decide_eq_true_eq] at h; omega
theorem within_self (r : Rl) : withinR r r = true := (within_iff r r).2 fun _ _ _ h => h
theorem within_trans {r s t : Rl} (h1 : withinR r s = true) (h2 : withinR s t = true) : withinR r t = true := by
  rw [within_iff] at h1 h2 ⊢
  exact fun i hi j h => h2 i hi j (h1 i hi j h)
theorem not_large {m : Mdl} {l : List (List ByteArray)} (h : largeM m l = false) (hat : ∀ x ∈ m.rows, x.atom < 65536) : smallMd m ∧ ∀ s ∈ l, s.length ≤ 30 ∧ ∀ w ∈ s, w.size ≤ 100 := by
  simp only [largeM, Bool.or_eq_false_iff, decide_eq_false_iff_not, List.any_eq_false, decide_eq_true_eq, bigS] at h
  obtain ⟨⟨h1, h2⟩, h3⟩ := h
  refine ⟨⟨by omega, fun x hx => ⟨hat x hx, by have := h2 x hx; omega⟩⟩, fun s hs => ?_⟩
  have := h3 s hs
  simp only [Bool.or_eq_true, decide_eq_true_eq, List.any_eq_true, not_or, not_exists, not_and] at this
  exact ⟨by omega, fun w hw => by have := this.2 w hw; omega⟩
end Go.Proofs.Ytlfnepcglnjogaa

/- ModelAround, over the abstract code. -/
-- fast
namespace Go.Proofs.Ytlfnepcglnjogaa
set_option linter.unusedSimpArgs false
set_option linter.unusedVariables false
open Go.RowKit Go.Lib

theorem tupB_cases (ok b : Bool) : (∃ e, tupB ok b = .tup [.bool false, .int .i64 e]) ∨ (tupB ok b = .tup [.bool true, .int .i64 0] ∧ ok = true ∧ b = true) := by
  cases ok <;> cases b
  · exact .inl ⟨2, rfl⟩
  · exact .inl ⟨2, rfl⟩
  · exact .inl ⟨0, rfl⟩
  · exact .inr ⟨rfl, rfl, rfl⟩
end Go.Proofs.Ytlfnepcglnjogaa

/- Reach and accept, plain: what rules lead to; that it stays within what holds. No program in sight. -/
namespace Go.Proofs.Ytlfnepcglnjogaa
set_option linter.unusedSimpArgs false
set_option linter.unusedVariables false
open Go.RowKit Go.Lib

abbrev RlB := ByteArray × ByteArray
def wOf (l : List Nat) : ByteArray := ⟨(atomBytes l).toArray⟩
theorem wOf_size (l : List Nat) : (wOf l).size = 2 * l.length := by
  show (atomBytes l).toArray.size = _
  rw [List.size_toArray]
  induction l with
  | nil => rfl
  | cons a l ih =>
    have : atomBytes (a :: l) = atomBytes [a] ++ atomBytes l := atomBytes_app [a] l
    rw [this, List.length_append, ih, List.length_cons]
    have : (atomBytes [a]).length = 2 := rfl
    omega
theorem wOf_app (a b : List Nat) : wOf (a ++ b) = wOf a ++ wOf b := by
  apply ByteArray.ext
  apply Array.toList_inj.1
  simp [wOf, atomBytes_app, ByteArray.data_append]
theorem wOf_atoms {w : ByteArray} (h : w.size % 2 = 0) : wOf (atomNs w) = w := by
  apply ByteArray.ext
  apply Array.toList_inj.1
  show (atomBytes (atomNs w)).toArray.toList = _
  rw [atomBytes_atoms h]
theorem wOf_at {l : List Nat} (hl : ∀ a ∈ l, a < 65536) {i : Nat} (hi : i < l.length) : atomAt (wOf l) i = l[i] := by
  have e : l = l.take i ++ ([l[i]] ++ l.drop (i + 1)) := by
    rw [List.singleton_append, ← List.drop_eq_getElem_cons hi, List.take_append_drop]
  have h1 : (wOf (l.take i)).size = 2 * i := by rw [wOf_size, List.length_take]; omega
  have h2 : (wOf [l[i]]).size = 2 := rfl
  conv => lhs; rw [e, wOf_app, wOf_app]
  rw [atomAt_app_right (by omega) (by omega) (by rw [ByteArray.size_append, ByteArray.size_append]; omega), h1, show i - 2 * i / 2 = 0 by omega, atomAt_app_left (by omega)]
  have h3 := hl l[i] (List.getElem_mem hi)
  generalize l[i] = a at h3
  show atomAt (wOf [a]) 0 = a
  have : wOf [a] = atomW a := rfl
  rw [this]
  have hs : (atomW a).size = 2 := rfl
  unfold atomAt
  rw [dif_pos (by rw [hs]; decide)]
  show (UInt8.ofNat (a / 256)).toNat * 256 + (UInt8.ofNat (a % 256)).toNat = a
  simp only [UInt8.toNat_ofNat']
  omega
theorem wOf_may {l : List Nat} (h1 : 1 ≤ l.length) (h8 : l.length ≤ 8) (h : ∀ a ∈ l, 0 < a ∧ a < 65536) : wordMay (wOf l) = true := by
  simp only [wordMay, decide_eq_true_eq, wOf_size]
  refine ⟨by omega, by omega, by omega, fun i hi => ?_⟩
  have hi' : i < l.length := by omega
  rw [wOf_at (fun a ha => (h a ha).2) hi']
  have := (h l[i] (List.getElem_mem hi')).1
  omega
theorem may_atoms {w : ByteArray} (hw : wordMay w = true) : ∀ a ∈ atomNs w, 0 < a ∧ a < 65536 := by
  intro a ha
  refine ⟨?_, atomNs_lt w a ha⟩
  simp only [atomNs, List.mem_map, List.mem_range] at ha
  obtain ⟨i, hi, rfl⟩ := ha
  simp only [wordMay, decide_eq_true_eq] at hw
  have := hw.2.2.2 i hi
  omega
def countsE (r : RlB) : Bool := wordMay r.1 && wordMay r.2 && decide (r.2.size ≤ r.1.size)
def swpL (w : ByteArray) (a n : Nat) (v : ByteArray) : List Nat := (atomNs w).take a ++ atomNs v ++ (atomNs w).drop (a + n)
def useR (r : RlB) (w : ByteArray) (a : Nat) : Option ByteArray :=
  if countsE r = true ∧ a + r.1.size / 2 ≤ w.size / 2 ∧ wOf (((atomNs w).drop a).take (r.1.size / 2)) = r.1 ∧ (swpL w a (r.1.size / 2) r.2).length ≤ 8 then some (wOf (swpL w a (r.1.size / 2) r.2)) else none
theorem then_left {r s : Rl} (t : Rl) (hr : r.length = 8) (hs : s.length = 8) (h : withinR r s = true) : withinR (thenR r t) (thenR s t) = true := by
  rw [within_iff] at h ⊢
  intro i hi k hk
  obtain ⟨j, hj, q1, q2⟩ := (bit_thenR hr t hi k).1 hk
  exact (bit_thenR hs t hi k).2 ⟨j, hj, h i hi j q1, q2⟩
theorem then_right {r s : Rl} (t : Rl) (ht : t.length = 8) (h : withinR r s = true) : withinR (thenR t r) (thenR t s) = true := by
  rw [within_iff] at h ⊢
  intro i hi k hk
  obtain ⟨j, hj, q1, q2⟩ := (bit_thenR ht r hi k).1 hk
  exact (bit_thenR ht s hi k).2 ⟨j, hj, q1, h j hj k q2⟩
theorem around_l' (l : List Row) (x : List Nat) {f t : ByteArray} (hf : wordMay f = true) (ht : wordMay t = true) (h : withinR (wordR l f) (wordR l t) = true) : withinR (wordR l (wOf x ++ f)) (wordR l (wOf x ++ t)) = true := by
  by_cases hx : x = []
  · subst hx
    have : wOf [] = ByteArray.empty := rfl
    rw [this, ByteArray.empty_append, ByteArray.empty_append]
    exact h
  · have h1 : 1 ≤ x.length := List.length_pos_iff.2 hx
    have hs := wOf_size x
    have hz := may_two hf
    have hz2 := may_two ht
    rw [wordR_app l _ _ (by omega) (by omega) hz.1 hz.2, wordR_app l _ _ (by omega) (by omega) hz2.1 hz2.2]
    exact then_right _ (wordR_length _ _) h
theorem around_r' (l : List Row) (y : List Nat) {f t : ByteArray} (hf : f.size % 2 = 0 ∧ 2 ≤ f.size) (ht : t.size % 2 = 0 ∧ 2 ≤ t.size) (h : withinR (wordR l f) (wordR l t) = true) : withinR (wordR l (f ++ wOf y)) (wordR l (t ++ wOf y)) = true := by
  by_cases hx : y = []
  · subst hx
    have : wOf [] = ByteArray.empty := rfl
    rw [this, ByteArray.append_empty, ByteArray.append_empty]
    exact h
  · have h1 : 1 ≤ y.length := List.length_pos_iff.2 hx
    have hs := wOf_size y
    rw [wordR_app l _ _ hf.1 hf.2 (by omega) (by omega), wordR_app l _ _ ht.1 ht.2 (by omega) (by omega)]
    exact then_left _ (wordR_length _ _) (wordR_length _ _) h
theorem use_good (l : List Row) {r : RlB} {w v : ByteArray} {a : Nat} (hw : wordMay w = true) (h : useR r w a = some v) : wordMay v = true ∧ v.size ≤ 16 ∧ (withinR (wordR l r.1) (wordR l r.2) = true → withinR (wordR l w) (wordR l v) = true) := by
  unfold useR at h
  split at h
  · next hc =>
    obtain ⟨c1, c2, c3, c4⟩ := hc
    injection h with h
    simp only [countsE, Bool.and_eq_true, decide_eq_true_eq] at c1
    obtain ⟨⟨m1, m2⟩, _⟩ := c1
    have z1 := may_two m1
    have z2 := may_two m2
    have hz := may_two hw
    have hl := atomNs_len w
    have hl2 := atomNs_len r.2
    have hsl : (swpL w a (r.1.size / 2) r.2).length ≤ 8 := c4
    have h1 : 1 ≤ (swpL w a (r.1.size / 2) r.2).length := by
      unfold swpL; rw [List.length_append, List.length_append, hl2]; omega
    have hm : wordMay v = true := by
      rw [← h]
      refine wOf_may h1 hsl fun x hx => ?_
      unfold swpL at hx
      rcases List.mem_append.1 hx with hx | hx
      · rcases List.mem_append.1 hx with hx | hx
        · exact may_atoms hw x (List.mem_of_mem_take hx)
        · exact may_atoms m2 x hx
      · exact may_atoms hw x (List.mem_of_mem_drop hx)
    refine ⟨hm, by rw [← h, wOf_size]; omega, fun hin => ?_⟩
    have ew : w = (wOf ((atomNs w).take a) ++ r.1) ++ wOf ((atomNs w).drop (a + r.1.size / 2)) := by
      conv => lhs; rw [← wOf_atoms hz.1]
      conv => lhs; rw [← List.take_append_drop a (atomNs w), ← List.take_append_drop (r.1.size / 2) ((atomNs w).drop a)]
      rw [wOf_app, wOf_app, c3, List.drop_drop, ByteArray.append_assoc]
    have ev : v = (wOf ((atomNs w).take a) ++ r.2) ++ wOf ((atomNs w).drop (a + r.1.size / 2)) := by
      rw [← h]
      unfold swpL
      rw [wOf_app, wOf_app, wOf_atoms z2.1]
    have hx := wOf_size ((atomNs w).take a)
    have k := around_l' l ((atomNs w).take a) m1 m2 hin
    have k2 := around_r' l ((atomNs w).drop (a + r.1.size / 2)) (f := wOf ((atomNs w).take a) ++ r.1) (t := wOf ((atomNs w).take a) ++ r.2) (by rw [ByteArray.size_append]; omega) (by rw [ByteArray.size_append]; omega) k
    rw [← ew, ← ev] at k2
    exact k2
  · cases h
def stepF (rules : List RlB) (bound : Nat) (v : ByteArray) (a k : Nat) (st : List ByteArray) : Option (List ByteArray) :=
  match useR (rules.getD k (⟨#[]⟩, ⟨#[]⟩)) v a with
  | none => some st
  | some u => if hasW st u = true then some st else if st.length = bound then none else some (st ++ [u])
def kLoop (rules : List RlB) (bound : Nat) (v : ByteArray) (a : Nat) : Nat → Nat → List ByteArray → Option (List ByteArray)
  | 0, _, st => some st
  | f + 1, k, st => (stepF rules bound v a k st).bind (kLoop rules bound v a f (k + 1))
def aLoop (rules : List RlB) (bound : Nat) (v : ByteArray) : Nat → Nat → List ByteArray → Option (List ByteArray)
  | 0, _, st => some st
  | f + 1, a, st => (kLoop rules bound v a rules.length 0 st).bind (aLoop rules bound v f (a + 1))
def iLoop (rules : List RlB) (bound : Nat) : Nat → Nat → List ByteArray → Option (List ByteArray)
  | 0, _, st => some st
  | f + 1, i, st => if i < st.length then (aLoop rules bound (st.getD i ⟨#[]⟩) ((st.getD i ⟨#[]⟩).size / 2) 0 st).bind (iLoop rules bound f (i + 1)) else some st
def findE (rules : List RlB) (w : ByteArray) (bound : Nat) : List ByteArray × Int :=
  if wordMay w = false then ([], 2) else if 400 < rules.length then ([], 3) else match iLoop rules bound (bound + 1) 0 [w] with
    | none => ([], 12)
    | some l => (l, 0)
def Led (l : List Row) (w : ByteArray) (st : List ByteArray) : Prop := ∀ v ∈ st, wordMay v = true ∧ v.size ≤ 16 ∧ withinR (wordR l w) (wordR l v) = true
def RulesIn (l : List Row) (rules : List RlB) : Prop := ∀ r ∈ rules, countsE r = true → withinR (wordR l r.1) (wordR l r.2) = true
theorem step_led {l : List Row} {rules : List RlB} (hr : RulesIn l rules) {bound : Nat} {w v : ByteArray} {a k : Nat} {st st' : List ByteArray} (hk : k < rules.length) (hv : wordMay v = true ∧ withinR (wordR l w) (wordR l v) = true) (hs : Led l w st) (h : stepF rules bound v a k st = some st') : Led l w st' := by
  unfold stepF at h
  have hmem : rules.getD k (⟨#[]⟩, ⟨#[]⟩) ∈ rules := by rw [List.getD_eq_getElem?_getD, List.getElem?_eq_getElem hk]; exact List.getElem_mem hk
  generalize rules.getD k (⟨#[]⟩, ⟨#[]⟩) = r at h hmem
  cases hu : useR r v a with
  | none => rw [hu] at h; injection h with h; rw [← h]; exact hs
  | some u =>
    rw [hu] at h
    simp only at h
    split at h
    · injection h with h; rw [← h]; exact hs
    · split at h
      · cases h
      · injection h with h
        rw [← h]
        intro x hx
        rcases List.mem_append.1 hx with hx | hx
        · exact hs x hx
        · simp only [List.mem_singleton] at hx
          subst hx
          obtain ⟨g1, g2, g3⟩ := use_good l hv.1 hu
          have hc : countsE r = true := by
            unfold useR at hu
            split at hu
            · next hc => exact hc.1
            · cases hu
          exact ⟨g1, g2, within_trans hv.2 (g3 (hr r hmem hc))⟩
theorem kLoop_led {l : List Row} {rules : List RlB} (hr : RulesIn l rules) {bound : Nat} {w v : ByteArray} {a : Nat} (hv : wordMay v = true ∧ withinR (wordR l w) (wordR l v) = true) : ∀ (f k : Nat) (st st' : List ByteArray), k + f ≤ rules.length → Led l w st → kLoop rules bound v a f k st = some st' → Led l w st'
  | 0, _, st, st', _, hs, h => by simp only [kLoop] at h; injection h with h; rw [← h]; exact hs
  | f + 1, k, st, st', hk, hs, h => by
    simp only [kLoop] at h
    cases h1 : stepF rules bound v a k st with
    | none => rw [h1] at h; cases h
    | some s1 =>
      rw [h1] at h
      exact kLoop_led hr hv f (k + 1) s1 st' (by omega) (step_led hr (by omega) hv hs h1) h
theorem aLoop_led {l : List Row} {rules : List RlB} (hr : RulesIn l rules) {bound : Nat} {w v : ByteArray} (hv : wordMay v = true ∧ withinR (wordR l w) (wordR l v) = true) : ∀ (f a : Nat) (st st' : List ByteArray), Led l w st → aLoop rules bound v f a st = some st' → Led l w st'
  | 0, _, st, st', hs, h => by simp only [aLoop] at h; injection h with h; rw [← h]; exact hs
  | f + 1, a, st, st', hs, h => by
    simp only [aLoop] at h
    cases h1 : kLoop rules bound v a rules.length 0 st with
    | none => rw [h1] at h; cases h
    | some s1 =>
      rw [h1] at h
      exact aLoop_led hr hv f (a + 1) s1 st' (kLoop_led hr hv _ _ _ _ (by omega) hs h1) h
theorem iLoop_led {l : List Row} {rules : List RlB} (hr : RulesIn l rules) {bound : Nat} {w : ByteArray} : ∀ (f i : Nat) (st st' : List ByteArray), Led l w st → iLoop rules bound f i st = some st' → Led l w st'
  | 0, _, st, st', hs, h => by simp only [iLoop] at h; injection h with h; rw [← h]; exact hs
  | f + 1, i, st, st', hs, h => by
    simp only [iLoop] at h
    split at h
    · next hi =>
      have hmem : st.getD i ⟨#[]⟩ ∈ st := by rw [List.getD_eq_getElem?_getD, List.getElem?_eq_getElem hi]; exact List.getElem_mem hi
      have hv := hs _ hmem
      cases h1 : aLoop rules bound (st.getD i ⟨#[]⟩) ((st.getD i ⟨#[]⟩).size / 2) 0 st with
      | none => rw [h1] at h; cases h
      | some s1 =>
        rw [h1] at h
        exact iLoop_led hr f (i + 1) s1 st' (aLoop_led hr ⟨hv.1, hv.2.2⟩ _ _ _ _ hs h1) h
    · injection h with h; rw [← h]; exact hs
theorem find_led {l : List Row} {rules : List RlB} (hr : RulesIn l rules) {bound : Nat} {w : ByteArray} : Led l w (findE rules w bound).1 := by
  unfold findE
  split
  · intro v hv; simp at hv
  · next hw =>
    split
    · intro v hv; simp at hv
    · cases h : iLoop rules bound (bound + 1) 0 [w] with
      | none => intro v hv; simp at hv
      | some s =>
        have hw : wordMay w = true := by simpa using hw
        refine iLoop_led hr _ _ _ _ ?_ h
        intro v hv
        simp only [List.mem_singleton] at hv
        subst hv
        have := wordMay_size hw
        exact ⟨hw, by omega, within_self _⟩
def backW (rules : List RlB) (signer : Nat) (bound : Nat) : List ByteArray → Bool × Int
  | [] => (true, 0)
  | x :: l => if (findE rules x bound).2 ≠ 0 then (false, (findE rules x bound).2) else if hasW (findE rules x bound).1 (atomW signer) = true then backW rules signer bound l else (false, 0)
def backE (rules : List RlB) (c : Crt) (bound : Nat) : Bool × Int := if checkE c ≠ 0 then (false, 2) else backW rules c.signer bound c.words
theorem backW_led {l : List Row} {rules : List RlB} (hr : RulesIn l rules) {s : Nat} {bound : Nat} : ∀ ws : List ByteArray, (backW rules s bound ws).1 = true → ∀ x ∈ ws, withinR (wordR l x) (wordR l (atomW s)) = true
  | [], _, x, hx => by simp at hx
  | y :: ws, h, x, hx => by
    simp only [backW] at h
    split at h
    · cases h
    · split at h
      · next hm =>
        rcases List.mem_cons.1 hx with rfl | hx
        · exact (find_led hr _ (hasW_iff.1 hm)).2.2
        · exact backW_led hr ws h x hx
      · cases h
def rulesC (c : Crt) : List RlB := c.words.map fun w => (w, c.speaker)
abbrev AccR := List Nat × List RlB
def roundE (certs : List Crt) (bound : Nat) : Nat → Nat → AccR → AccR × Int
  | 0, _, s => (s, 0)
  | f + 1, i, s => if i ∈ s.1 then roundE certs bound f (i + 1) s else
    match certs[i]? with
    | none => (s, 0)
    | some c => if (backE s.2 c bound).2 ≠ 0 then (([], []), (backE s.2 c bound).2) else if (backE s.2 c bound).1 = true then roundE certs bound f (i + 1) (s.1 ++ [i], s.2 ++ rulesC c) else roundE certs bound f (i + 1) s
def runF (certs : List Crt) (bound : Nat) : Nat → AccR → AccR × Int
  | 0, s => (s, 0)
  | f + 1, s => if (roundE certs bound certs.length 0 s).2 ≠ 0 then (([], []), (roundE certs bound certs.length 0 s).2) else if (roundE certs bound certs.length 0 s).1.1.length = s.1.length then ((roundE certs bound certs.length 0 s).1, 0) else runF certs bound f (roundE certs bound certs.length 0 s).1
end Go.Proofs.Ytlfnepcglnjogaa

/- Reach: steps: the document's Sub, Swap, Counts, Use, Place. -/
-- fast
namespace Go.Proofs.Ytlfnepcglnjogaa
set_option linter.unusedSimpArgs false
set_option linter.unusedVariables false
open Go.RowKit Go.Lib

theorem eqT {p : Prop} (h : p) : p = True := propext ⟨fun _ => trivial, fun _ => h⟩
theorem eqF {p : Prop} (h : ¬ p) : p = False := propext ⟨fun x => h x, fun x => x.elim⟩
def rulB (l : List RlB) : List AV := l.flatMap fun r => [.str r.1, .str r.2]
theorem rulB_len (l : List RlB) : (rulB l).length = l.length * 2 := by
  induction l with
  | nil => rfl
  | cons r l ih =>
    have : rulB (r :: l) = [.str r.1, .str r.2] ++ rulB l := rfl
    rw [this, List.length_append, ih, List.length_cons]
    simp; omega
theorem frees_rulB (l : List RlB) : free.frees (rulB l) = true := by
  unfold rulB
  induction l with
  | nil => rfl
  | cons w l ih => simp only [List.flatMap_cons, List.cons_append, List.nil_append, free.frees, free, Bool.true_and, ih]
theorem rulB_drop : ∀ {l : List RlB} {i : Nat} (h : i < l.length), (rulB l).drop (i * 2) = .str l[i].1 :: .str l[i].2 :: rulB (l.drop (i + 1))
  | x :: l, 0, _ => rfl
  | x :: l, i + 1, h => by
    have := rulB_drop (l := l) (i := i) (by simpa using h)
    simp only [rulB, List.flatMap_cons] at this ⊢
    rw [show (i + 1) * 2 = 2 + i * 2 by omega, ← List.drop_drop]
    exact this
theorem rulB_app (a b : List RlB) : rulB (a ++ b) = rulB a ++ rulB b := by simp [rulB]
theorem rulB_cert (c : Crt) : rulesL c c.words = rulB (rulesC c) := by
  unfold rulesL rulB rulesC
  rw [List.flatMap_map]
def vRul (l : List RlB) : AV := .lst .ro l.length (rulB l)
def subV (w : ByteArray) (a n : Nat) : AV := if a + n ≤ w.size / 2 then .tup [.str (wOf (((atomNs w).drop a).take n)), .int .i64 0] else .tup [.str ⟨#[]⟩, .int .i64 5]
theorem u16_take (l : List Nat) (n : Nat) : (u16s l).take n = u16s (l.take n) := by simp [u16s]
theorem u16_drop (l : List Nat) (n : Nat) : (u16s l).drop n = u16s (l.drop n) := by simp [u16s]
set_option maxRecDepth 100000 in
set_option maxHeartbeats 4000000 in
theorem p_rsub (w : ByteArray) (hw : wordMay w = true) (a n : Nat) (ha : a ≤ 1000000) (hn : n ≤ 1000000) : PCalls Try.prog 70 [.str w, .int .i64 a, .int .i64 n] (subV w a n) := by
  have hz := wordMay_size hw
  have hl := atomNs_len w
  have q1 := p_ratoms w (by omega)
  rw [atomsL_eq] at q1
  refine pcalls_of rfl (by unfold subV; split <;> rfl) (acalls_of mixed J_ref02_Sub_ok (Nat.le_of_ble_eq_true rfl) ?_); simp only [J_ref02_Sub, wk,if_true,if_false,forall_const,implies_true,ne_eq,eq_self,Nat.reduceEqDiff,Nat.reduceAdd,Nat.reduceMul,Nat.reduceSub,Nat.reduceLeDiff,Nat.reduceLT,Int.reduceEq,Int.reduceLT,Int.reduceLE,Int.reduceAdd,Int.reduceSub,Int.reduceMul,Int.reduceNeg,Int.reduceNe,reduceCtorEq,Int.reduceToNat,↓reduceIte]
  have hm : ((w.size : Int).tmod 2 = 1) = False := eqF (by rw [Int.tmod_eq_emod_of_nonneg (by omega)]; omega)
  have f1 : ((a : Int) < 0) = False := eqF (by omega)
  have f2 : ((n : Int) < 0) = False := eqF (by omega)
  simp only [wk,if_true,if_false,forall_const,implies_true,ne_eq,eq_self,Nat.reduceEqDiff,Nat.reduceAdd,Nat.reduceMul,Nat.reduceSub,Nat.reduceLeDiff,Nat.reduceLT,Int.reduceEq,Int.reduceLT,Int.reduceLE,Int.reduceAdd,Int.reduceSub,Int.reduceMul,Int.reduceNeg,Int.reduceNe,reduceCtorEq,Int.reduceToNat,↓reduceIte, hm, f1, f2]
  refine PCalls.use q1 ?_
  simp only [wk,if_true,if_false,forall_const,implies_true,ne_eq,eq_self,Nat.reduceEqDiff,Nat.reduceAdd,Nat.reduceMul,Nat.reduceSub,Nat.reduceLeDiff,Nat.reduceLT,Int.reduceEq,Int.reduceLT,Int.reduceLE,Int.reduceAdd,Int.reduceSub,Int.reduceMul,Int.reduceNeg,Int.reduceNe,reduceCtorEq,Int.reduceToNat,↓reduceIte, f1, f2]
  refine ⟨fun h1 => ⟨inR_of (by omega) (by omega), fun h2 => ?_, fun h2 => ?_⟩, fun h1 => ?_⟩
  · unfold subV; rw [if_neg (by omega)]
  · have e1 : ((a : Int) + (n : Int)).toNat - (a : Int).toNat = n := by omega
    have e2 : (a : Int).toNat = a := by omega
    have hlen : (((atomNs w).drop a).take n).length = n := by rw [List.length_take, List.length_drop]; omega
    have q := p_rof (((atomNs w).drop a).take n) (by omega) (fun x hx => atomNs_lt w x (List.mem_of_mem_drop (List.mem_of_mem_take hx)))
    rw [hlen] at q
    rw [e1, e2, u16_drop, u16_take]
    refine ⟨inR_of (by omega) (by omega), ⟨by omega, by omega, by omega, by simp [hl]⟩, ?_⟩
    refine PCalls.use (q) ?_; simp only [wk,if_true,if_false,forall_const,implies_true,ne_eq,eq_self,Nat.reduceEqDiff,Nat.reduceAdd,Nat.reduceMul,Nat.reduceSub,Nat.reduceLeDiff,Nat.reduceLT,Int.reduceEq,Int.reduceLT,Int.reduceLE,Int.reduceAdd,Int.reduceSub,Int.reduceMul,Int.reduceNeg,Int.reduceNe,reduceCtorEq,Int.reduceToNat,↓reduceIte]
    unfold subV; rw [if_pos (by omega)]
    rfl
  · unfold subV; rw [if_neg (by omega)]
def swpV (w : ByteArray) (a n : Nat) (v : ByteArray) : AV := if a + n ≤ w.size / 2 then (if (swpL w a n v).length ≤ 8 then .tup [.str (wOf (swpL w a n v)), .int .i64 0] else .tup [.str ⟨#[]⟩, .int .i64 4]) else .tup [.str ⟨#[]⟩, .int .i64 5]
set_option maxRecDepth 100000 in
set_option maxHeartbeats 4000000 in
theorem p_rswap (w v : ByteArray) (hw : wordMay w = true) (hv : wordMay v = true) (a n : Nat) (ha : a ≤ 1000000) (hn : n ≤ 1000000) : PCalls Try.prog 71 [.str w, .int .i64 a, .int .i64 n, .str v] (swpV w a n v) := by
  have hz := wordMay_size hw
  have hl := atomNs_len w
  have hzv := wordMay_size hv
  have hlv := atomNs_len v
  have q1 := p_ratoms w (by omega)
  have q2 := p_ratoms v (by omega)
  have q3 := p_rsub w hw a n ha hn
  rw [atomsL_eq] at q1 q2
  unfold subV at q3
  refine pcalls_of rfl (by unfold swpV; split; split <;> rfl; rfl) (acalls_of mixed J_ref02_Swap_ok (Nat.le_of_ble_eq_true rfl) ?_); simp only [J_ref02_Swap, wk,if_true,if_false,forall_const,implies_true,ne_eq,eq_self,Nat.reduceEqDiff,Nat.reduceAdd,Nat.reduceMul,Nat.reduceSub,Nat.reduceLeDiff,Nat.reduceLT,Int.reduceEq,Int.reduceLT,Int.reduceLE,Int.reduceAdd,Int.reduceSub,Int.reduceMul,Int.reduceNeg,Int.reduceNe,reduceCtorEq,Int.reduceToNat,↓reduceIte]
  have hm : ((w.size : Int).tmod 2 = 1) = False := eqF (by rw [Int.tmod_eq_emod_of_nonneg (by omega)]; omega)
  have hm2 : ((v.size : Int).tmod 2 = 1) = False := eqF (by rw [Int.tmod_eq_emod_of_nonneg (by omega)]; omega)
  simp only [wk,if_true,if_false,forall_const,implies_true,ne_eq,eq_self,Nat.reduceEqDiff,Nat.reduceAdd,Nat.reduceMul,Nat.reduceSub,Nat.reduceLeDiff,Nat.reduceLT,Int.reduceEq,Int.reduceLT,Int.reduceLE,Int.reduceAdd,Int.reduceSub,Int.reduceMul,Int.reduceNeg,Int.reduceNe,reduceCtorEq,Int.reduceToNat,↓reduceIte, hm, hm2]
  by_cases h1 : a + n ≤ w.size / 2
  · rw [if_pos h1] at q3
    unfold swpV
    rw [if_pos h1]
    refine PCalls.use (q3) ?_; simp only [wk,if_true,if_false,forall_const,implies_true,ne_eq,eq_self,Nat.reduceEqDiff,Nat.reduceAdd,Nat.reduceMul,Nat.reduceSub,Nat.reduceLeDiff,Nat.reduceLT,Int.reduceEq,Int.reduceLT,Int.reduceLE,Int.reduceAdd,Int.reduceSub,Int.reduceMul,Int.reduceNeg,Int.reduceNe,reduceCtorEq,Int.reduceToNat,↓reduceIte]
    refine PCalls.use (q1) ?_; simp only [wk,if_true,if_false,forall_const,implies_true,ne_eq,eq_self,Nat.reduceEqDiff,Nat.reduceAdd,Nat.reduceMul,Nat.reduceSub,Nat.reduceLeDiff,Nat.reduceLT,Int.reduceEq,Int.reduceLT,Int.reduceLE,Int.reduceAdd,Int.reduceSub,Int.reduceMul,Int.reduceNeg,Int.reduceNe,reduceCtorEq,Int.reduceToNat,↓reduceIte]
    have hla : ((atomNs w).take a).length = a := by rw [List.length_take]; omega
    rw [show (a : Int).toNat - 0 = a by omega, u16_take]
    refine ⟨⟨by omega, by omega, by simp [hl]⟩, ⟨by rw [List.length_map, hla], by omega, by omega⟩, ?_⟩
    refine PCalls.use (q2) ?_; simp only [wk,if_true,if_false,forall_const,implies_true,ne_eq,eq_self,Nat.reduceEqDiff,Nat.reduceAdd,Nat.reduceMul,Nat.reduceSub,Nat.reduceLeDiff,Nat.reduceLT,Int.reduceEq,Int.reduceLT,Int.reduceLE,Int.reduceAdd,Int.reduceSub,Int.reduceMul,Int.reduceNeg,Int.reduceNe,reduceCtorEq,Int.reduceToNat,↓reduceIte]
    have e4 : ((w.size / 2 : Nat) : Int).toNat - ((a : Int) + (n : Int)).toNat = w.size / 2 - (a + n) := by omega
    have e5 : ((a : Int) + (n : Int)).toNat = a + n := by omega
    have hd : ((atomNs w).drop (a + n)).length = w.size / 2 - (a + n) := by rw [List.length_drop]; omega
    have hs : (swpL w a n v).length = a + v.size / 2 + (w.size / 2 - (a + n)) := by
      unfold swpL; rw [List.length_append, List.length_append, hla, hlv, hd]
    have q4 := fun h => p_rof (swpL w a n v) h (fun x hx => by
      unfold swpL at hx
      rcases List.mem_append.1 hx with hx | hx
      · rcases List.mem_append.1 hx with hx | hx
        · exact atomNs_lt w x (List.mem_of_mem_take hx)
        · exact atomNs_lt v x hx
      · exact atomNs_lt w x (List.mem_of_mem_drop hx))
    rw [e4, e5, u16_drop, u16_take, List.take_of_length_le (by omega)]
    have e6 : u16s ((atomNs w).take a) ++ u16s (atomNs v) ++ u16s ((atomNs w).drop (a + n)) = u16s (swpL w a n v) := by simp [swpL, u16s]
    rw [e6, ← hs]
    refine ⟨⟨by simp [hlv], by omega, by omega⟩, inR_of (by omega) (by omega), ⟨by omega, by omega, by omega, by simp [hl]⟩, ⟨by rw [List.length_map, hd], by omega, by omega⟩, fun h8 => ?_, fun h8 => ?_⟩
    · rw [if_neg (by omega)]
    · refine PCalls.use (q4 (by omega)) ?_; simp only [wk,if_true,if_false,forall_const,implies_true,ne_eq,eq_self,Nat.reduceEqDiff,Nat.reduceAdd,Nat.reduceMul,Nat.reduceSub,Nat.reduceLeDiff,Nat.reduceLT,Int.reduceEq,Int.reduceLT,Int.reduceLE,Int.reduceAdd,Int.reduceSub,Int.reduceMul,Int.reduceNeg,Int.reduceNe,reduceCtorEq,Int.reduceToNat,↓reduceIte]
      rw [if_pos (by omega)]
      rfl
  · rw [if_neg h1] at q3
    unfold swpV
    rw [if_neg h1]
    refine PCalls.use (q3) ?_; simp only [wk,if_true,if_false,forall_const,implies_true,ne_eq,eq_self,Nat.reduceEqDiff,Nat.reduceAdd,Nat.reduceMul,Nat.reduceSub,Nat.reduceLeDiff,Nat.reduceLT,Int.reduceEq,Int.reduceLT,Int.reduceLE,Int.reduceAdd,Int.reduceSub,Int.reduceMul,Int.reduceNeg,Int.reduceNe,reduceCtorEq,Int.reduceToNat,↓reduceIte]
theorem p_rcounts (r : RlB) (h1 : r.1.size ≤ 1000000) (h2 : r.2.size ≤ 1000000) : PCalls Try.prog 18 [.agg [.str r.1, .str r.2]] (.bool (countsE r)) := by
  have q1 := p_rwmay r.1 (by omega)
  have q2 := p_rwmay r.2 (by omega)
  refine pcalls_of rfl rfl (acalls_of mixed J_ref11_Counts_ok (Nat.le_of_ble_eq_true rfl) ?_); simp only [J_ref11_Counts, wk,if_true,if_false,forall_const,implies_true,ne_eq,eq_self,Nat.reduceEqDiff,Nat.reduceAdd,Nat.reduceMul,Nat.reduceSub,Nat.reduceLeDiff,Nat.reduceLT,Int.reduceEq,Int.reduceLT,Int.reduceLE,Int.reduceAdd,Int.reduceSub,Int.reduceMul,Int.reduceNeg,Int.reduceNe,reduceCtorEq,Int.reduceToNat,↓reduceIte]
  refine PCalls.use (q1) ?_; simp only [wk,if_true,if_false,forall_const,implies_true,ne_eq,eq_self,Nat.reduceEqDiff,Nat.reduceAdd,Nat.reduceMul,Nat.reduceSub,Nat.reduceLeDiff,Nat.reduceLT,Int.reduceEq,Int.reduceLT,Int.reduceLE,Int.reduceAdd,Int.reduceSub,Int.reduceMul,Int.reduceNeg,Int.reduceNe,reduceCtorEq,Int.reduceToNat,↓reduceIte]
  refine ⟨fun e1 => ?_, fun e1 => ?_⟩
  · refine PCalls.use (q2) ?_; simp only [wk,if_true,if_false,forall_const,implies_true,ne_eq,eq_self,Nat.reduceEqDiff,Nat.reduceAdd,Nat.reduceMul,Nat.reduceSub,Nat.reduceLeDiff,Nat.reduceLT,Int.reduceEq,Int.reduceLT,Int.reduceLE,Int.reduceAdd,Int.reduceSub,Int.reduceMul,Int.reduceNeg,Int.reduceNe,reduceCtorEq,Int.reduceToNat,↓reduceIte]
    refine ⟨fun e2 => ?_, fun e2 => ?_⟩
    · unfold countsE; rw [e1, e2]
      congr 1
      rw [Bool.eq_iff_iff]; simp
    · simp [countsE, e2]
  · simp [countsE, e1]
def useV (o : Option ByteArray) : AV := match o with
  | none => .tup [.str ⟨#[]⟩, .bool false]
  | some v => .tup [.str v, .bool true]
def smallR (rules : List RlB) : Prop := rules.length ≤ 1000000 ∧ ∀ r ∈ rules, r.1.size ≤ 1000000 ∧ r.2.size ≤ 1000000
set_option maxRecDepth 100000 in
set_option maxHeartbeats 4000000 in
theorem p_ruse (rules : List RlB) (hr : smallR rules) (w : ByteArray) (hw : wordMay w = true) (a k : Nat) (ha : a ≤ 1000000) (hk : k < rules.length) : PCalls Try.prog 62 [vRul rules, .str w, .agg [.int .i64 a, .int .i64 k]] (useV (useR (rules.getD k (⟨#[]⟩, ⟨#[]⟩)) w a)) := by
  have hg : rules.getD k (⟨#[]⟩, ⟨#[]⟩) = rules[k] := by rw [List.getD_eq_getElem?_getD, List.getElem?_eq_getElem hk]; rfl
  have hsm := hr.2 _ (List.getElem_mem hk)
  have hlr := hr.1
  have hd : (rulB rules).drop ((k : Int).toNat * 2) = _ := rulB_drop hk
  rw [hg]
  generalize rules[k] = r at hsm hd
  have q1 := p_rcounts r hsm.1 hsm.2
  have hz := wordMay_size hw
  refine pcalls_of (by simp [vRul, free, free.frees, frees_rulB]) (by unfold useV; split <;> rfl) (acalls_of mixed J_ref11_Use_ok (Nat.le_of_ble_eq_true rfl) ?_); simp only [J_ref11_Use, vRul, wk,if_true,if_false,forall_const,implies_true,ne_eq,eq_self,Nat.reduceEqDiff,Nat.reduceAdd,Nat.reduceMul,Nat.reduceSub,Nat.reduceLeDiff,Nat.reduceLT,Int.reduceEq,Int.reduceLT,Int.reduceLE,Int.reduceAdd,Int.reduceSub,Int.reduceMul,Int.reduceNeg,Int.reduceNe,reduceCtorEq,Int.reduceToNat,↓reduceIte]
  have f1 : ((k : Int) < 0) = False := eqF (by omega)
  have f2 : ((rules.length : Int) ≤ (k : Int)) = False := eqF (by omega)
  have f3 : (0 ≤ (k : Int)) = True := eqT (by omega)
  have f4 : ((k : Int) < (rules.length : Int)) = True := eqT (by omega)
  have hq : ((r.1.size : Nat) : Int).tdiv 2 = ((r.1.size / 2 : Nat) : Int) := by rw [Int.tdiv_eq_ediv_of_nonneg (by omega)]; omega
  simp only [wk,if_true,if_false,forall_const,implies_true,ne_eq,eq_self,Nat.reduceEqDiff,Nat.reduceAdd,Nat.reduceMul,Nat.reduceSub,Nat.reduceLeDiff,Nat.reduceLT,Int.reduceEq,Int.reduceLT,Int.reduceLE,Int.reduceAdd,Int.reduceSub,Int.reduceMul,Int.reduceNeg,Int.reduceNe,reduceCtorEq,Int.reduceToNat,↓reduceIte, f1, f2, f3, f4, hd]
  cases hc : countsE r with
  | false =>
    rw [hc] at q1
    have hu : useR r w a = none := by unfold useR; rw [if_neg (by rw [hc]; simp)]
    rw [hu]
    refine PCalls.use (q1) ?_; simp only [wk,if_true,if_false,forall_const,implies_true,ne_eq,eq_self,Nat.reduceEqDiff,Nat.reduceAdd,Nat.reduceMul,Nat.reduceSub,Nat.reduceLeDiff,Nat.reduceLT,Int.reduceEq,Int.reduceLT,Int.reduceLE,Int.reduceAdd,Int.reduceSub,Int.reduceMul,Int.reduceNeg,Int.reduceNe,reduceCtorEq,Int.reduceToNat,↓reduceIte]
    rfl
  | true =>
    rw [hc] at q1
    have hm2 : wordMay r.2 = true := by
      simp only [countsE, Bool.and_eq_true] at hc; exact hc.1.2
    have q2 := p_rsub w hw a (r.1.size / 2) ha (by omega)
    have q3 := p_rswap w r.2 hw hm2 a (r.1.size / 2) ha (by omega)
    unfold subV at q2
    unfold swpV at q3
    refine PCalls.use q1 ?_
    simp only [wk,if_true,if_false,forall_const,implies_true,ne_eq,eq_self,Nat.reduceEqDiff,Nat.reduceAdd,Nat.reduceMul,Nat.reduceSub,Nat.reduceLeDiff,Nat.reduceLT,Int.reduceEq,Int.reduceLT,Int.reduceLE,Int.reduceAdd,Int.reduceSub,Int.reduceMul,Int.reduceNeg,Int.reduceNe,reduceCtorEq,Int.reduceToNat,↓reduceIte, f3, f4, hd, hq]
    refine ⟨inR_of (by omega) (by omega), ?_⟩
    by_cases h1 : a + r.1.size / 2 ≤ w.size / 2
    · rw [if_pos h1] at q2 q3
      refine PCalls.use (q2) ?_; simp only [wk,if_true,if_false,forall_const,implies_true,ne_eq,eq_self,Nat.reduceEqDiff,Nat.reduceAdd,Nat.reduceMul,Nat.reduceSub,Nat.reduceLeDiff,Nat.reduceLT,Int.reduceEq,Int.reduceLT,Int.reduceLE,Int.reduceAdd,Int.reduceSub,Int.reduceMul,Int.reduceNeg,Int.reduceNe,reduceCtorEq,Int.reduceToNat,↓reduceIte]
      by_cases h2 : wOf (((atomNs w).drop a).take (r.1.size / 2)) = r.1
      · have e2 : (wOf (((atomNs w).drop a).take (r.1.size / 2)) = r.1) = True := eqT h2
        simp only [wk,if_true,if_false,forall_const,implies_true,ne_eq,eq_self,Nat.reduceEqDiff,Nat.reduceAdd,Nat.reduceMul,Nat.reduceSub,Nat.reduceLeDiff,Nat.reduceLT,Int.reduceEq,Int.reduceLT,Int.reduceLE,Int.reduceAdd,Int.reduceSub,Int.reduceMul,Int.reduceNeg,Int.reduceNe,reduceCtorEq,Int.reduceToNat,↓reduceIte, e2]
        by_cases h3 : (swpL w a (r.1.size / 2) r.2).length ≤ 8
        · rw [if_pos h3] at q3
          have hu : useR r w a = some (wOf (swpL w a (r.1.size / 2) r.2)) := by unfold useR; rw [if_pos ⟨hc, h1, h2, h3⟩]
          rw [hu]
          refine PCalls.use (q3) ?_; simp only [wk,if_true,if_false,forall_const,implies_true,ne_eq,eq_self,Nat.reduceEqDiff,Nat.reduceAdd,Nat.reduceMul,Nat.reduceSub,Nat.reduceLeDiff,Nat.reduceLT,Int.reduceEq,Int.reduceLT,Int.reduceLE,Int.reduceAdd,Int.reduceSub,Int.reduceMul,Int.reduceNeg,Int.reduceNe,reduceCtorEq,Int.reduceToNat,↓reduceIte]
          rfl
        · rw [if_neg h3] at q3
          have hu : useR r w a = none := by unfold useR; rw [if_neg (fun h => h3 h.2.2.2)]
          rw [hu]
          refine PCalls.use (q3) ?_; simp only [wk,if_true,if_false,forall_const,implies_true,ne_eq,eq_self,Nat.reduceEqDiff,Nat.reduceAdd,Nat.reduceMul,Nat.reduceSub,Nat.reduceLeDiff,Nat.reduceLT,Int.reduceEq,Int.reduceLT,Int.reduceLE,Int.reduceAdd,Int.reduceSub,Int.reduceMul,Int.reduceNeg,Int.reduceNe,reduceCtorEq,Int.reduceToNat,↓reduceIte]
          rfl
      · have e2 : (wOf (((atomNs w).drop a).take (r.1.size / 2)) = r.1) = False := eqF h2
        have hu : useR r w a = none := by unfold useR; rw [if_neg (fun h => h2 h.2.2.1)]
        rw [hu]
        simp only [wk,if_true,if_false,forall_const,implies_true,ne_eq,eq_self,Nat.reduceEqDiff,Nat.reduceAdd,Nat.reduceMul,Nat.reduceSub,Nat.reduceLeDiff,Nat.reduceLT,Int.reduceEq,Int.reduceLT,Int.reduceLE,Int.reduceAdd,Int.reduceSub,Int.reduceMul,Int.reduceNeg,Int.reduceNe,reduceCtorEq,Int.reduceToNat,↓reduceIte, e2]
        rfl
    · rw [if_neg h1] at q2
      have hu : useR r w a = none := by unfold useR; rw [if_neg (fun h => h1 h.2.1)]
      rw [hu]
      refine PCalls.use (q2) ?_; simp only [wk,if_true,if_false,forall_const,implies_true,ne_eq,eq_self,Nat.reduceEqDiff,Nat.reduceAdd,Nat.reduceMul,Nat.reduceSub,Nat.reduceLeDiff,Nat.reduceLT,Int.reduceEq,Int.reduceLT,Int.reduceLE,Int.reduceAdd,Int.reduceSub,Int.reduceMul,Int.reduceNeg,Int.reduceNe,reduceCtorEq,Int.reduceToNat,↓reduceIte]
      rfl
theorem a_place (h : Hp) (id : Nat) (L : List ByteArray) (c1 c2 : AV) (w : ByteArray) (hh : h[id]? = some (some (false, [.lst (.own 27) L.length (L.map .str), c1, c2]))) (hl : L.length ≤ 1000000) : ACalls Try.prog 63 [.ptr id 0, .str w] h (fun a h' => (∃ z : Int, a = .int .i64 z ∧ ((0 ≤ z) = (hasW L w = true))) ∧ h = h') := by
  refine acalls_of mixed J_ref11_Row_Place_ok (Nat.le_of_ble_eq_true rfl) ?_; simp only [J_ref11_Row_Place, wk,if_true,if_false,forall_const,implies_true,ne_eq,eq_self,Nat.reduceEqDiff,Nat.reduceAdd,Nat.reduceMul,Nat.reduceSub,Nat.reduceLeDiff,Nat.reduceLT,Int.reduceEq,Int.reduceLT,Int.reduceLE,Int.reduceAdd,Int.reduceSub,Int.reduceMul,Int.reduceNeg,Int.reduceNe,reduceCtorEq,Int.reduceToNat,↓reduceIte]
  refine W_loop (fun n fr h' => ∃ i : Nat, i ≤ L.length ∧ n = L.length - i ∧ (∀ x ∈ L.take i, x ≠ w) ∧ fr = [(0, .ptr id 0), (1, .str w), (5, .int .i64 i)] ∧ h' = h) L.length ⟨0, by omega, by omega, by simp, rfl, rfl⟩ ?_
  rintro n fr h' ⟨i, hi, rfl, hall, rfl, rfl⟩
  simp only [J_ref11_Row_Place_j2, hh, wk,if_true,if_false,forall_const,implies_true,ne_eq,eq_self,Nat.reduceEqDiff,Nat.reduceAdd,Nat.reduceMul,Nat.reduceSub,Nat.reduceLeDiff,Nat.reduceLT,Int.reduceEq,Int.reduceLT,Int.reduceLE,Int.reduceAdd,Int.reduceSub,Int.reduceMul,Int.reduceNeg,Int.reduceNe,reduceCtorEq,Int.reduceToNat,↓reduceIte]
  refine ⟨fun hlt => ?_, fun hge => ?_⟩
  · have hil : i < L.length := by omega
    have hd : (L.map AV.str).drop (i : Int).toNat = .str L[i] :: (L.map AV.str).drop (i + 1) := by rw [Int.toNat_natCast, drop_str hil]
    refine ⟨⟨by omega, by omega⟩, ?_⟩
    simp only [wk,if_true,if_false,forall_const,implies_true,ne_eq,eq_self,Nat.reduceEqDiff,Nat.reduceAdd,Nat.reduceMul,Nat.reduceSub,Nat.reduceLeDiff,Nat.reduceLT,Int.reduceEq,Int.reduceLT,Int.reduceLE,Int.reduceAdd,Int.reduceSub,Int.reduceMul,Int.reduceNeg,Int.reduceNe,reduceCtorEq,Int.reduceToNat,↓reduceIte, hd, hh]
    refine ⟨fun he => ?_, fun he => ⟨inR_of (by omega) (by omega), L.length - (i + 1), by omega, i + 1, by omega, rfl, ?_, rfl⟩⟩
    · refine ⟨(i : Int), rfl, ?_⟩
      rw [eqT (show (0 : Int) ≤ (i : Int) by omega), eqT (hasW_iff.2 (he ▸ List.getElem_mem hil))]
    · intro x hx
      rw [List.take_succ_eq_append_getElem hil] at hx
      rcases List.mem_append.1 hx with hx | hx
      · exact hall x hx
      · simp only [List.mem_singleton] at hx; subst hx; exact he
  · rw [List.take_of_length_le (by omega)] at hall
    simp only [J_ref11_Row_Place_j1, wk,if_true,if_false,forall_const,implies_true,ne_eq,eq_self,Nat.reduceEqDiff,Nat.reduceAdd,Nat.reduceMul,Nat.reduceSub,Nat.reduceLeDiff,Nat.reduceLT,Int.reduceEq,Int.reduceLT,Int.reduceLE,Int.reduceAdd,Int.reduceSub,Int.reduceMul,Int.reduceNeg,Int.reduceNe,reduceCtorEq,Int.reduceToNat,↓reduceIte]
    refine ⟨-1, rfl, ?_⟩
    rw [eqF (show ¬ (0 : Int) ≤ -1 by omega), eqF (fun h => hall w (hasW_iff.1 h) rfl)]
end Go.Proofs.Ytlfnepcglnjogaa

/- Reach: what a word reaches (the document's Find), over the abstract code. -/
-- fast
namespace Go.Proofs.Ytlfnepcglnjogaa
set_option linter.unusedSimpArgs false
set_option linter.unusedVariables false
open Go.RowKit Go.Lib

def rowF (st : List ByteArray) (is sp : List AV) : Option (Bool × List AV) := some (false, [.lst (.own 27) st.length (st.map .str), .lst (.own 3) st.length is, .lst (.own 116) st.length sp])
def FindP (rules : List RlB) (w : ByteArray) (bound : Nat) (a : AV) (h' : Hp) : Prop :=
  if (findE rules w bound).2 = 0 then ∃ is sp ex, (findE rules w bound).1.length ≤ bound ∧ a = .tup [.ptr 0 0, .int .i64 0] ∧ h' = rowF (findE rules w bound).1 is sp :: ex else a = .tup [.nilp, .int .i64 (findE rules w bound).2]
theorem find_ok {rules : List RlB} {w : ByteArray} {bound : Nat} (hm : wordMay w = true) (h4 : ¬ 400 < rules.length) {st : List ByteArray} (hT : iLoop rules bound (bound + 1) 0 [w] = some st) (hl : st.length ≤ bound) (is sp : List AV) (ex : Hp) : FindP rules w bound (.tup [.ptr 0 0, .int .i64 0]) (rowF st is sp :: ex) := by
  have : findE rules w bound = (st, 0) := by simp only [findE, hm, hT]; rw [if_neg (by simp), if_neg h4]
  unfold FindP
  rw [this]
  exact ⟨is, sp, ex, hl, rfl, rfl⟩
theorem find_no {rules : List RlB} {w : ByteArray} {bound : Nat} (hm : wordMay w = true) (h4 : ¬ 400 < rules.length) (hT : iLoop rules bound (bound + 1) 0 [w] = none) (h : Hp) : FindP rules w bound (.tup [.nilp, .int .i64 12]) h := by
  have : findE rules w bound = ([], 12) := by simp only [findE, hm, hT]; rw [if_neg (by simp), if_neg h4]
  unfold FindP
  rw [this]
  rfl
def stOk (bound : Nat) (st : List ByteArray) (is sp : List AV) : Prop := st.length ≤ bound ∧ (∀ v ∈ st, wordMay v = true) ∧ is.length = st.length ∧ sp.length = st.length * 2
theorem getD_app {st : List ByteArray} {i : Nat} (h : i < st.length) (u : ByteArray) : (st ++ [u]).getD i ⟨#[]⟩ = st.getD i ⟨#[]⟩ := by
  simp [List.getD_eq_getElem?_getD, List.getElem?_append_left h]
set_option maxRecDepth 100000 in
set_option maxHeartbeats 16000000 in
theorem a_find (rules : List RlB) (hr : smallR rules) (w : ByteArray) (hw : w.size ≤ 1000000) (bound : Nat) (hb : 1 ≤ bound ∧ bound ≤ 5000) : ACalls Try.prog 45 [vRul rules, .str w, .int .i64 bound] [] (FindP rules w bound) := by
  have q0 := p_rwmay w (by omega)
  have hrl := hr.1
  refine acalls_of mixed J_ref11_Find_ok (Nat.le_of_ble_eq_true rfl) ?_; simp only [J_ref11_Find, vRul, wk,if_true,if_false,forall_const,implies_true,ne_eq,eq_self,Nat.reduceEqDiff,Nat.reduceAdd,Nat.reduceMul,Nat.reduceSub,Nat.reduceLeDiff,Nat.reduceLT,Int.reduceEq,Int.reduceLT,Int.reduceLE,Int.reduceAdd,Int.reduceSub,Int.reduceMul,Int.reduceNeg,Int.reduceNe,reduceCtorEq,Int.reduceToNat,↓reduceIte]
  cases hm : wordMay w with
  | false =>
    rw [hm] at q0
    refine PCalls.use (q0) ?_; simp only [wk,if_true,if_false,forall_const,implies_true,ne_eq,eq_self,Nat.reduceEqDiff,Nat.reduceAdd,Nat.reduceMul,Nat.reduceSub,Nat.reduceLeDiff,Nat.reduceLT,Int.reduceEq,Int.reduceLT,Int.reduceLE,Int.reduceAdd,Int.reduceSub,Int.reduceMul,Int.reduceNeg,Int.reduceNe,reduceCtorEq,Int.reduceToNat,↓reduceIte]
    simp [FindP, findE, hm]
  | true =>
    rw [hm] at q0
    have f1 : ((bound : Int) < 1) = False := eqF (by omega)
    have f2 : ((5000 : Int) < (bound : Int)) = False := eqF (by omega)
    by_cases h4 : 400 < rules.length
    · have f3 : ((400 : Int) < (rules.length : Int)) = True := eqT (by omega)
      refine PCalls.use q0 ?_
      simp only [wk,if_true,if_false,forall_const,implies_true,ne_eq,eq_self,Nat.reduceEqDiff,Nat.reduceAdd,Nat.reduceMul,Nat.reduceSub,Nat.reduceLeDiff,Nat.reduceLT,Int.reduceEq,Int.reduceLT,Int.reduceLE,Int.reduceAdd,Int.reduceSub,Int.reduceMul,Int.reduceNeg,Int.reduceNe,reduceCtorEq,Int.reduceToNat,↓reduceIte, f1, f2, f3]
      have : findE rules w bound = ([], 3) := by simp only [findE, hm]; rw [if_neg (by simp), if_pos h4]
      unfold FindP
      rw [this]
      rfl
    have f3 : ((400 : Int) < (rules.length : Int)) = False := eqF (by omega)
    refine PCalls.use q0 ?_
    simp only [wk,if_true,if_false,forall_const,implies_true,ne_eq,eq_self,Nat.reduceEqDiff,Nat.reduceAdd,Nat.reduceMul,Nat.reduceSub,Nat.reduceLeDiff,Nat.reduceLT,Int.reduceEq,Int.reduceLT,Int.reduceLE,Int.reduceAdd,Int.reduceSub,Int.reduceMul,Int.reduceNeg,Int.reduceNe,reduceCtorEq,Int.reduceToNat,↓reduceIte, f1, f2, f3]
    obtain ⟨T, hT⟩ : ∃ T, iLoop rules bound (bound + 1) 0 [w] = T := ⟨_, rfl⟩
    refine W_loop (fun n fr h => ∃ (i : Nat) (st : List ByteArray) (is sp : List AV) (ex : Hp), i ≤ st.length ∧ n = bound + 1 - i ∧ stOk bound st is sp ∧ iLoop rules bound (bound + 1 - i) i st = T ∧ fr = [(0, .lst .ro rules.length (rulB rules)), (2, .int .i64 bound), (8, .ptr 0 0), (9, .int .i64 i)] ∧ h = rowF st is sp :: ex) (bound + 1) ⟨0, [w], [.int .i64 (-1)], [.int .i64 0, .int .i64 0], [], by simp, by omega, ⟨by simpa using hb.1, by simpa using hm, rfl, rfl⟩, hT, rfl, rfl⟩ ?_
    rintro n fr h' ⟨i, st, is, sp, ex, hi, rfl, ⟨hsl, hsw, hsi, hss⟩, hL, rfl, rfl⟩
    simp only [J_ref11_Find_j7, rowF, wk,if_true,if_false,forall_const,implies_true,ne_eq,eq_self,Nat.reduceEqDiff,Nat.reduceAdd,Nat.reduceMul,Nat.reduceSub,Nat.reduceLeDiff,Nat.reduceLT,Int.reduceEq,Int.reduceLT,Int.reduceLE,Int.reduceAdd,Int.reduceSub,Int.reduceMul,Int.reduceNeg,Int.reduceNe,reduceCtorEq,Int.reduceToNat,↓reduceIte]
    refine ⟨fun hlt => ?_, fun hge => ?_⟩
    · have hil : i < st.length := by omega
      obtain ⟨v, hv⟩ : ∃ v, st.getD i ⟨#[]⟩ = v := ⟨_, rfl⟩
      rw [show bound + 1 - i = (bound - i) + 1 by omega] at hL
      simp only [iLoop] at hL
      rw [if_pos hil, hv] at hL
      refine W_loop (fun n fr h => ∃ (a : Nat) (st : List ByteArray) (is sp : List AV) (ex : Hp), a ≤ v.size / 2 ∧ n = v.size / 2 - a ∧ i < st.length ∧ st.getD i ⟨#[]⟩ = v ∧ stOk bound st is sp ∧ (aLoop rules bound v (v.size / 2 - a) a st).bind (iLoop rules bound (bound - i) (i + 1)) = T ∧ fr = [(0, .lst .ro rules.length (rulB rules)), (2, .int .i64 bound), (8, .ptr 0 0), (9, .int .i64 i), (10, .int .i64 a)] ∧ h = rowF st is sp :: ex) (v.size / 2) ⟨0, st, is, sp, ex, by omega, by omega, hil, hv, ⟨hsl, hsw, hsi, hss⟩, hL, rfl, rfl⟩ ?_
      clear hL hsl hsw hsi hss hil hlt hv hi
      rintro n fr h' ⟨a, st, is, sp, ex, hav, rfl, hil, hv, ⟨hsl, hsw, hsi, hss⟩, hL, rfl, rfl⟩
      have hvm : wordMay v = true := by
        refine hsw _ ?_
        rw [← hv, List.getD_eq_getElem?_getD, List.getElem?_eq_getElem hil]; exact List.getElem_mem hil
      have hvs := wordMay_size hvm
      have g1 : (0 ≤ (i : Int) ∧ (i : Int) < (st.length : Int)) = True := eqT ⟨by omega, by omega⟩
      have hd : (st.map AV.str).drop i = .str v :: (st.map AV.str).drop (i + 1) := by
        have e : st[i] = v := by rw [← hv, List.getD_eq_getElem?_getD, List.getElem?_eq_getElem hil]; rfl
        have := drop_str (l := st) hil
        rw [e] at this; exact this
      have hq : ((v.size : Nat) : Int).tdiv 2 = ((v.size / 2 : Nat) : Int) := by rw [Int.tdiv_eq_ediv_of_nonneg (by omega)]; omega
      simp only [J_ref11_Find_j6, rowF, g1, Int.toNat_natCast, hd, hq, wk,if_true,if_false,forall_const,implies_true,ne_eq,eq_self,Nat.reduceEqDiff,Nat.reduceAdd,Nat.reduceMul,Nat.reduceSub,Nat.reduceLeDiff,Nat.reduceLT,Int.reduceEq,Int.reduceLT,Int.reduceLE,Int.reduceAdd,Int.reduceSub,Int.reduceMul,Int.reduceNeg,Int.reduceNe,reduceCtorEq,Int.reduceToNat,↓reduceIte]
      refine ⟨inR_of (by omega) (by omega), fun ha => ?_, fun ha => ?_⟩
      · have hal : a < v.size / 2 := by omega
        rw [show v.size / 2 - a = (v.size / 2 - (a + 1)) + 1 by omega] at hL
        simp only [aLoop] at hL
        refine W_loop (fun n fr h => ∃ (k : Nat) (st : List ByteArray) (is sp : List AV) (ex : Hp), k ≤ rules.length ∧ n = rules.length - k ∧ i < st.length ∧ st.getD i ⟨#[]⟩ = v ∧ stOk bound st is sp ∧ ((kLoop rules bound v a (rules.length - k) k st).bind (aLoop rules bound v (v.size / 2 - (a + 1)) (a + 1))).bind (iLoop rules bound (bound - i) (i + 1)) = T ∧ fr = [(0, .lst .ro rules.length (rulB rules)), (2, .int .i64 bound), (8, .ptr 0 0), (9, .int .i64 i), (10, .int .i64 a), (11, .int .i64 k)] ∧ h = rowF st is sp :: ex) rules.length ⟨0, st, is, sp, ex, by omega, by omega, hil, hv, ⟨hsl, hsw, hsi, hss⟩, hL, rfl, rfl⟩ ?_
        clear hL hsl hsw hsi hss hil hv g1 hd
        rintro n fr h' ⟨k, st, is, sp, ex, hk, rfl, hil, hv, ⟨hsl, hsw, hsi, hss⟩, hL, rfl, rfl⟩
        have g1 : (0 ≤ (i : Int) ∧ (i : Int) < (st.length : Int)) = True := eqT ⟨by omega, by omega⟩
        have hd : (st.map AV.str).drop i = .str v :: (st.map AV.str).drop (i + 1) := by
          have e : st[i] = v := by rw [← hv, List.getD_eq_getElem?_getD, List.getElem?_eq_getElem hil]; rfl
          have := drop_str (l := st) hil
          rw [e] at this; exact this
        simp only [J_ref11_Find_j5, rowF, wk,if_true,if_false,forall_const,implies_true,ne_eq,eq_self,Nat.reduceEqDiff,Nat.reduceAdd,Nat.reduceMul,Nat.reduceSub,Nat.reduceLeDiff,Nat.reduceLT,Int.reduceEq,Int.reduceLT,Int.reduceLE,Int.reduceAdd,Int.reduceSub,Int.reduceMul,Int.reduceNeg,Int.reduceNe,reduceCtorEq,Int.reduceToNat,↓reduceIte]
        refine ⟨fun hlt => ?_, fun hge => ?_⟩
        · have hkl : k < rules.length := by omega
          rw [show rules.length - k = (rules.length - (k + 1)) + 1 by omega] at hL
          simp only [kLoop] at hL
          have qu := p_ruse rules hr v hvm a k (by omega) hkl
          simp only [vRul] at qu
          simp only [g1, Int.toNat_natCast, hd, wk,if_true,if_false,forall_const,implies_true,ne_eq,eq_self,Nat.reduceEqDiff,Nat.reduceAdd,Nat.reduceMul,Nat.reduceSub,Nat.reduceLeDiff,Nat.reduceLT,Int.reduceEq,Int.reduceLT,Int.reduceLE,Int.reduceAdd,Int.reduceSub,Int.reduceMul,Int.reduceNeg,Int.reduceNe,reduceCtorEq,Int.reduceToNat,↓reduceIte]
          have same : ((kLoop rules bound v a (rules.length - (k + 1)) (k + 1) st).bind (aLoop rules bound v (v.size / 2 - (a + 1)) (a + 1))).bind (iLoop rules bound (bound - i) (i + 1)) = T → ∀ ex' : Hp, inR ((k : Int) + 1) ∧ ∃ m, m < rules.length - k ∧ ∃ (k' : Nat) (st' : List ByteArray) (is' sp' : List AV) (ex2 : Hp), k' ≤ rules.length ∧ m = rules.length - k' ∧ i < st'.length ∧ st'.getD i ⟨#[]⟩ = v ∧ stOk bound st' is' sp' ∧ ((kLoop rules bound v a (rules.length - k') k' st').bind (aLoop rules bound v (v.size / 2 - (a + 1)) (a + 1))).bind (iLoop rules bound (bound - i) (i + 1)) = T ∧ [(0, AV.lst .ro rules.length (rulB rules)), (2, .int .i64 bound), (8, .ptr 0 0), (9, .int .i64 i), (10, .int .i64 a), (11, .int .i64 ((k : Int) + 1))] = [(0, .lst .ro rules.length (rulB rules)), (2, .int .i64 bound), (8, .ptr 0 0), (9, .int .i64 i), (10, .int .i64 a), (11, .int .i64 k')] ∧ rowF st is sp :: ex' = rowF st' is' sp' :: ex2 := fun hT' ex' =>
            ⟨inR_of (by omega) (by omega), rules.length - (k + 1), by omega, k + 1, st, is, sp, ex', by omega, rfl, hil, hv, ⟨hsl, hsw, hsi, hss⟩, hT', by simp, rfl⟩
          cases hu : useR (rules.getD k (⟨#[]⟩, ⟨#[]⟩)) v a with
          | none =>
            rw [hu] at qu
            simp only [useV] at qu
            simp only [stepF, hu, Option.bind_some] at hL
            refine ⟨_, qu, ?_⟩
            simp only [wk,if_true,if_false,forall_const,implies_true,ne_eq,eq_self,Nat.reduceEqDiff,Nat.reduceAdd,Nat.reduceMul,Nat.reduceSub,Nat.reduceLeDiff,Nat.reduceLT,Int.reduceEq,Int.reduceLT,Int.reduceLE,Int.reduceAdd,Int.reduceSub,Int.reduceMul,Int.reduceNeg,Int.reduceNe,reduceCtorEq,Int.reduceToNat,↓reduceIte]
            simp only [J_ref11_Find_j4, wk,if_true,if_false,forall_const,implies_true,ne_eq,eq_self,Nat.reduceEqDiff,Nat.reduceAdd,Nat.reduceMul,Nat.reduceSub,Nat.reduceLeDiff,Nat.reduceLT,Int.reduceEq,Int.reduceLT,Int.reduceLE,Int.reduceAdd,Int.reduceSub,Int.reduceMul,Int.reduceNeg,Int.reduceNe,reduceCtorEq,Int.reduceToNat,↓reduceIte]
            exact same hL _
          | some u =>
            rw [hu] at qu
            simp only [useV] at qu
            simp only [stepF, hu] at hL
            refine ⟨_, qu, ?_⟩
            simp only [wk,if_true,if_false,forall_const,implies_true,ne_eq,eq_self,Nat.reduceEqDiff,Nat.reduceAdd,Nat.reduceMul,Nat.reduceSub,Nat.reduceLeDiff,Nat.reduceLT,Int.reduceEq,Int.reduceLT,Int.reduceLE,Int.reduceAdd,Int.reduceSub,Int.reduceMul,Int.reduceNeg,Int.reduceNe,reduceCtorEq,Int.reduceToNat,↓reduceIte]
            refine ACalls.use (a_place _ 0 st _ _ u rfl (by omega)) ?_
            rintro z' h' ⟨⟨z, rfl, hz⟩, rfl⟩
            by_cases hh : hasW st u = true
            · have e1 : (0 ≤ z) = True := eqT (hz ▸ hh)
              rw [if_pos hh] at hL
              simp only [Option.bind_some] at hL
              simp only [e1, wk,if_true,if_false,forall_const,implies_true,ne_eq,eq_self,Nat.reduceEqDiff,Nat.reduceAdd,Nat.reduceMul,Nat.reduceSub,Nat.reduceLeDiff,Nat.reduceLT,Int.reduceEq,Int.reduceLT,Int.reduceLE,Int.reduceAdd,Int.reduceSub,Int.reduceMul,Int.reduceNeg,Int.reduceNe,reduceCtorEq,Int.reduceToNat,↓reduceIte]
              simp only [J_ref11_Find_j4, wk,if_true,if_false,forall_const,implies_true,ne_eq,eq_self,Nat.reduceEqDiff,Nat.reduceAdd,Nat.reduceMul,Nat.reduceSub,Nat.reduceLeDiff,Nat.reduceLT,Int.reduceEq,Int.reduceLT,Int.reduceLE,Int.reduceAdd,Int.reduceSub,Int.reduceMul,Int.reduceNeg,Int.reduceNe,reduceCtorEq,Int.reduceToNat,↓reduceIte]
              exact same hL _
            · have e1 : (0 ≤ z) = False := eqF (hz ▸ hh)
              rw [if_neg hh] at hL
              simp only [e1, wk,if_true,if_false,forall_const,implies_true,ne_eq,eq_self,Nat.reduceEqDiff,Nat.reduceAdd,Nat.reduceMul,Nat.reduceSub,Nat.reduceLeDiff,Nat.reduceLT,Int.reduceEq,Int.reduceLT,Int.reduceLE,Int.reduceAdd,Int.reduceSub,Int.reduceMul,Int.reduceNeg,Int.reduceNe,reduceCtorEq,Int.reduceToNat,↓reduceIte]
              refine ⟨fun he => ?_, fun hne => ?_⟩
              · rw [if_pos (by omega)] at hL
                simp only [Option.bind_none] at hL
                exact find_no hm h4 (hT.trans hL.symm) _
              · rw [if_neg (by omega)] at hL
                simp only [Option.bind_some] at hL
                refine ⟨⟨by omega, by omega⟩, ⟨by omega, by omega⟩, ⟨by omega, by omega⟩, ?_⟩
                try simp only [J_ref11_Find_j4, wk,if_true,if_false,forall_const,implies_true,ne_eq,eq_self,Nat.reduceEqDiff,Nat.reduceAdd,Nat.reduceMul,Nat.reduceSub,Nat.reduceLeDiff,Nat.reduceLT,Int.reduceEq,Int.reduceLT,Int.reduceLE,Int.reduceAdd,Int.reduceSub,Int.reduceMul,Int.reduceNeg,Int.reduceNe,reduceCtorEq,Int.reduceToNat,↓reduceIte]
                obtain ⟨u1, _, _⟩ := use_good [] hvm hu
                refine ⟨inR_of (by omega) (by omega), rules.length - (k + 1), by omega, k + 1, st ++ [u], is ++ [.int .i64 i], sp ++ [.int .i64 a, .int .i64 k], _, by omega, rfl, by rw [List.length_append]; omega, by rw [getD_app hil]; exact hv, ⟨by rw [List.length_append, List.length_singleton]; omega, fun x hx => ?_, by simp [hsi], by simp [hss]; omega⟩, hL, by simp, by simp [rowF]; rfl⟩
                rcases List.mem_append.1 hx with hx | hx
                · exact hsw x hx
                · simp only [List.mem_singleton] at hx; subst hx; exact u1
        · obtain rfl : k = rules.length := by omega
          rw [Nat.sub_self] at hL
          simp only [kLoop, Option.bind_some] at hL
          simp only [J_ref11_Find_j3, wk,if_true,if_false,forall_const,implies_true,ne_eq,eq_self,Nat.reduceEqDiff,Nat.reduceAdd,Nat.reduceMul,Nat.reduceSub,Nat.reduceLeDiff,Nat.reduceLT,Int.reduceEq,Int.reduceLT,Int.reduceLE,Int.reduceAdd,Int.reduceSub,Int.reduceMul,Int.reduceNeg,Int.reduceNe,reduceCtorEq,Int.reduceToNat,↓reduceIte]
          exact ⟨inR_of (by omega) (by omega), v.size / 2 - (a + 1), by omega, a + 1, st, is, sp, ex, by omega, rfl, hil, hv, ⟨hsl, hsw, hsi, hss⟩, hL, by simp, rfl⟩
      · obtain rfl : a = v.size / 2 := by omega
        rw [Nat.sub_self] at hL
        simp only [aLoop, Option.bind_some] at hL
        simp only [J_ref11_Find_j2, wk,if_true,if_false,forall_const,implies_true,ne_eq,eq_self,Nat.reduceEqDiff,Nat.reduceAdd,Nat.reduceMul,Nat.reduceSub,Nat.reduceLeDiff,Nat.reduceLT,Int.reduceEq,Int.reduceLT,Int.reduceLE,Int.reduceAdd,Int.reduceSub,Int.reduceMul,Int.reduceNeg,Int.reduceNe,reduceCtorEq,Int.reduceToNat,↓reduceIte]
        exact ⟨inR_of (by omega) (by omega), bound + 1 - (i + 1), by omega, i + 1, st, is, sp, ex, by omega, rfl, ⟨hsl, hsw, hsi, hss⟩, by rw [← hL, show bound + 1 - (i + 1) = bound - i by omega], by simp, rfl⟩
    · obtain rfl : i = st.length := by omega
      rw [show bound + 1 - st.length = (bound - st.length) + 1 by omega] at hL
      simp only [iLoop] at hL
      rw [if_neg (by omega)] at hL
      simp only [J_ref11_Find_j1, wk,if_true,if_false,forall_const,implies_true,ne_eq,eq_self,Nat.reduceEqDiff,Nat.reduceAdd,Nat.reduceMul,Nat.reduceSub,Nat.reduceLeDiff,Nat.reduceLT,Int.reduceEq,Int.reduceLT,Int.reduceLE,Int.reduceAdd,Int.reduceSub,Int.reduceMul,Int.reduceNeg,Int.reduceNe,reduceCtorEq,Int.reduceToNat,↓reduceIte]
      exact find_ok hm h4 (hT.trans hL.symm) hsl is sp ex
set_option maxRecDepth 100000 in
set_option maxHeartbeats 4000000 in
theorem p_rall (rules : List RlB) (hr : smallR rules) (w : ByteArray) (hw : w.size ≤ 1000000) (bound : Nat) (hb : 1 ≤ bound ∧ bound ≤ 5000) : PCalls Try.prog 21 [vRul rules, .str w, .int .i64 bound] (.tup [if (findE rules w bound).2 = 0 then .lst .ro (findE rules w bound).1.length ((findE rules w bound).1.map .str) else .lst .clip 0 [], .int .i64 (findE rules w bound).2]) := by
  have qf := a_find rules hr w hw bound hb
  simp only [vRul] at qf
  refine pcalls_of (by simp [vRul, free, free.frees, frees_rulB]) (by split <;> simp [free, free.frees, frees_strs]) (acalls_of mixed J_ref11_All_ok (Nat.le_of_ble_eq_true rfl) ?_); simp only [J_ref11_All, vRul, wk,if_true,if_false,forall_const,implies_true,ne_eq,eq_self,Nat.reduceEqDiff,Nat.reduceAdd,Nat.reduceMul,Nat.reduceSub,Nat.reduceLeDiff,Nat.reduceLT,Int.reduceEq,Int.reduceLT,Int.reduceLE,Int.reduceAdd,Int.reduceSub,Int.reduceMul,Int.reduceNeg,Int.reduceNe,reduceCtorEq,Int.reduceToNat,↓reduceIte]
  refine ACalls.use qf ?_
  intro a h' hp
  unfold FindP at hp
  by_cases he : (findE rules w bound).2 = 0
  · rw [if_pos he] at hp
    obtain ⟨is, sp, ex, hl, rfl, rfl⟩ := hp
    rw [if_pos he, he]
    simp only [rowF, wk,if_true,if_false,forall_const,implies_true,ne_eq,eq_self,Nat.reduceEqDiff,Nat.reduceAdd,Nat.reduceMul,Nat.reduceSub,Nat.reduceLeDiff,Nat.reduceLT,Int.reduceEq,Int.reduceLT,Int.reduceLE,Int.reduceAdd,Int.reduceSub,Int.reduceMul,Int.reduceNeg,Int.reduceNe,reduceCtorEq,Int.reduceToNat,↓reduceIte]
  · rw [if_neg he] at hp
    subst hp
    have e1 : ((findE rules w bound).2 = 0) = False := eqF he
    rw [if_neg he]
    simp only [e1, wk,if_true,if_false,forall_const,implies_true,ne_eq,eq_self,Nat.reduceEqDiff,Nat.reduceAdd,Nat.reduceMul,Nat.reduceSub,Nat.reduceLeDiff,Nat.reduceLT,Int.reduceEq,Int.reduceLT,Int.reduceLE,Int.reduceAdd,Int.reduceSub,Int.reduceMul,Int.reduceNeg,Int.reduceNe,reduceCtorEq,Int.reduceToNat,↓reduceIte]
def leadsE (rules : List RlB) (w v : ByteArray) (bound : Nat) : Bool × Int := if (findE rules w bound).2 ≠ 0 then (false, (findE rules w bound).2) else (hasW (findE rules w bound).1 v, 0)
set_option maxRecDepth 100000 in
set_option maxHeartbeats 4000000 in
theorem p_rleads (rules : List RlB) (hr : smallR rules) (w v : ByteArray) (hw : w.size ≤ 1000000) (bound : Nat) (hb : 1 ≤ bound ∧ bound ≤ 5000) : PCalls Try.prog 61 [vRul rules, .str w, .str v, .int .i64 bound] (.tup [.bool (leadsE rules w v bound).1, .int .i64 (leadsE rules w v bound).2]) := by
  have qf := a_find rules hr w hw bound hb
  simp only [vRul] at qf
  refine pcalls_of (by simp [vRul, free, free.frees, frees_rulB]) (by simp [free, free.frees]) (acalls_of mixed J_ref11_Leads_ok (Nat.le_of_ble_eq_true rfl) ?_); simp only [J_ref11_Leads, vRul, wk,if_true,if_false,forall_const,implies_true,ne_eq,eq_self,Nat.reduceEqDiff,Nat.reduceAdd,Nat.reduceMul,Nat.reduceSub,Nat.reduceLeDiff,Nat.reduceLT,Int.reduceEq,Int.reduceLT,Int.reduceLE,Int.reduceAdd,Int.reduceSub,Int.reduceMul,Int.reduceNeg,Int.reduceNe,reduceCtorEq,Int.reduceToNat,↓reduceIte]
  refine ACalls.use qf ?_
  intro a h' hp
  unfold FindP at hp
  by_cases he : (findE rules w bound).2 = 0
  · rw [if_pos he] at hp
    obtain ⟨is, sp, ex, hl, rfl, rfl⟩ := hp
    simp only [rowF, wk,if_true,if_false,forall_const,implies_true,ne_eq,eq_self,Nat.reduceEqDiff,Nat.reduceAdd,Nat.reduceMul,Nat.reduceSub,Nat.reduceLeDiff,Nat.reduceLT,Int.reduceEq,Int.reduceLT,Int.reduceLE,Int.reduceAdd,Int.reduceSub,Int.reduceMul,Int.reduceNeg,Int.reduceNe,reduceCtorEq,Int.reduceToNat,↓reduceIte]
    refine ACalls.use (a_place _ 0 (findE rules w bound).1 _ _ v rfl (by omega)) ?_
    rintro z' h' ⟨⟨z, rfl, hz⟩, rfl⟩
    simp only [wk,if_true,if_false,forall_const,implies_true,ne_eq,eq_self,Nat.reduceEqDiff,Nat.reduceAdd,Nat.reduceMul,Nat.reduceSub,Nat.reduceLeDiff,Nat.reduceLT,Int.reduceEq,Int.reduceLT,Int.reduceLE,Int.reduceAdd,Int.reduceSub,Int.reduceMul,Int.reduceNeg,Int.reduceNe,reduceCtorEq,Int.reduceToNat,↓reduceIte]
    unfold leadsE
    rw [if_neg (by simp [he])]
    simp only [hz, Bool.decide_eq_true]
  · rw [if_neg he] at hp
    subst hp
    have e1 : ((findE rules w bound).2 = 0) = False := eqF he
    simp only [e1, wk,if_true,if_false,forall_const,implies_true,ne_eq,eq_self,Nat.reduceEqDiff,Nat.reduceAdd,Nat.reduceMul,Nat.reduceSub,Nat.reduceLeDiff,Nat.reduceLT,Int.reduceEq,Int.reduceLT,Int.reduceLE,Int.reduceAdd,Int.reduceSub,Int.reduceMul,Int.reduceNeg,Int.reduceNe,reduceCtorEq,Int.reduceToNat,↓reduceIte]
    unfold leadsE
    rw [if_pos he]
end Go.Proofs.Ytlfnepcglnjogaa

/- Accept: the document's Has and Backed, over the abstract code. -/
-- fast
namespace Go.Proofs.Ytlfnepcglnjogaa
set_option linter.unusedSimpArgs false
set_option linter.unusedVariables false
open Go.RowKit Go.Lib

def natC (l : List Nat) : List AV := l.map fun (i : Nat) => AV.int .i64 i
theorem natC_at {l : List Nat} {i : Nat} (h : i < l.length) : (natC l).drop i = .int .i64 (l[i] : Nat) :: (natC l).drop (i + 1) := by
  unfold natC
  rw [List.drop_eq_getElem_cons (by simpa using h)]; simp
theorem frees_natC (l : List Nat) : free.frees (natC l) = true := by
  unfold natC
  induction l with
  | nil => rfl
  | cons a l ih => simp only [List.map_cons, free.frees, free, Bool.true_and]; exact ih
set_option maxRecDepth 100000 in
set_option maxHeartbeats 4000000 in
theorem p_reshas (l : List Nat) (hl : l.length ≤ 1000000) (rules : List RlB) (k : Nat) : PCalls Try.prog 42 [.agg [.lst .ro l.length (natC l), vRul rules], .int .i64 k] (.bool (decide (k ∈ l))) := by
  refine pcalls_of (by simp [vRul, free, free.frees, frees_rulB, frees_natC]) rfl (acalls_of mixed J_ref12_Result_Has_ok (Nat.le_of_ble_eq_true rfl) ?_); simp only [J_ref12_Result_Has, vRul, wk,if_true,if_false,forall_const,implies_true,ne_eq,eq_self,Nat.reduceEqDiff,Nat.reduceAdd,Nat.reduceMul,Nat.reduceSub,Nat.reduceLeDiff,Nat.reduceLT,Int.reduceEq,Int.reduceLT,Int.reduceLE,Int.reduceAdd,Int.reduceSub,Int.reduceMul,Int.reduceNeg,Int.reduceNe,reduceCtorEq,Int.reduceToNat,↓reduceIte]
  refine W_loop (fun n fr h => ∃ i : Nat, i ≤ l.length ∧ n = l.length - i ∧ (∀ x ∈ l.take i, x ≠ k) ∧ fr = [(1, .int .i64 k), (2, .ptr 0 0), (5, .int .i64 i)] ∧ h = [some (false, [.lst .ro l.length (natC l), .lst .ro rules.length (rulB rules)])]) l.length ⟨0, by omega, by omega, by simp, rfl, rfl⟩ ?_
  rintro n fr h' ⟨i, hi, rfl, hall, rfl, rfl⟩
  simp only [J_ref12_Result_Has_j2, wk,if_true,if_false,forall_const,implies_true,ne_eq,eq_self,Nat.reduceEqDiff,Nat.reduceAdd,Nat.reduceMul,Nat.reduceSub,Nat.reduceLeDiff,Nat.reduceLT,Int.reduceEq,Int.reduceLT,Int.reduceLE,Int.reduceAdd,Int.reduceSub,Int.reduceMul,Int.reduceNeg,Int.reduceNe,reduceCtorEq,Int.reduceToNat,↓reduceIte]
  refine ⟨fun hlt => ?_, fun hge => ?_⟩
  · have hil : i < l.length := by omega
    have hin : ((0 ≤ (i : Int)) ∧ (i : Int) < (l.length : Int)) = True := eqT ⟨by omega, by omega⟩
    have hd := natC_at hil
    simp only [hin, Int.toNat_natCast, hd, wk,if_true,if_false,forall_const,implies_true,ne_eq,eq_self,Nat.reduceEqDiff,Nat.reduceAdd,Nat.reduceMul,Nat.reduceSub,Nat.reduceLeDiff,Nat.reduceLT,Int.reduceEq,Int.reduceLT,Int.reduceLE,Int.reduceAdd,Int.reduceSub,Int.reduceMul,Int.reduceNeg,Int.reduceNe,reduceCtorEq,Int.reduceToNat,↓reduceIte]
    refine ⟨fun he => ?_, fun he => ⟨inR_of (by omega) (by omega), l.length - (i + 1), by omega, i + 1, by omega, rfl, fun x hx => ?_, by simp⟩⟩
    · have : k ∈ l := by
        have h1 : l[i] = k := by omega
        rw [← h1]; exact List.getElem_mem hil
      simp [this]
    · rw [List.take_succ_eq_append_getElem hil] at hx
      rcases List.mem_append.1 hx with hx | hx
      · exact hall x hx
      · simp only [List.mem_singleton] at hx; subst hx; omega
  · rw [List.take_of_length_le (by omega)] at hall
    simp only [J_ref12_Result_Has_j1, wk,if_true,if_false,forall_const,implies_true,ne_eq,eq_self,Nat.reduceEqDiff,Nat.reduceAdd,Nat.reduceMul,Nat.reduceSub,Nat.reduceLeDiff,Nat.reduceLT,Int.reduceEq,Int.reduceLT,Int.reduceLE,Int.reduceAdd,Int.reduceSub,Int.reduceMul,Int.reduceNeg,Int.reduceNe,reduceCtorEq,Int.reduceToNat,↓reduceIte]
    have : ¬ k ∈ l := fun h => hall k h rfl
    simp [this]
theorem leads_back (rules : List RlB) (s bound : Nat) (x : ByteArray) (l : List ByteArray) : backW rules s bound (x :: l) = if (leadsE rules x (atomW s) bound).2 ≠ 0 then (false, (leadsE rules x (atomW s) bound).2) else if (leadsE rules x (atomW s) bound).1 = true then backW rules s bound l else (false, 0) := by
  simp only [backW, leadsE]
  by_cases h : (findE rules x bound).2 = 0
  · simp [h]
  · simp [h]
set_option maxRecDepth 100000 in
set_option maxHeartbeats 4000000 in
theorem p_rbacked (rules : List RlB) (hr : smallR rules) (c : Crt) (hc : smallC c) (bound : Nat) (hb : 1 ≤ bound ∧ bound ≤ 5000) : PCalls Try.prog 43 [vRul rules, vC c, .int .i64 bound] (.tup [.bool (backE rules c bound).1, .int .i64 (backE rules c bound).2]) := by
  have qc := p_rcheck c hc
  have qo := p_rof [c.signer] (by simp) (by simpa using hc.1)
  have ew : (⟨(atomBytes [c.signer]).toArray⟩ : ByteArray) = atomW c.signer := rfl
  rw [ew] at qo
  have hcl := hc.2.2.1
  simp only [vC, cC] at qc
  simp only [u16s, List.map_cons, List.map_nil, List.length_cons, List.length_nil] at qo
  refine pcalls_of (by simp [vRul, free, free.frees, frees_rulB, free_vC]) (by simp [free, free.frees]) (acalls_of mixed J_ref12_Backed_ok (Nat.le_of_ble_eq_true rfl) ?_); simp only [J_ref12_Backed, vRul, vC, cC, wk,if_true,if_false,forall_const,implies_true,ne_eq,eq_self,Nat.reduceEqDiff,Nat.reduceAdd,Nat.reduceMul,Nat.reduceSub,Nat.reduceLeDiff,Nat.reduceLT,Int.reduceEq,Int.reduceLT,Int.reduceLE,Int.reduceAdd,Int.reduceSub,Int.reduceMul,Int.reduceNeg,Int.reduceNe,reduceCtorEq,Int.reduceToNat,↓reduceIte]
  refine PCalls.use (qc) ?_; simp only [wk,if_true,if_false,forall_const,implies_true,ne_eq,eq_self,Nat.reduceEqDiff,Nat.reduceAdd,Nat.reduceMul,Nat.reduceSub,Nat.reduceLeDiff,Nat.reduceLT,Int.reduceEq,Int.reduceLT,Int.reduceLE,Int.reduceAdd,Int.reduceSub,Int.reduceMul,Int.reduceNeg,Int.reduceNe,reduceCtorEq,Int.reduceToNat,↓reduceIte]
  by_cases he : checkE c = 0
  · have e1 : (checkE c = 0) = True := eqT he
    have hB : backE rules c bound = backW rules c.signer bound c.words := by unfold backE; rw [if_neg (by simp [he])]
    rw [hB]
    simp only [e1, wk,if_true,if_false,forall_const,implies_true,ne_eq,eq_self,Nat.reduceEqDiff,Nat.reduceAdd,Nat.reduceMul,Nat.reduceSub,Nat.reduceLeDiff,Nat.reduceLT,Int.reduceEq,Int.reduceLT,Int.reduceLE,Int.reduceAdd,Int.reduceSub,Int.reduceMul,Int.reduceNeg,Int.reduceNe,reduceCtorEq,Int.reduceToNat,↓reduceIte]
    refine W_loop (fun n fr h => ∃ i : Nat, i ≤ c.words.length ∧ n = c.words.length - i ∧ backW rules c.signer bound (c.words.drop i) = backW rules c.signer bound c.words ∧ fr = [(0, .lst .ro rules.length (rulB rules)), (2, .int .i64 bound), (4, .ptr 0 0), (8, .int .i64 i)] ∧ h = [some (false, [.int .i64 c.kind, .int .u16 c.signer, .str c.speaker, .lst .ro c.words.length (c.words.map .str), .int .i64 c.since, .int .i64 c.till, .int .i64 c.serial])]) c.words.length ⟨0, by omega, by omega, by simp, rfl, rfl⟩ ?_
    rintro n fr h' ⟨i, hi, rfl, hB2, rfl, rfl⟩
    simp only [J_ref12_Backed_j2, wk,if_true,if_false,forall_const,implies_true,ne_eq,eq_self,Nat.reduceEqDiff,Nat.reduceAdd,Nat.reduceMul,Nat.reduceSub,Nat.reduceLeDiff,Nat.reduceLT,Int.reduceEq,Int.reduceLT,Int.reduceLE,Int.reduceAdd,Int.reduceSub,Int.reduceMul,Int.reduceNeg,Int.reduceNe,reduceCtorEq,Int.reduceToNat,↓reduceIte]
    refine ⟨fun hlt => ?_, fun hge => ?_⟩
    · have hil : i < c.words.length := by omega
      have hin : ((0 ≤ (i : Int)) ∧ (i : Int) < (c.words.length : Int)) = True := eqT ⟨by omega, by omega⟩
      have hd := drop_str hil
      have hsz := hc.2.2.2 _ (List.getElem_mem hil)
      have ql := p_rleads rules hr c.words[i] (atomW c.signer) hsz bound hb
      rw [List.drop_eq_getElem_cons hil, leads_back] at hB2
      generalize leadsE rules c.words[i] (atomW c.signer) bound = r at ql hB2
      simp only [vRul] at ql
      simp only [hin, Int.toNat_natCast, hd, wk,if_true,if_false,forall_const,implies_true,ne_eq,eq_self,Nat.reduceEqDiff,Nat.reduceAdd,Nat.reduceMul,Nat.reduceSub,Nat.reduceLeDiff,Nat.reduceLT,Int.reduceEq,Int.reduceLT,Int.reduceLE,Int.reduceAdd,Int.reduceSub,Int.reduceMul,Int.reduceNeg,Int.reduceNe,reduceCtorEq,Int.reduceToNat,↓reduceIte]
      refine ⟨_, qo, ?_⟩; try simp only [wk,if_true,if_false,forall_const,implies_true,ne_eq,eq_self,Nat.reduceEqDiff,Nat.reduceAdd,Nat.reduceMul,Nat.reduceSub,Nat.reduceLeDiff,Nat.reduceLT,Int.reduceEq,Int.reduceLT,Int.reduceLE,Int.reduceAdd,Int.reduceSub,Int.reduceMul,Int.reduceNeg,Int.reduceNe,reduceCtorEq,Int.reduceToNat,↓reduceIte]
      refine ⟨_, ql, ?_⟩; try simp only [wk,if_true,if_false,forall_const,implies_true,ne_eq,eq_self,Nat.reduceEqDiff,Nat.reduceAdd,Nat.reduceMul,Nat.reduceSub,Nat.reduceLeDiff,Nat.reduceLT,Int.reduceEq,Int.reduceLT,Int.reduceLE,Int.reduceAdd,Int.reduceSub,Int.reduceMul,Int.reduceNeg,Int.reduceNe,reduceCtorEq,Int.reduceToNat,↓reduceIte]
      refine ⟨fun h1 => ?_, fun h1 => ⟨fun h2 => ?_, fun h2 => ⟨inR_of (by omega) (by omega), c.words.length - (i + 1), by omega, i + 1, by omega, rfl, ?_, by simp⟩⟩⟩
      · rw [if_pos h1] at hB2; rw [← hB2]
      · rw [if_neg (by simp [h1]), if_neg (by simp [h2])] at hB2; rw [← hB2]
      · rw [if_neg (by simp [h1]), if_pos h2] at hB2; exact hB2
    · obtain rfl : i = c.words.length := by omega
      rw [List.drop_length] at hB2
      simp only [backW] at hB2
      rw [← hB2]
      simp only [J_ref12_Backed_j1, wk,if_true,if_false,forall_const,implies_true,ne_eq,eq_self,Nat.reduceEqDiff,Nat.reduceAdd,Nat.reduceMul,Nat.reduceSub,Nat.reduceLeDiff,Nat.reduceLT,Int.reduceEq,Int.reduceLT,Int.reduceLE,Int.reduceAdd,Int.reduceSub,Int.reduceMul,Int.reduceNeg,Int.reduceNe,reduceCtorEq,Int.reduceToNat,↓reduceIte]
  · have e1 : (checkE c = 0) = False := eqF he
    have hB : backE rules c bound = (false, 2) := by unfold backE; rw [if_pos he]
    rw [hB]
    simp only [e1, wk,if_true,if_false,forall_const,implies_true,ne_eq,eq_self,Nat.reduceEqDiff,Nat.reduceAdd,Nat.reduceMul,Nat.reduceSub,Nat.reduceLeDiff,Nat.reduceLT,Int.reduceEq,Int.reduceLT,Int.reduceLE,Int.reduceAdd,Int.reduceSub,Int.reduceMul,Int.reduceNeg,Int.reduceNe,reduceCtorEq,Int.reduceToNat,↓reduceIte]
end Go.Proofs.Ytlfnepcglnjogaa

/- Accept: the document's Run, over the abstract code (lists that grow, as objects). -/
-- fast
-- rows
namespace Go.Proofs.Ytlfnepcglnjogaa
set_option linter.unusedSimpArgs false
set_option linter.unusedVariables false
open Go.RowKit Go.Lib

def sc : AV → Bool
  | .int _ _ | .str _ | .nilp => true
  | _ => false
theorem sc_scal {u : AV} (h : sc u = true) : unf u = u ∧ ∀ x, unf x = u → x = u := by
  have hu : unf u = u := by cases u <;> first | rfl | cases h
  refine ⟨hu, fun x hx => ?_⟩
  unfold unf at hx
  split at hx
  · subst hx; cases h
  · exact hx
theorem sc_frees {l : List AV} (h : l.all sc = true) : free.frees l = true := by
  induction l with
  | nil => rfl
  | cons a l ih =>
    simp only [List.all_cons, Bool.and_eq_true] at h
    simp only [free.frees, Bool.and_eq_true]
    refine ⟨?_, ih h.2⟩
    cases a <;> first | rfl | cases h.1
theorem sc_deg {l : List AV} (h : l.all sc = true) : l.map deg = l := by
  induction l with
  | nil => rfl
  | cons a l ih =>
    simp only [List.all_cons, Bool.and_eq_true] at h
    rw [List.map_cons, ih h.2]
    congr 1
    cases a <;> first | rfl | cases h.1
theorem sc_zrow {z : List AV} (hz : z.all sc = true) (sz n : Nat) : (zrow z sz n).all sc = true := by
  rw [List.all_eq_true]
  intro u hu
  simp only [zrow, List.mem_map] at hu
  obtain ⟨j, _, rfl⟩ := hu
  rw [List.getD_eq_getElem?_getD]
  cases h : z[j % sz]? with
  | none => rfl
  | some x => exact List.all_eq_true.1 hz _ (List.mem_of_getElem? h)
theorem all_take {l : List AV} (h : l.all sc = true) (n : Nat) : (l.take n).all sc = true := List.all_eq_true.2 fun u hu => List.all_eq_true.1 h u (List.mem_of_mem_take hu)
theorem all_drop {l : List AV} (h : l.all sc = true) (n : Nat) : (l.drop n).all sc = true := List.all_eq_true.2 fun u hu => List.all_eq_true.1 h u (List.mem_of_mem_drop hu)
theorem all_app2 {a b : List AV} (ha : a.all sc = true) (hb : b.all sc = true) : (a ++ b).all sc = true := by rw [List.all_append, ha, hb]; rfl
def HasL (h : Hp) (v : AV) (n sz : Nat) (l : List AV) : Prop := (n = 0 ∧ v = .lst .clip 0 []) ∨ ∃ id c cells, v = .hsc id n c ∧ h[id]? = some (some (false, cells)) ∧ cells.length = c * sz ∧ n ≤ c ∧ cells.take (n * sz) = l ∧ cells.all sc = true
def idOf : AV → Option Nat
  | .hsc id _ _ => some id
  | _ => none
theorem lt_of_get {α : Type} {l : List α} {i : Nat} {x : α} (h : l[i]? = some x) : i < l.length := by
  rcases Nat.lt_or_ge i l.length with hh | hh
  · exact hh
  · rw [List.getElem?_eq_none hh] at h; cases h
theorem HasL.app {h : Hp} {v : AV} {n sz : Nat} {l : List AV} (hs : HasL h v n sz l) (o : Option (Bool × List AV)) : HasL (h ++ [o]) v n sz l := by
  rcases hs with h1 | ⟨id, c, cells, h1, h3, h4⟩
  · exact .inl h1
  · exact .inr ⟨id, c, cells, h1, by rw [List.getElem?_append_left (lt_of_get h3)]; exact h3, h4⟩
theorem HasL.set {h : Hp} {v : AV} {n sz : Nat} {l : List AV} (hs : HasL h v n sz l) {j : Nat} (hj : idOf v ≠ some j) (o : Option (Bool × List AV)) : HasL (h.set j o) v n sz l := by
  rcases hs with h1 | ⟨id, c, cells, rfl, h3, h4⟩
  · exact .inl h1
  · exact .inr ⟨id, c, cells, rfl, by rw [List.getElem?_set_ne (fun e => hj (by rw [← e]; rfl))]; exact h3, h4⟩
theorem HasL.first (H : Hp) (m sz : Nat) (l : List AV) (z : List AV) (k : Nat) (hl : l.length = m * sz) (hz : z.all sc = true) (ha : l.all sc = true) : HasL (H ++ [some (false, l ++ zrow z sz (k * sz))]) (.hsc H.length m (m + k)) m sz l :=
  .inr ⟨H.length, m + k, _, rfl, List.getElem?_concat_length, by rw [List.length_append, zrow_len, hl, Nat.add_mul], by omega, by rw [← hl, List.take_left], all_app2 ha (sc_zrow hz _ _)⟩
theorem HasL.put {H : Hp} {id n c sz : Nat} {cells l : List AV} (h1 : H[id]? = some (some (false, cells))) (h2 : cells.length = c * sz) (h5 : cells.take (n * sz) = l) (hs : cells.all sc = true) (m : Nat) (l' : List AV) (hl' : l'.length = m * sz) (ha : l'.all sc = true) (hc : n + m ≤ c) :
    HasL (H.set id (some (false, splice cells (n * sz) l'))) (.hsc id (n + m) c) (n + m) sz (l ++ l') := by
  have hle : (n + m) * sz ≤ c * sz := Nat.mul_le_mul_right _ hc
  rw [Nat.add_mul] at hle
  have hll : l.length = n * sz := by rw [← h5, List.length_take]; omega
  have hsp : splice cells (n * sz) l' = l ++ l' ++ cells.drop (n * sz + m * sz) := by
    have := splice_from' l' l cells (by rw [hll, hl', h2]; omega) (by rw [hll]; exact h5)
    rw [hll, hl'] at this
    exact this
  refine .inr ⟨id, c, _, rfl, List.getElem?_set_self (lt_of_get h1), ?_, hc, ?_, ?_⟩
  · rw [hsp, List.length_append, List.length_append, List.length_drop, hll, hl']; omega
  · rw [hsp, Nat.add_mul, List.take_append_of_le_length (by rw [List.length_append, hll, hl']; omega), List.take_of_length_le (by rw [List.length_append, hll, hl']; omega)]
  · rw [hsp]; exact all_app2 (all_app2 (by rw [← h5]; exact all_take hs _) ha) (all_drop hs _)
theorem HasL.grow {H : Hp} {n c sz : Nat} {cells l : List AV} (h2 : cells.length = c * sz) (hn : n ≤ c) (h5 : cells.take (n * sz) = l) (hs : cells.all sc = true) (m : Nat) (l' : List AV) (hl' : l'.length = m * sz) (ha : l'.all sc = true) (z : List AV) (hz : z.all sc = true) (k : Nat) :
    HasL (H ++ [some (false, ((cells.take (n * sz)).map deg ++ l') ++ zrow z sz (k * sz))]) (.hsc H.length (n + m) (n + m + k)) (n + m) sz (l ++ l') := by
  have hle : n * sz ≤ c * sz := Nat.mul_le_mul_right _ hn
  have hll : l.length = n * sz := by rw [← h5, List.length_take]; omega
  have hls : l.all sc = true := by rw [← h5]; exact all_take hs _
  rw [h5, sc_deg hls]
  exact HasL.first H (n + m) sz (l ++ l') z k (by rw [List.length_append, hll, hl', Nat.add_mul]) hz (all_app2 hls ha)
def crtsC (l : List Crt) : List AV := l.flatMap cC
theorem frees_crtsC (l : List Crt) : free.frees (crtsC l) = true := by
  induction l with
  | nil => rfl
  | cons x l ih => simp only [crtsC, List.flatMap_cons, cC, List.cons_append, List.nil_append, free.frees, free, frees_strs, Bool.true_and] at ih ⊢; exact ih
theorem crtsC_drop : ∀ {l : List Crt} {i : Nat} (h : i < l.length), (crtsC l).drop (i * 7) = cC l[i] ++ (crtsC l).drop ((i + 1) * 7)
  | [], _, h => by simp at h
  | w :: l, 0, h => by simp [crtsC, cC]
  | w :: l, i + 1, h => by
    have := crtsC_drop (l := l) (i := i) (by simpa using h)
    simp only [crtsC, List.flatMap_cons, cC, List.cons_append, List.nil_append] at this ⊢
    rw [show (i + 1) * 7 = i * 7 + 1 + 1 + 1 + 1 + 1 + 1 + 1 by omega, show (i + 1 + 1) * 7 = (i + 1) * 7 + 1 + 1 + 1 + 1 + 1 + 1 + 1 by omega]
    simp only [List.drop_succ_cons, List.getElem_cons_succ]
    exact this
def sumC (l : List Crt) : Nat := (l.map fun c => c.words.length).sum
def runE (roots : List RlB) (certs : List Crt) (bound : Nat) : AccR × Int :=
  if certs.any (fun c => decide (checkE c ≠ 0)) then (([], []), 2) else if 400 < roots.length + sumC certs then (([], []), 3) else runF certs bound (certs.length + 1) ([], roots)
def RunS (h : Hp) (q : Nat) (s : AccR) (v1 v2 : AV) : Prop := h[0]? = some (some (false, [.lst .clip 0 [], .lst .clip 0 []])) ∧ h[q]? = some (some (false, [v1, v2])) ∧ q ≠ 0 ∧ HasL h v1 s.1.length 1 (natC s.1) ∧ HasL h v2 s.2.length 2 (rulB s.2) ∧ idOf v1 ≠ some 0 ∧ idOf v1 ≠ some q ∧ idOf v2 ≠ some 0 ∧ idOf v2 ≠ some q ∧ ∀ i, idOf v1 = some i → idOf v2 ≠ some i
theorem plains_natC (l : List Nat) : plains (natC l) := fun u hu => by
  obtain ⟨a, _, rfl⟩ := List.mem_map.1 hu; rfl
theorem plains_rulB (l : List RlB) : plains (rulB l) := fun u hu => by
  obtain ⟨r, _, hr⟩ := List.mem_flatMap.1 hu
  simp only [List.mem_cons, List.not_mem_nil, or_false] at hr
  rcases hr with rfl | rfl <;> rfl
theorem HasL.lnd {h : Hp} {v : AV} {n sz : Nat} {l : List AV} (hs : HasL h v n sz l) (hl : l.length = n * sz) (hf : free.frees l = true) (hp : plains l) : Lnd h v (.lst .ro n l) := by
  rcases hs with ⟨rfl, rfl⟩ | ⟨id, c, cells, rfl, h3, h4, h5, h6, _⟩
  · have : l = [] := List.eq_nil_of_length_eq_zero (by omega)
    subst this
    exact .ro _ _ _ rfl
  · rw [← h6] at hf hp ⊢
    exact .hsc id n c (n * sz) false cells h3 hf hp
theorem natC_len (l : List Nat) : (natC l).length = l.length := by simp [natC]
theorem HasL.deg {h : Hp} {v : AV} {n sz : Nat} {l : List AV} (hs : HasL h v n sz l) : deg v = v := by
  rcases hs with ⟨_, rfl⟩ | ⟨id, c, cells, rfl, _⟩ <;> rfl
theorem a_reshas {h : Hp} {q : Nat} {s : AccR} {v1 v2 : AV} (hs : RunS h q s v1 v2) (hl : s.1.length ≤ 1000000) (k : Nat) : ACalls Try.prog 42 [.agg [v1, v2], .int .i64 k] h (fun a h' => a = .bool (decide (k ∈ s.1)) ∧ h' = h) := by
  obtain ⟨_, _, _, h1, h2, _⟩ := hs
  refine PCalls.lend (p_reshas s.1 hl s.2 k) rfl (.cons (.agg _ _ (.cons (h1.lnd (by rw [natC_len, Nat.mul_one]) (frees_natC _) (plains_natC _)) (.cons (h2.lnd (rulB_len _) (frees_rulB _) (plains_rulB _)) .nil)) ?_) (.cons (.same _ rfl) .nil))
  intro u hu
  simp only [List.mem_cons, List.not_mem_nil, or_false] at hu
  rcases hu with rfl | rfl <;> rfl
theorem unf_scal {l l' : List AV} (h : l'.map unf = l.map unf) (hl : ∀ u ∈ l, unf u = u ∧ ∀ x, unf x = u → x = u) : l' = l := by
  induction l generalizing l' with
  | nil => simpa using h
  | cons a l ih =>
    cases l' with
    | nil => simp at h
    | cons b l' =>
      simp only [List.map_cons, List.cons.injEq] at h
      obtain ⟨h1, h2⟩ := h
      obtain ⟨q1, q2⟩ := hl a (by simp)
      rw [q1] at h1
      rw [q2 b h1, ih h2 (fun u hu => hl u (by simp [hu]))]
theorem HasL.sameU {h h0 : Hp} {v : AV} {n sz : Nat} {l : List AV} (hs : HasL h v n sz l) (hu : SameU h0 h) : HasL h0 v n sz l := by
  rcases hs with h1 | ⟨id, c, cells, rfl, h3, h4, h5, h6, h7⟩
  · exact .inl h1
  · have hg : (h0.map unfO)[id]? = (h.map unfO)[id]? := by rw [show h0.map unfO = h.map unfO from hu]
    rw [List.getElem?_map, List.getElem?_map, h3] at hg
    cases hx : h0[id]? with
    | none => rw [hx] at hg; cases hg
    | some x =>
      rw [hx] at hg
      simp only [Option.map_some, Option.some.injEq] at hg
      cases x with
      | none => cases hg
      | some y =>
        obtain ⟨b, l'⟩ := y
        simp only [unfO, Option.some.injEq, Prod.mk.injEq] at hg
        obtain ⟨rfl, hm⟩ := hg
        obtain rfl := unf_scal hm (fun u hu => sc_scal (List.all_eq_true.1 h7 u hu))
        exact .inr ⟨id, c, l', rfl, hx, h4, h5, h6, h7⟩
theorem sc_rulB (l : List RlB) : (rulB l).all sc = true := List.all_eq_true.2 fun u hu => by
  obtain ⟨r, _, hr⟩ := List.mem_flatMap.1 hu
  simp only [List.mem_cons, List.not_mem_nil, or_false] at hr
  rcases hr with rfl | rfl <;> rfl
theorem a_backed {h : Hp} {q : Nat} {s : AccR} {v1 v2 : AV} (hs : RunS h q s v1 v2) (hr : smallR s.2) (c : Crt) (hc : smallC c) (bound : Nat) (hb : 1 ≤ bound ∧ bound ≤ 5000) (h0 : Hp) (hu : SameU h0 h) : ACalls Try.prog 43 [v2, vC c, .int .i64 bound] h0 (fun a h' => a = .tup [.bool (backE s.2 c bound).1, .int .i64 (backE s.2 c bound).2] ∧ h' = h0) := by
  obtain ⟨_, _, _, _, h2, _⟩ := hs
  have h3 := h2.sameU hu
  exact PCalls.lend (p_rbacked s.2 hr c hc bound hb) rfl (.cons (h3.lnd (rulB_len _) (frees_rulB _) (plains_rulB _)) (.cons (.same _ (free_vC c)) (.cons (.same _ rfl) .nil)))
theorem RunS.upd1 {h h' : Hp} {q : Nat} {s : AccR} {v1 v2 v1' : AV} {l1 : List Nat} (hs : RunS h q s v1 v2) (hk : ∀ j x, h[j]? = some x → idOf v1 ≠ some j → h'[j]? = some x) (hn : HasL h' v1' l1.length 1 (natC l1)) (hid : idOf v1' = idOf v1 ∨ idOf v1' = some h.length) : RunS (h'.set q (some (false, [v1', v2]))) q (l1, s.2) v1' v2 := by
  obtain ⟨a0, aq, hq, h1, h2, e1, e2, e3, e4, e5⟩ := hs
  have hqn := lt_of_get aq
  have h0n := lt_of_get a0
  have hqq : idOf v1' ≠ some q := by
    rcases hid with h | h
    · rw [h]; exact e2
    · rw [h]; intro e; injection e with e; omega
  have h00 : idOf v1' ≠ some 0 := by
    rcases hid with h | h
    · rw [h]; exact e1
    · rw [h]; intro e; injection e with e; omega
  refine ⟨?_, List.getElem?_set_self (lt_of_get (hk q _ aq e2)), hq, hn.set hqq _, HasL.set ?_ e4 _, h00, hqq, e3, e4, fun i hi => ?_⟩
  · rw [List.getElem?_set_ne hq]; exact hk 0 _ a0 e1
  · rcases h2 with h2 | ⟨id, c, cells, rfl, p3, p4⟩
    · exact .inl h2
    · exact .inr ⟨id, c, cells, rfl, hk id _ p3 (fun e => e5 id e rfl), p4⟩
  · rcases hid with h | h
    · exact e5 i (by rw [← h]; exact hi)
    · rw [h] at hi
      injection hi with hi
      subst hi
      rcases h2 with ⟨_, rfl⟩ | ⟨id, c, cells, rfl, p3, p4⟩
      · intro e; cases e
      · intro e; injection e with e; subst e; have := lt_of_get p3; omega
theorem RunS.upd2 {h h' : Hp} {q : Nat} {s : AccR} {v1 v2 v2' : AV} {l2 : List RlB} (hs : RunS h q s v1 v2) (hk : ∀ j x, h[j]? = some x → idOf v2 ≠ some j → h'[j]? = some x) (hn : HasL h' v2' l2.length 2 (rulB l2)) (hid : idOf v2' = idOf v2 ∨ idOf v2' = some h.length) : RunS (h'.set q (some (false, [v1, v2']))) q (s.1, l2) v1 v2' := by
  obtain ⟨a0, aq, hq, h1, h2, e1, e2, e3, e4, e5⟩ := hs
  have hqn := lt_of_get aq
  have h0n := lt_of_get a0
  have hqq : idOf v2' ≠ some q := by
    rcases hid with h | h
    · rw [h]; exact e4
    · rw [h]; intro e; injection e with e; omega
  have h00 : idOf v2' ≠ some 0 := by
    rcases hid with h | h
    · rw [h]; exact e3
    · rw [h]; intro e; injection e with e; omega
  refine ⟨?_, List.getElem?_set_self (lt_of_get (hk q _ aq e4)), hq, HasL.set ?_ e2 _, hn.set hqq _, e1, e2, h00, hqq, fun i hi => ?_⟩
  · rw [List.getElem?_set_ne hq]; exact hk 0 _ a0 e3
  · rcases h1 with h1 | ⟨id, c, cells, rfl, p3, p4⟩
    · exact .inl h1
    · exact .inr ⟨id, c, cells, rfl, hk id _ p3 (fun e => e5 id rfl e), p4⟩
  · rcases hid with h | h
    · rw [h]; exact e5 i hi
    · rw [h]
      intro e
      injection e with e
      subst e
      rcases h1 with ⟨_, rfl⟩ | ⟨id, c, cells, rfl, p3, p4⟩
      · cases hi
      · injection hi with hi; subst hi; have := lt_of_get p3; omega
def InvS (certs : List Crt) (n0 : Nat) (s : AccR) : Prop := s.1.Nodup ∧ (∀ i ∈ s.1, i < certs.length) ∧ s.2.length ≤ n0 + 400 * s.1.length ∧ ∀ r ∈ s.2, r.1.size ≤ 1000000 ∧ r.2.size ≤ 1000000
theorem nodup_len : ∀ {n : Nat} {l : List Nat}, l.Nodup → (∀ i ∈ l, i < n) → l.length ≤ n
  | 0, [], _, _ => Nat.le_refl _
  | 0, a :: l, _, hl => absurd (hl a (by simp)) (by omega)
  | n + 1, l, hd, hl => by
    by_cases hm : n ∈ l
    · have h1 := nodup_len (n := n) (l := l.erase n) (hd.erase n) (fun i hi => by
        have h2 := (hd.mem_erase_iff).1 hi
        have := hl i h2.2
        have := h2.1
        omega)
      rw [List.length_erase_of_mem hm] at h1
      omega
    · have h1 := nodup_len (n := n) hd (fun i hi => by
        have := hl i hi
        have : i ≠ n := fun e => hm (e ▸ hi)
        omega)
      omega
theorem sum_mem {c : Crt} : ∀ {l : List Crt}, c ∈ l → c.words.length ≤ sumC l
  | [], h => by simp at h
  | x :: l, h => by
    simp only [sumC, List.map_cons, List.sum_cons]
    rcases List.mem_cons.1 h with rfl | h
    · omega
    · have := sum_mem h
      simp only [sumC] at this
      omega
theorem InvS.step {certs : List Crt} {n0 : Nat} (hsum : n0 + sumC certs ≤ 400) {s : AccR} {i : Nat} {c : Crt} (hi : InvS certs n0 s) (hm : i ∉ s.1) (hc : certs[i]? = some c) (hsm : smallC c) : InvS certs n0 (s.1 ++ [i], s.2 ++ rulesC c) := by
  obtain ⟨h1, h2, h3, h4⟩ := hi
  have hil := lt_of_get hc
  have hw := sum_mem (List.mem_of_getElem? hc)
  refine ⟨?_, fun j hj => ?_, ?_, fun r hr => ?_⟩
  · show (s.1 ++ [i]).Nodup
    rw [List.nodup_append]
    refine ⟨h1, by simp, fun a ha b hb => ?_⟩
    simp only [List.mem_singleton] at hb
    subst hb
    intro e; subst e; exact hm ha
  · rcases List.mem_append.1 hj with hj | hj
    · exact h2 j hj
    · simp only [List.mem_singleton] at hj; omega
  · show (s.2 ++ rulesC c).length ≤ n0 + 400 * (s.1 ++ [i]).length
    simp only [List.length_append, rulesC, List.length_map, List.length_cons, List.length_nil]
    omega
  · rcases List.mem_append.1 hr with hr | hr
    · exact h4 r hr
    · simp only [rulesC, List.mem_map] at hr
      obtain ⟨w, hw', rfl⟩ := hr
      exact ⟨hsm.2.2.2 w hw', hsm.2.1⟩
def RunQ (T : AccR × Int) (a : AV) (h' : Hp) : Prop := ∃ v1 v2 : AV, a = .tup [.agg [v1, v2], .int .i64 T.2] ∧ HasL h' v1 T.1.1.length 1 (natC T.1.1) ∧ HasL h' v2 T.1.2.length 2 (rulB T.1.2)
set_option maxRecDepth 100000 in
set_option maxHeartbeats 8000000 in
theorem run_acc (certs : List Crt) (bound : Nat) (n0 i : Nat) (hil : i < certs.length) (hcn : certs.length ≤ 1000) {c : Crt} (hc : certs[i] = c) (hsm : smallC c) (hw : 0 < c.words.length) {H : Hp} {q : Nat} {s : AccR} {v1 v2 : AV} (hs : RunS H q s v1 v2) (hl : s.2.length ≤ 1000000) (Q : Exit → Fr → Hp → Prop)
    (hQ : ∀ H' v2', RunS H' q (s.1, s.2 ++ rulesC c) v1 v2' → W Try.prog J_ref12_Run_j2 [(1, .lst .ro certs.length (crtsC certs)), (2, .int .i64 bound), (6, .ptr 0 0), (10, .ptr q 0), (11, .int .i64 n0), (12, .int .i64 i)] H' Q) :
    W Try.prog J_ref12_Run_j3 [(1, .lst .ro certs.length (crtsC certs)), (2, .int .i64 bound), (6, .ptr 0 0), (10, .ptr q 0), (11, .int .i64 n0), (12, .int .i64 i)] H (kblock 5 (kseq Try.prog J_ref12_Run_j2 Q)) := by
  have hin : ((0 ≤ (i : Int)) ∧ (i : Int) < (certs.length : Int)) = True := eqT ⟨by omega, by omega⟩
  have hd := crtsC_drop hil
  have d2 := hs.2.2.2.2.1.deg
  have d1 := hs.2.2.2.1.deg
  rw [hc] at hd
  simp only [cC, List.cons_append, List.nil_append] at hd
  have qr := p_rrules c hsm.2.2.1
  rw [rulB_cert] at qr
  simp only [vC, cC] at qr
  have hq := hs.2.1
  have hqn := lt_of_get hq
  have hwl := hsm.2.2.1
  have hrl : (rulB (rulesC c)).length = c.words.length * 2 := by rw [rulB_len, rulesC, List.length_map]
  have hln : ∀ l : List RlB, (l ++ rulesC c).length = l.length + c.words.length := fun l => by rw [List.length_append, rulesC, List.length_map]
  have hz : ([.str ⟨#[]⟩, .str ⟨#[]⟩] : List AV).all sc = true := rfl
  rcases hs.2.2.2.2.1 with ⟨l0, rfl⟩ | ⟨id, cc, cells, rfl, p3, p4, p5, p6, p7⟩
  · have hqa : ∀ x : Option (Bool × List AV), (H ++ [x])[q]? = some (some (false, [v1, .lst .clip 0 []])) := fun x => by rw [List.getElem?_append_left hqn]; exact hq
    simp only [J_ref12_Run_j3, hq, d1, d2, hin, Int.toNat_natCast, hd, wkr,wk,if_true,if_false,forall_const,implies_true,ne_eq,eq_self,Nat.reduceEqDiff,Nat.reduceAdd,Nat.reduceMul,Nat.reduceSub,Nat.reduceLeDiff,Nat.reduceLT,Int.reduceEq,Int.reduceLT,Int.reduceLE,Int.reduceAdd,Int.reduceSub,Int.reduceMul,Int.reduceNeg,Int.reduceNe,reduceCtorEq,Int.reduceToNat,↓reduceIte]
    refine ⟨_, qr, ?_⟩
    have e0 : s.2 = [] := List.eq_nil_of_length_eq_zero l0
    simp only [hqa, wkr,wk,if_true,if_false,forall_const,implies_true,ne_eq,eq_self,Nat.reduceEqDiff,Nat.reduceAdd,Nat.reduceMul,Nat.reduceSub,Nat.reduceLeDiff,Nat.reduceLT,Int.reduceEq,Int.reduceLT,Int.reduceLE,Int.reduceAdd,Int.reduceSub,Int.reduceMul,Int.reduceNeg,Int.reduceNe,reduceCtorEq,Int.reduceToNat,↓reduceIte]
    refine ⟨⟨hrl, by omega, by omega⟩, fun hm0 => absurd hm0 (by omega), fun _ k => hQ _ _ (hs.upd2 (fun j x hx _ => by rw [List.getElem?_append_left (lt_of_get hx)]; exact hx) ?_ (.inr rfl))⟩
    rw [e0]
    have := HasL.first H c.words.length 2 (rulB (rulesC c)) [.str ⟨#[]⟩, .str ⟨#[]⟩] k hrl hz (sc_rulB _)
    simp only [List.nil_append, rulesC, List.length_map] at this ⊢
    exact this
  · have hiq : id ≠ q := fun e => hs.2.2.2.2.2.2.2.2.1 (by rw [e]; rfl)
    have hqa : ∀ x : Option (Bool × List AV), (H ++ [x])[q]? = some (some (false, [v1, .hsc id s.2.length cc])) := fun x => by rw [List.getElem?_append_left hqn]; exact hq
    have hqb : ∀ x : Option (Bool × List AV), (H.set id x)[q]? = some (some (false, [v1, .hsc id s.2.length cc])) := fun x => by rw [List.getElem?_set_ne hiq]; exact hq
    simp only [J_ref12_Run_j3, hq, d1, d2, hin, Int.toNat_natCast, hd, wkr,wk,if_true,if_false,forall_const,implies_true,ne_eq,eq_self,Nat.reduceEqDiff,Nat.reduceAdd,Nat.reduceMul,Nat.reduceSub,Nat.reduceLeDiff,Nat.reduceLT,Int.reduceEq,Int.reduceLT,Int.reduceLE,Int.reduceAdd,Int.reduceSub,Int.reduceMul,Int.reduceNeg,Int.reduceNe,reduceCtorEq,Int.reduceToNat,↓reduceIte]
    refine ⟨_, qr, ?_⟩
    simp only [hqa, hqb, p3, wkr,wk,if_true,if_false,forall_const,implies_true,ne_eq,eq_self,Nat.reduceEqDiff,Nat.reduceAdd,Nat.reduceMul,Nat.reduceSub,Nat.reduceLeDiff,Nat.reduceLT,Int.reduceEq,Int.reduceLT,Int.reduceLE,Int.reduceAdd,Int.reduceSub,Int.reduceMul,Int.reduceNeg,Int.reduceNe,reduceCtorEq,Int.reduceToNat,↓reduceIte]
    refine ⟨⟨p4, hrl, hw, p5, by omega, by omega⟩, fun hc => hQ _ _ (hs.upd2 (fun j x hx hne => by rw [List.getElem?_set_ne (fun e => hne (by rw [← e]; rfl))]; exact hx) ?_ (.inl rfl)), fun hc k => hQ _ _ (hs.upd2 (fun j x hx _ => by rw [List.getElem?_append_left (lt_of_get hx)]; exact hx) ?_ (.inr rfl))⟩
    · rw [hln, rulB_app]
      exact HasL.put p3 p4 p6 p7 c.words.length (rulB (rulesC c)) hrl (sc_rulB _) hc
    · rw [hln, rulB_app]
      exact HasL.grow p4 p5 p6 p7 c.words.length (rulB (rulesC c)) hrl (sc_rulB _) [.str ⟨#[]⟩, .str ⟨#[]⟩] hz k
set_option maxRecDepth 100000 in
set_option maxHeartbeats 8000000 in
theorem run_loop (roots : List RlB) (certs : List Crt) (hcn : certs.length ≤ 1000) (hcs : ∀ c ∈ certs, smallC c) (hck : ∀ c ∈ certs, checkE c = 0) (hsum : roots.length + sumC certs ≤ 400) (hrs : ∀ r ∈ roots, r.1.size ≤ 1000000 ∧ r.2.size ≤ 1000000) (bound : Nat) (hb : 1 ≤ bound ∧ bound ≤ 5000) (q : Nat) (h : Hp) (v1 v2 : AV) (hs : RunS h q ([], roots) v1 v2) :
    W Try.prog (.loop [1, 2, 6, 10] J_ref12_Run_j5) [(1, .lst .ro certs.length (crtsC certs)), (2, .int .i64 bound), (6, .ptr 0 0), (10, .ptr q 0)] h (kblock 2 (kret [.c 6 (some 2), .t 7] (RunQ (runF certs bound (certs.length + 1) ([], roots))))) := by
  obtain ⟨T, hT⟩ : ∃ T, runF certs bound (certs.length + 1) ([], roots) = T := ⟨_, rfl⟩
  rw [hT]
  refine W_loop (fun n fr h => ∃ (f : Nat) (s : AccR) (v1 v2 : AV), n = f ∧ certs.length + 1 ≤ s.1.length + f ∧ InvS certs roots.length s ∧ RunS h q s v1 v2 ∧ runF certs bound f s = T ∧ fr = [(1, .lst .ro certs.length (crtsC certs)), (2, .int .i64 bound), (6, .ptr 0 0), (10, .ptr q 0)]) (certs.length + 1) ⟨certs.length + 1, ([], roots), v1, v2, rfl, by simp, ⟨List.nodup_nil, by simp, by simp, hrs⟩, hs, hT, rfl⟩ ?_
  clear hs hT
  rintro n fr h' ⟨f, s, v1, v2, rfl, hf, hi, hs, hT, rfl⟩
  have hsn := nodup_len hi.1 hi.2.1
  obtain ⟨g, rfl⟩ : ∃ g, n = g + 1 := ⟨n - 1, by omega⟩
  simp only [runF] at hT
  obtain ⟨T2, hT2⟩ : ∃ T2, roundE certs bound certs.length 0 s = T2 := ⟨_, rfl⟩
  rw [hT2] at hT
  have hlen : (∃ id c, v1 = .hsc id s.1.length c) ∨ (v1 = .lst .clip 0 [] ∧ s.1.length = 0) := by
    rcases hs.2.2.2.1 with ⟨e1, e2⟩ | ⟨id, c, cells, e1, _⟩
    · exact .inr ⟨e2, e1⟩
    · exact .inl ⟨id, c, e1⟩
  have hq := hs.2.1
  have start : W Try.prog (.loop [1, 2, 6, 10, 11, 12] J_ref12_Run_j4) [(1, .lst .ro certs.length (crtsC certs)), (2, .int .i64 bound), (6, .ptr 0 0), (10, .ptr q 0), (11, .int .i64 s.1.length), (12, .int .i64 0)] h' (kblock 4 (kseq Try.prog J_ref12_Run_j1 (kblock 3 (kloop [1, 2, 6, 10] (fun n fr h => ∃ (f : Nat) (s : AccR) (v1 v2 : AV), n = f ∧ certs.length + 1 ≤ s.1.length + f ∧ InvS certs roots.length s ∧ RunS h q s v1 v2 ∧ runF certs bound f s = T ∧ fr = [(1, .lst .ro certs.length (crtsC certs)), (2, .int .i64 bound), (6, .ptr 0 0), (10, .ptr q 0)]) (g + 1) (kblock 2 (kret [.c 6 (some 2), .t 7] (RunQ T))))))) := by
    refine W_loop (fun m fr h => ∃ (i : Nat) (s' : AccR) (v1 v2 : AV), i ≤ certs.length ∧ m = certs.length - i ∧ InvS certs roots.length s' ∧ RunS h q s' v1 v2 ∧ roundE certs bound (certs.length - i) i s' = T2 ∧ s.1.length ≤ s'.1.length ∧ fr = [(1, .lst .ro certs.length (crtsC certs)), (2, .int .i64 bound), (6, .ptr 0 0), (10, .ptr q 0), (11, .int .i64 s.1.length), (12, .int .i64 i)]) certs.length ⟨0, s, v1, v2, by omega, by omega, hi, hs, hT2, by omega, rfl⟩ ?_
    clear hs hT2 hlen hq hi hsn
    rintro m fr h' ⟨i, s', v1, v2, hi', rfl, hi, hs, hT2, hsl, rfl⟩
    have hsn := nodup_len hi.1 hi.2.1
    have hq := hs.2.1
    have d1 := hs.2.2.2.1.deg
    have d2 := hs.2.2.2.2.1.deg
    simp only [J_ref12_Run_j4, hq, d1, d2, wkr,wk,if_true,if_false,forall_const,implies_true,ne_eq,eq_self,Nat.reduceEqDiff,Nat.reduceAdd,Nat.reduceMul,Nat.reduceSub,Nat.reduceLeDiff,Nat.reduceLT,Int.reduceEq,Int.reduceLT,Int.reduceLE,Int.reduceAdd,Int.reduceSub,Int.reduceMul,Int.reduceNeg,Int.reduceNe,reduceCtorEq,Int.reduceToNat,↓reduceIte]
    refine ⟨fun hlt => ?_, fun hge => ?_⟩
    · have hil : i < certs.length := by omega
      refine ACalls.use (a_reshas hs (by omega) i) ?_
      rintro a h2 ⟨rfl, rfl⟩
      have hin : ((0 ≤ (i : Int)) ∧ (i : Int) < (certs.length : Int)) = True := eqT ⟨by omega, by omega⟩
      have hd := crtsC_drop hil
      have hmem := List.getElem_mem hil
      have hsm := hcs _ hmem
      have hce := hck _ hmem
      have hT3 := hT2
      rw [show certs.length - i = (certs.length - (i + 1)) + 1 by omega] at hT3
      simp only [roundE, List.getElem?_eq_getElem hil] at hT3
      generalize hx : certs[i] = c at hd hsm hce hT3
      have hwl := hsm.2.2.1
      simp only [cC, List.cons_append, List.nil_append] at hd
      have next : ∀ (H : Hp) (s'' : AccR) (w1 w2 : AV), InvS certs roots.length s'' → RunS H q s'' w1 w2 → roundE certs bound (certs.length - (i + 1)) (i + 1) s'' = T2 → s.1.length ≤ s''.1.length → inR ((i : Int) + 1) ∧ ∃ m, m < certs.length - i ∧ ∃ (i' : Nat) (s' : AccR) (v1 v2 : AV), i' ≤ certs.length ∧ m = certs.length - i' ∧ InvS certs roots.length s' ∧ RunS H q s' v1 v2 ∧ roundE certs bound (certs.length - i') i' s' = T2 ∧ s.1.length ≤ s'.1.length ∧ [(1, AV.lst .ro certs.length (crtsC certs)), (2, .int .i64 bound), (6, .ptr 0 0), (10, .ptr q 0), (11, .int .i64 s.1.length), (12, .int .i64 ((i : Int) + 1))] = [(1, .lst .ro certs.length (crtsC certs)), (2, .int .i64 bound), (6, .ptr 0 0), (10, .ptr q 0), (11, .int .i64 s.1.length), (12, .int .i64 i')] := fun H s'' w1 w2 x1 x2 x3 x4 =>
        ⟨inR_of (by omega) (by omega), certs.length - (i + 1), by omega, i + 1, s'', w1, w2, by omega, rfl, x1, x2, x3, x4, by simp⟩
      simp only [hq, d1, d2, hin, Int.toNat_natCast, hd, wkr,wk,if_true,if_false,forall_const,implies_true,ne_eq,eq_self,Nat.reduceEqDiff,Nat.reduceAdd,Nat.reduceMul,Nat.reduceSub,Nat.reduceLeDiff,Nat.reduceLT,Int.reduceEq,Int.reduceLT,Int.reduceLE,Int.reduceAdd,Int.reduceSub,Int.reduceMul,Int.reduceNeg,Int.reduceNe,reduceCtorEq,Int.reduceToNat,↓reduceIte]
      refine ⟨fun hm => ?_, fun hm => ?_⟩
      · rw [if_pos hm] at hT3
        simp only [J_ref12_Run_j2, wkr,wk,if_true,if_false,forall_const,implies_true,ne_eq,eq_self,Nat.reduceEqDiff,Nat.reduceAdd,Nat.reduceMul,Nat.reduceSub,Nat.reduceLeDiff,Nat.reduceLT,Int.reduceEq,Int.reduceLT,Int.reduceLE,Int.reduceAdd,Int.reduceSub,Int.reduceMul,Int.reduceNeg,Int.reduceNe,reduceCtorEq,Int.reduceToNat,↓reduceIte]
        exact next _ _ _ _ hi hs hT3 hsl
      rw [if_neg hm] at hT3
      have hbk := fun h0 hu => a_backed hs ⟨by have := hi.2.2.1; omega, hi.2.2.2⟩ c hsm bound hb h0 hu
      simp only [vC, cC] at hbk
      refine ⟨_, hbk, ?_⟩
      have hz := hs.1
      have hs0 : ∀ x : Option (Bool × List AV), (h2.set 0 x)[0]? = some x := fun x => List.getElem?_set_self (lt_of_get hz)
      simp only [hq, hz, d1, d2, hin, Int.toNat_natCast, hd, wkr,wk,if_true,if_false,forall_const,implies_true,ne_eq,eq_self,Nat.reduceEqDiff,Nat.reduceAdd,Nat.reduceMul,Nat.reduceSub,Nat.reduceLeDiff,Nat.reduceLT,Int.reduceEq,Int.reduceLT,Int.reduceLE,Int.reduceAdd,Int.reduceSub,Int.reduceMul,Int.reduceNeg,Int.reduceNe,reduceCtorEq,Int.reduceToNat,↓reduceIte]
      refine ⟨fun g1 => ?_, fun g1 => ⟨fun g2 => ?_, fun g2 => ?_⟩⟩
      · rw [if_pos g1] at hT3
        subst hT3
        rw [if_pos g1] at hT
        subst hT
        simp only [val, ev, lk, hs0, wkr,wk,if_true,if_false,forall_const,implies_true,ne_eq,eq_self,Nat.reduceEqDiff,Nat.reduceAdd,Nat.reduceMul,Nat.reduceSub,Nat.reduceLeDiff,Nat.reduceLT,Int.reduceEq,Int.reduceLT,Int.reduceLE,Int.reduceAdd,Int.reduceSub,Int.reduceMul,Int.reduceNeg,Int.reduceNe,reduceCtorEq,Int.reduceToNat,↓reduceIte]
        exact ⟨_, _, rfl, .inl ⟨rfl, rfl⟩, .inl ⟨rfl, rfl⟩⟩
      · rw [if_neg (by simp [g1]), if_pos g2] at hT3
        have hwm : 0 < c.words.length := by
          have := (good_of hce).words
          rw [List.length_pos_iff]
          intro e
          rw [e] at this
          simp [setMay] at this
        have hqn := lt_of_get hq
        have hcx : certs[i]? = some c := by rw [List.getElem?_eq_getElem hil, hx]
        have hst := hi.step hsum hm hcx hsm
        have hz : ([.int .i64 0] : List AV).all sc = true := rfl
        have hls : (s'.1 ++ [i]).length = s'.1.length + 1 := by simp
        have hna : natC (s'.1 ++ [i]) = natC s'.1 ++ [.int .i64 i] := by simp [natC]
        have hkA : ∀ (x0 : Option (Bool × List AV)) (v : AV) (j : Nat) (x : Option (Bool × List AV)), h2[j]? = some x → idOf v ≠ some j → (h2 ++ [x0])[j]? = some x := fun x0 v j x hx' _ => by rw [List.getElem?_append_left (lt_of_get hx')]; exact hx'
        have fin : ∀ (H : Hp) (w1 : AV), s.1.length ≤ (s'.1 ++ [i]).length ∧ s'.2.length ≤ 1000000 := fun _ _ => ⟨by rw [hls]; omega, by have := hi.2.2.1; omega⟩
        rcases hs.2.2.2.1 with ⟨l0, rfl⟩ | ⟨id, cc, cells, rfl, p3, p4, p5, p6, p7⟩
        · have hqa : ∀ x : Option (Bool × List AV), (h2 ++ [x])[q]? = some (some (false, [.lst .clip 0 [], v2])) := fun x => by rw [List.getElem?_append_left hqn]; exact hq
          have e0 : s'.1 = [] := List.eq_nil_of_length_eq_zero l0
          simp only [hqa, d2, wkr,wk,if_true,if_false,forall_const,implies_true,ne_eq,eq_self,Nat.reduceEqDiff,Nat.reduceAdd,Nat.reduceMul,Nat.reduceSub,Nat.reduceLeDiff,Nat.reduceLT,Int.reduceEq,Int.reduceLT,Int.reduceLE,Int.reduceAdd,Int.reduceSub,Int.reduceMul,Int.reduceNeg,Int.reduceNe,reduceCtorEq,Int.reduceToNat,↓reduceIte]
          intro k
          refine run_acc certs bound s.1.length i hil hcn hx hsm hwm (s := (s'.1 ++ [i], s'.2)) (hs.upd1 (hkA _ _) ?_ (.inr rfl)) (fin h2 v1).2 _ (fun H' v2' h' => ?_)
          · have := HasL.first h2 1 1 [.int .i64 i] [.int .i64 0] k rfl hz rfl
            simp only [Nat.mul_one, List.cons_append, List.nil_append] at this
            rw [e0]; exact this
          · simp only [J_ref12_Run_j2, wkr,wk,if_true,if_false,forall_const,implies_true,ne_eq,eq_self,Nat.reduceEqDiff,Nat.reduceAdd,Nat.reduceMul,Nat.reduceSub,Nat.reduceLeDiff,Nat.reduceLT,Int.reduceEq,Int.reduceLT,Int.reduceLE,Int.reduceAdd,Int.reduceSub,Int.reduceMul,Int.reduceNeg,Int.reduceNe,reduceCtorEq,Int.reduceToNat,↓reduceIte]
            exact next H' _ _ v2' hst h' hT3 (fin h2 v1).1
        · have hiq : id ≠ q := fun e => hs.2.2.2.2.2.2.1 (by rw [e]; rfl)
          have hqa : ∀ x : Option (Bool × List AV), (h2 ++ [x])[q]? = some (some (false, [.hsc id s'.1.length cc, v2])) := fun x => by rw [List.getElem?_append_left hqn]; exact hq
          have hqb : ∀ x : Option (Bool × List AV), (h2.set id x)[q]? = some (some (false, [.hsc id s'.1.length cc, v2])) := fun x => by rw [List.getElem?_set_ne hiq]; exact hq
          have hkS : ∀ (x0 : Option (Bool × List AV)) (j : Nat) (x : Option (Bool × List AV)), h2[j]? = some x → idOf (.hsc id s'.1.length cc) ≠ some j → (h2.set id x0)[j]? = some x := fun x0 j x hx' hne => by rw [List.getElem?_set_ne (fun e => hne (by rw [← e]; rfl))]; exact hx'
          simp only [hqa, hqb, p3, d2, wkr,wk,if_true,if_false,forall_const,implies_true,ne_eq,eq_self,Nat.reduceEqDiff,Nat.reduceAdd,Nat.reduceMul,Nat.reduceSub,Nat.reduceLeDiff,Nat.reduceLT,Int.reduceEq,Int.reduceLT,Int.reduceLE,Int.reduceAdd,Int.reduceSub,Int.reduceMul,Int.reduceNeg,Int.reduceNe,reduceCtorEq,Int.reduceToNat,↓reduceIte]
          refine ⟨⟨by omega, p5, by omega, by omega⟩, fun hc => ?_, fun hc k => ?_⟩
          · refine run_acc certs bound s.1.length i hil hcn hx hsm hwm (s := (s'.1 ++ [i], s'.2)) (hs.upd1 (v1' := .hsc id (s'.1.length + 1) cc) (hkS _) ?_ (.inl rfl)) (fin h2 (.nilp)).2 _ (fun H' v2' h' => ?_)
            · have := HasL.put p3 p4 p6 p7 1 [.int .i64 i] rfl rfl hc
              simp only [Nat.mul_one, splice_cons, splice_nil] at this
              rw [hls, hna]
              exact this
            · simp only [J_ref12_Run_j2, wkr,wk,if_true,if_false,forall_const,implies_true,ne_eq,eq_self,Nat.reduceEqDiff,Nat.reduceAdd,Nat.reduceMul,Nat.reduceSub,Nat.reduceLeDiff,Nat.reduceLT,Int.reduceEq,Int.reduceLT,Int.reduceLE,Int.reduceAdd,Int.reduceSub,Int.reduceMul,Int.reduceNeg,Int.reduceNe,reduceCtorEq,Int.reduceToNat,↓reduceIte]
              exact next H' _ _ v2' hst h' hT3 (fin h2 .nilp).1
          · refine run_acc certs bound s.1.length i hil hcn hx hsm hwm (s := (s'.1 ++ [i], s'.2)) (hs.upd1 (hkA _ _) ?_ (.inr rfl)) (fin h2 .nilp).2 _ (fun H' v2' h' => ?_)
            · have := HasL.grow (H := h2) p4 p5 p6 p7 1 [.int .i64 i] rfl rfl [.int .i64 0] hz k
              simp only [Nat.mul_one] at this
              rw [hls, hna]
              exact this
            · simp only [J_ref12_Run_j2, wkr,wk,if_true,if_false,forall_const,implies_true,ne_eq,eq_self,Nat.reduceEqDiff,Nat.reduceAdd,Nat.reduceMul,Nat.reduceSub,Nat.reduceLeDiff,Nat.reduceLT,Int.reduceEq,Int.reduceLT,Int.reduceLE,Int.reduceAdd,Int.reduceSub,Int.reduceMul,Int.reduceNeg,Int.reduceNe,reduceCtorEq,Int.reduceToNat,↓reduceIte]
              exact next H' _ _ v2' hst h' hT3 (fin h2 .nilp).1
      · rw [if_neg (by simp [g1]), if_neg (by simp [g2])] at hT3
        try simp only [J_ref12_Run_j2, wkr,wk,if_true,if_false,forall_const,implies_true,ne_eq,eq_self,Nat.reduceEqDiff,Nat.reduceAdd,Nat.reduceMul,Nat.reduceSub,Nat.reduceLeDiff,Nat.reduceLT,Int.reduceEq,Int.reduceLT,Int.reduceLE,Int.reduceAdd,Int.reduceSub,Int.reduceMul,Int.reduceNeg,Int.reduceNe,reduceCtorEq,Int.reduceToNat,↓reduceIte]
        exact next _ _ _ _ hi hs hT3 hsl
    · obtain rfl : i = certs.length := by omega
      rw [Nat.sub_self] at hT2
      simp only [roundE] at hT2
      subst hT2
      simp only [ne_eq, not_true_eq_false, if_false] at hT
      have hlen : (∃ id c, v1 = .hsc id s'.1.length c) ∨ (v1 = .lst .clip 0 [] ∧ s'.1.length = 0) := by
        rcases hs.2.2.2.1 with ⟨e1, e2⟩ | ⟨id, c, cells, e1, _⟩
        · exact .inr ⟨e2, e1⟩
        · exact .inl ⟨id, c, e1⟩
      have hgo : ∀ e : Prop, (s'.1.length = s.1.length → RunQ T (.tup [.agg [v1, v2], .int .i64 0]) (h'.set 0 (some (false, [v1, v2])))) ∧ (¬ s'.1.length = s.1.length → runF certs bound g s' = T) := fun _ => by
        refine ⟨fun e => ?_, fun e => ?_⟩
        · rw [if_pos e] at hT
          subst hT
          exact ⟨v1, v2, rfl, hs.2.2.2.1.set hs.2.2.2.2.2.1 _, hs.2.2.2.2.1.set hs.2.2.2.2.2.2.2.1 _⟩
        · rw [if_neg e] at hT; exact hT
      have hz := hs.1
      have hs0 : ∀ x : Option (Bool × List AV), (h'.set 0 x)[0]? = some x := fun x => List.getElem?_set_self (lt_of_get hz)
      rcases hlen with ⟨id, c, rfl⟩ | ⟨rfl, h0⟩
      · simp only [J_ref12_Run_j1, hq, hz, d1, d2, wkr,wk,if_true,if_false,forall_const,implies_true,ne_eq,eq_self,Nat.reduceEqDiff,Nat.reduceAdd,Nat.reduceMul,Nat.reduceSub,Nat.reduceLeDiff,Nat.reduceLT,Int.reduceEq,Int.reduceLT,Int.reduceLE,Int.reduceAdd,Int.reduceSub,Int.reduceMul,Int.reduceNeg,Int.reduceNe,reduceCtorEq,Int.reduceToNat,↓reduceIte]
        refine ⟨fun e => ?_, fun e => ⟨g, by omega, g, s', _, v2, rfl, by omega, hi, hs, (hgo True).2 (by omega)⟩⟩
        simp only [val, ev, lk, hs0, d1, d2, wkr,wk,if_true,if_false,forall_const,implies_true,ne_eq,eq_self,Nat.reduceEqDiff,Nat.reduceAdd,Nat.reduceMul,Nat.reduceSub,Nat.reduceLeDiff,Nat.reduceLT,Int.reduceEq,Int.reduceLT,Int.reduceLE,Int.reduceAdd,Int.reduceSub,Int.reduceMul,Int.reduceNeg,Int.reduceNe,reduceCtorEq,Int.reduceToNat,↓reduceIte]
        exact (hgo True).1 (by omega)
      · simp only [J_ref12_Run_j1, hq, hz, d1, d2, wkr,wk,if_true,if_false,forall_const,implies_true,ne_eq,eq_self,Nat.reduceEqDiff,Nat.reduceAdd,Nat.reduceMul,Nat.reduceSub,Nat.reduceLeDiff,Nat.reduceLT,Int.reduceEq,Int.reduceLT,Int.reduceLE,Int.reduceAdd,Int.reduceSub,Int.reduceMul,Int.reduceNeg,Int.reduceNe,reduceCtorEq,Int.reduceToNat,↓reduceIte]
        refine ⟨fun e => ?_, fun e => ⟨g, by omega, g, s', _, v2, rfl, by omega, hi, hs, (hgo True).2 (by omega)⟩⟩
        simp only [val, ev, lk, hs0, d1, d2, wkr,wk,if_true,if_false,forall_const,implies_true,ne_eq,eq_self,Nat.reduceEqDiff,Nat.reduceAdd,Nat.reduceMul,Nat.reduceSub,Nat.reduceLeDiff,Nat.reduceLT,Int.reduceEq,Int.reduceLT,Int.reduceLE,Int.reduceAdd,Int.reduceSub,Int.reduceMul,Int.reduceNeg,Int.reduceNe,reduceCtorEq,Int.reduceToNat,↓reduceIte]
        exact (hgo True).1 (by omega)
  rcases hlen with ⟨id, c, rfl⟩ | ⟨rfl, h0⟩
  · simp only [J_ref12_Run_j5, hq, wkr,wk,if_true,if_false,forall_const,implies_true,ne_eq,eq_self,Nat.reduceEqDiff,Nat.reduceAdd,Nat.reduceMul,Nat.reduceSub,Nat.reduceLeDiff,Nat.reduceLT,Int.reduceEq,Int.reduceLT,Int.reduceLE,Int.reduceAdd,Int.reduceSub,Int.reduceMul,Int.reduceNeg,Int.reduceNe,reduceCtorEq,Int.reduceToNat,↓reduceIte]
    exact start
  · simp only [J_ref12_Run_j5, hq, wkr,wk,if_true,if_false,forall_const,implies_true,ne_eq,eq_self,Nat.reduceEqDiff,Nat.reduceAdd,Nat.reduceMul,Nat.reduceSub,Nat.reduceLeDiff,Nat.reduceLT,Int.reduceEq,Int.reduceLT,Int.reduceLE,Int.reduceAdd,Int.reduceSub,Int.reduceMul,Int.reduceNeg,Int.reduceNe,reduceCtorEq,Int.reduceToNat,↓reduceIte]
    rw [h0] at start
    exact start
set_option maxRecDepth 100000 in
set_option maxHeartbeats 8000000 in
theorem a_run0 (roots : List RlB) (hr : smallR roots) (certs : List Crt) (hcn : certs.length ≤ 1000) (hcs : ∀ c ∈ certs, smallC c) (bound : Nat) (hb : 1 ≤ bound ∧ bound ≤ 5000) : ACalls Try.prog 20 [vRul roots, .lst .ro certs.length (crtsC certs), .int .i64 bound] [] (fun a h' => ∃ v1 v2 : AV, a = .tup [.agg [v1, v2], .int .i64 (runE roots certs bound).2] ∧ HasL h' v1 (runE roots certs bound).1.1.length 1 (natC (runE roots certs bound).1.1) ∧ HasL h' v2 (runE roots certs bound).1.2.length 2 (rulB (runE roots certs bound).1.2)) := by
  have hrl := hr.1
  refine acalls_of mixed J_ref12_Run_ok (Nat.le_of_ble_eq_true rfl) ?_; simp only [J_ref12_Run, vRul, wkr,wk,if_true,if_false,forall_const,implies_true,ne_eq,eq_self,Nat.reduceEqDiff,Nat.reduceAdd,Nat.reduceMul,Nat.reduceSub,Nat.reduceLeDiff,Nat.reduceLT,Int.reduceEq,Int.reduceLT,Int.reduceLE,Int.reduceAdd,Int.reduceSub,Int.reduceMul,Int.reduceNeg,Int.reduceNe,reduceCtorEq,Int.reduceToNat,↓reduceIte]
  refine W_loop (fun n fr h => ∃ i : Nat, i ≤ certs.length ∧ n = certs.length - i ∧ (∀ c ∈ certs.take i, checkE c = 0) ∧ fr = [(0, .lst .ro roots.length (rulB roots)), (1, .lst .ro certs.length (crtsC certs)), (2, .int .i64 bound), (6, .ptr 0 0), (8, .int .i64 ((roots.length + sumC (certs.take i) : Nat) : Int)), (9, .int .i64 i)] ∧ h = [some (false, [.lst .clip 0 [], .lst .clip 0 []])]) certs.length ⟨0, by omega, by omega, by simp, by rw [List.take_zero]; rfl, rfl⟩ ?_
  rintro n fr h' ⟨i, hi, rfl, hall, rfl, rfl⟩
  simp only [J_ref12_Run_j7, wkr,wk,if_true,if_false,forall_const,implies_true,ne_eq,eq_self,Nat.reduceEqDiff,Nat.reduceAdd,Nat.reduceMul,Nat.reduceSub,Nat.reduceLeDiff,Nat.reduceLT,Int.reduceEq,Int.reduceLT,Int.reduceLE,Int.reduceAdd,Int.reduceSub,Int.reduceMul,Int.reduceNeg,Int.reduceNe,reduceCtorEq,Int.reduceToNat,↓reduceIte]
  refine ⟨fun hlt => ?_, fun hge => ?_⟩
  · have hil : i < certs.length := by omega
    have hin : ((0 ≤ (i : Int)) ∧ (i : Int) < (certs.length : Int)) = True := eqT ⟨by omega, by omega⟩
    have hd := crtsC_drop hil
    have hsm := hcs _ (List.getElem_mem hil)
    have qc := p_rcheck certs[i] hsm
    generalize hx : certs[i] = c at hd hsm qc
    simp only [cC, vC, List.cons_append, List.nil_append] at hd qc
    have hall2 : checkE c = 0 → ∀ x ∈ certs.take (i + 1), checkE x = 0 := fun he x hx' => by
      rw [List.take_succ_eq_append_getElem hil, hx] at hx'
      rcases List.mem_append.1 hx' with h1 | h1
      · exact hall x h1
      · simp only [List.mem_singleton] at h1; subst h1; exact he
    have hsum : sumC (certs.take (i + 1)) = sumC (certs.take i) + c.words.length := by
      rw [List.take_succ_eq_append_getElem hil, hx]
      simp [sumC]
    have hbig : sumC (certs.take i) ≤ i * 10000 := by
      have : ∀ l : List Crt, (∀ x ∈ l, smallC x) → sumC l ≤ l.length * 10000 := by
        intro l
        induction l with
        | nil => intro _; simp [sumC]
        | cons y l ihl =>
          intro hl
          have h1 := (hl y (by simp)).2.2.1
          have h2 := ihl (fun x hx => hl x (by simp [hx]))
          simp only [sumC, List.map_cons, List.sum_cons, List.length_cons] at h2 ⊢
          omega
      have h3 := this (certs.take i) (fun x hx => hcs x (List.mem_of_mem_take hx))
      rw [List.length_take] at h3
      omega
    simp only [hin, Int.toNat_natCast, hd, wkr,wk,if_true,if_false,forall_const,implies_true,ne_eq,eq_self,Nat.reduceEqDiff,Nat.reduceAdd,Nat.reduceMul,Nat.reduceSub,Nat.reduceLeDiff,Nat.reduceLT,Int.reduceEq,Int.reduceLT,Int.reduceLE,Int.reduceAdd,Int.reduceSub,Int.reduceMul,Int.reduceNeg,Int.reduceNe,reduceCtorEq,Int.reduceToNat,↓reduceIte]
    refine PCalls.use qc ?_
    simp only [hin, Int.toNat_natCast, hd, wkr,wk,if_true,if_false,forall_const,implies_true,ne_eq,eq_self,Nat.reduceEqDiff,Nat.reduceAdd,Nat.reduceMul,Nat.reduceSub,Nat.reduceLeDiff,Nat.reduceLT,Int.reduceEq,Int.reduceLT,Int.reduceLE,Int.reduceAdd,Int.reduceSub,Int.reduceMul,Int.reduceNeg,Int.reduceNe,reduceCtorEq,Int.reduceToNat,↓reduceIte]
    have hwl := hsm.2.2.1
    refine ⟨fun hne => ?_, fun he => ?_⟩
    · have hR : runE roots certs bound = (([], []), 2) := by
        unfold runE
        rw [if_pos (List.any_eq_true.2 ⟨c, hx ▸ List.getElem_mem hil, by simpa using hne⟩)]
      rw [hR]
      try simp only [val, ev, lk, wkr,wk,if_true,if_false,forall_const,implies_true,ne_eq,eq_self,Nat.reduceEqDiff,Nat.reduceAdd,Nat.reduceMul,Nat.reduceSub,Nat.reduceLeDiff,Nat.reduceLT,Int.reduceEq,Int.reduceLT,Int.reduceLE,Int.reduceAdd,Int.reduceSub,Int.reduceMul,Int.reduceNeg,Int.reduceNe,reduceCtorEq,Int.reduceToNat,↓reduceIte]
      exact ⟨_, _, rfl, .inl ⟨rfl, rfl⟩, .inl ⟨rfl, rfl⟩⟩
    · exact ⟨inR_of (by omega) (by omega), inR_of (by omega) (by omega), certs.length - (i + 1), by omega, i + 1, by omega, rfl, hall2 he, by rw [hsum]; simp [Int.add_assoc]⟩
  · obtain rfl : i = certs.length := by omega
    rw [List.take_of_length_le (Nat.le_refl _)] at hall
    simp only [J_ref12_Run_j6, List.take_of_length_le (Nat.le_refl _), wkr,wk,if_true,if_false,forall_const,implies_true,ne_eq,eq_self,Nat.reduceEqDiff,Nat.reduceAdd,Nat.reduceMul,Nat.reduceSub,Nat.reduceLeDiff,Nat.reduceLT,Int.reduceEq,Int.reduceLT,Int.reduceLE,Int.reduceAdd,Int.reduceSub,Int.reduceMul,Int.reduceNeg,Int.reduceNe,reduceCtorEq,Int.reduceToNat,↓reduceIte]
    have hck : certs.any (fun c => decide (checkE c ≠ 0)) = false := List.any_eq_false.2 fun c hc => by simp [hall c hc]
    refine ⟨fun h4 => ?_, fun h4 => ⟨fun h5 => ⟨fun h6 => by omega, fun h6 => ?_⟩, fun h5 => by omega⟩⟩
    · have hR : runE roots certs bound = (([], []), 3) := by
        unfold runE
        rw [if_neg (by rw [hck]; simp), if_pos (by omega)]
      rw [hR]
      try simp only [val, ev, lk, wkr,wk,if_true,if_false,forall_const,implies_true,ne_eq,eq_self,Nat.reduceEqDiff,Nat.reduceAdd,Nat.reduceMul,Nat.reduceSub,Nat.reduceLeDiff,Nat.reduceLT,Int.reduceEq,Int.reduceLT,Int.reduceLE,Int.reduceAdd,Int.reduceSub,Int.reduceMul,Int.reduceNeg,Int.reduceNe,reduceCtorEq,Int.reduceToNat,↓reduceIte]
      exact ⟨_, _, rfl, .inl ⟨rfl, rfl⟩, .inl ⟨rfl, rfl⟩⟩
    · have hR : runE roots certs bound = runF certs bound (certs.length + 1) ([], roots) := by
        unfold runE
        rw [if_neg (by rw [hck]; simp), if_neg (by omega)]
      rw [hR]
      refine ⟨⟨rulB_len _, by omega, by omega⟩, fun h7 => ?_, fun h7 k => ?_⟩
      · have e0 : roots = [] := List.eq_nil_of_length_eq_zero h7
        subst e0
        exact run_loop [] certs hcn hcs hall (by omega) (by simp) bound hb 1 _ _ _ ⟨rfl, rfl, by omega, .inl ⟨rfl, rfl⟩, .inl ⟨rfl, rfl⟩, by simp [idOf], by simp [idOf], by simp [idOf], by simp [idOf], by simp [idOf]⟩
      · exact run_loop roots certs hcn hcs hall (by omega) hr.2 bound hb 2 _ _ _ ⟨rfl, rfl, by omega, .inl ⟨rfl, rfl⟩, .inr ⟨1, _, _, rfl, rfl, by rw [List.length_append, rulB_len, zrow_len, Nat.add_mul], Nat.le_add_right _ _, by show List.take (roots.length * 2) _ = _; rw [← rulB_len, List.take_left], all_app2 (sc_rulB _) (sc_zrow rfl _ _)⟩, by simp [idOf], by simp [idOf], by simp [idOf], by simp [idOf], by simp [idOf]⟩
end Go.Proofs.Ytlfnepcglnjogaa

/- Accept: what holds of what is accepted; the document's Run as a call that only tells. -/
-- fast
namespace Go.Proofs.Ytlfnepcglnjogaa
set_option linter.unusedSimpArgs false
set_option linter.unusedVariables false
open Go.RowKit Go.Lib

theorem roundE_inv {P : AccR → Prop} {certs : List Crt} {bound : Nat} (h0 : P ([], [])) (hs : ∀ s i c, P s → i ∉ s.1 → certs[i]? = some c → (backE s.2 c bound).1 = true → P (s.1 ++ [i], s.2 ++ rulesC c)) : ∀ (f i : Nat) (s : AccR), P s → P (roundE certs bound f i s).1
  | 0, _, _, hp => hp
  | f + 1, i, s, hp => by
    simp only [roundE]
    split
    · exact roundE_inv h0 hs f (i + 1) s hp
    · next hm =>
      cases hc : certs[i]? with
      | none => exact hp
      | some c =>
        simp only
        split
        · exact h0
        · split
          · next hb => exact roundE_inv h0 hs f (i + 1) _ (hs s i c hp hm hc hb)
          · exact roundE_inv h0 hs f (i + 1) s hp
theorem runF_inv {P : AccR → Prop} {certs : List Crt} {bound : Nat} (h0 : P ([], [])) (hs : ∀ s i c, P s → i ∉ s.1 → certs[i]? = some c → (backE s.2 c bound).1 = true → P (s.1 ++ [i], s.2 ++ rulesC c)) : ∀ (f : Nat) (s : AccR), P s → P (runF certs bound f s).1
  | 0, _, hp => hp
  | f + 1, s, hp => by
    have h1 := roundE_inv h0 hs certs.length 0 s hp
    simp only [runF]
    split
    · exact h0
    · split
      · exact h1
      · exact runF_inv h0 hs f _ h1
theorem runE_inv {P : AccR → Prop} {roots : List RlB} {certs : List Crt} {bound : Nat} (h0 : P ([], [])) (h1 : P ([], roots)) (hs : roots.length + sumC certs ≤ 400 → ∀ s i c, P s → i ∉ s.1 → certs[i]? = some c → (backE s.2 c bound).1 = true → P (s.1 ++ [i], s.2 ++ rulesC c)) : P (runE roots certs bound).1 := by
  unfold runE
  split
  · exact h0
  · split
    · exact h0
    · exact runF_inv h0 (hs (by omega)) _ _ h1
theorem run_small {roots : List RlB} {certs : List Crt} {bound : Nat} (hr : smallR roots) (hrl : roots.length ≤ 400) (hcn : certs.length ≤ 1000) (hcs : ∀ c ∈ certs, smallC c) : smallR (runE roots certs bound).1.2 := by
  have := runE_inv (P := InvS certs roots.length) (roots := roots) (certs := certs) (bound := bound) ⟨List.nodup_nil, by simp, by simp, by simp⟩ ⟨List.nodup_nil, by simp, by simp, hr.2⟩ (fun hsum s i c hi hm hc _ => hi.step hsum hm hc (hcs c (List.mem_of_getElem? hc)))
  have hn := nodup_len this.1 this.2.1
  exact ⟨by have := this.2.2.1; omega, this.2.2.2⟩
theorem rulesC_in {m : Mdl} {c : Crt} (hh : honestE m c = true) {rules : List RlB} {bound : Nat} (hr : RulesIn m.rows rules) (hb : (backE rules c bound).1 = true) : RulesIn m.rows (rulesC c) := by
  unfold backE at hb
  split at hb
  · cases hb
  · have hl := backW_led hr c.words hb
    intro r hm _
    simp only [rulesC, List.mem_map] at hm
    obtain ⟨w, hw, rfl⟩ := hm
    simp only [honestE, Bool.or_eq_true] at hh
    rcases hh with hh | hh
    · obtain ⟨x, hx, hx2⟩ := List.any_eq_true.1 hh
      rw [hl x hx] at hx2
      cases hx2
    · exact List.all_eq_true.1 hh w hw
theorem run_inn {m : Mdl} {roots : List RlB} {certs : List Crt} {bound : Nat} (hr : RulesIn m.rows roots) (hh : ∀ c ∈ certs, honestE m c = true) : RulesIn m.rows (runE roots certs bound).1.2 := by
  refine runE_inv (P := fun s => RulesIn m.rows s.2) (by intro r hr'; simp at hr') hr (fun _ s i c hi _ hc hb => ?_)
  intro r hm
  rcases List.mem_append.1 hm with hm | hm
  · exact hi r hm
  · exact rulesC_in (hh c (List.mem_of_getElem? hc)) hi hb r hm
theorem HasL.fz {h : Hp} {v : AV} {n sz : Nat} {l : List AV} (hs : HasL h v n sz l) (hl : l.length = n * sz) (hp : plains l) : free (fz h v) = true ∧ Shr (fz h v) (.lst .ro n l) := by
  rcases hs with ⟨rfl, rfl⟩ | ⟨id, c, cells, rfl, h3, h4, h5, h6, h7⟩
  · have : l = [] := List.eq_nil_of_length_eq_zero (by omega)
    subst this
    exact ⟨rfl, .lst .clip 0 0 [] (by intro a ha; simp at ha)⟩
  · simp only [Go.Proofs.Ytlfnepcglnjogaa.fz, h3, sc_deg h7]
    refine ⟨sc_frees h7, ?_⟩
    rw [← h6] at hp ⊢
    exact .lst .ro n (n * sz) cells hp
def vRes (r : AccR) : AV := .agg [.lst .ro r.1.length (natC r.1), vRul r.2]
theorem p_rrun (roots : List RlB) (hr : smallR roots) (certs : List Crt) (hcn : certs.length ≤ 1000) (hcs : ∀ c ∈ certs, smallC c) (bound : Nat) (hb : 1 ≤ bound ∧ bound ≤ 5000) : PCalls Try.prog 20 [vRul roots, .lst .ro certs.length (crtsC certs), .int .i64 bound] (.tup [vRes (runE roots certs bound).1, .int .i64 (runE roots certs bound).2]) := by
  refine pcalls_fzs (by simp [vRul, free, free.frees, frees_rulB, frees_crtsC]) (by simp [vRes, vRul, free, free.frees, frees_rulB, frees_natC]) ((a_run0 roots hr certs hcn hcs bound hb).mono fun a h' ⟨v1, v2, ha, h1, h2⟩ => ?_)
  subst ha
  obtain ⟨f1, s1⟩ := h1.fz (by rw [natC_len, Nat.mul_one]) (plains_natC _)
  obtain ⟨f2, s2⟩ := h2.fz (rulB_len _) (plains_rulB _)
  simp only [Go.Proofs.Ytlfnepcglnjogaa.fz, fzs]
  refine ⟨by simp [free, free.frees, f1, f2], .tup _ _ (.cons (.agg _ _ (.cons s1 (.cons s2 .nil)) ?_) (.cons (.same _) .nil)) ?_⟩
  · intro a ha
    simp only [List.mem_cons, List.not_mem_nil, or_false] at ha
    rcases ha with rfl | rfl <;> rfl
  · intro a ha
    simp only [List.mem_cons, List.not_mem_nil, or_false] at ha
    rcases ha with rfl | rfl <;> rfl
end Go.Proofs.Ytlfnepcglnjogaa
