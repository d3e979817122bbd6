/- Texts of one proof, laid together: Sk Sl Sn Su Sw Sv Sx Sy Ca Sz Cb Cd Ce Cf Cg Ch Oe Of Og Oj Ok Ow Wa Wb. -/
import Derived.Test.YtlfnepcglnjogaaMA5
import Derived.Test.YtlfnepcglnjogaaMA10
import Derived.Test.YtlfnepcglnjogaaMA1
import Derived.Test.YtlfnepcglnjogaaMA15
import Derived.Test.YtlfnepcglnjogaaMA14
import Derived.Maps.OwnSet

/- What set.Of does, by the library's contracts. -/
namespace Go.Proofs.Ytlfnepcglnjogaa
set_option linter.unusedSimpArgs false
set_option linter.unusedVariables false
open Go.RowKit Go.Lib Go.Sort Go.Shelf

set_option maxHeartbeats 400000 in
theorem cmp_any (x y : ByteArray) (w : World) :
    Calls Try.prog 79 #[.string x, .string y] w fun e w' => e = .returned (.int .i64 (cmpW x y)) ∧ ∃ q, w' = w.drewN q := by
  cases h1 : wless x y with
  | true =>
    have H1 := Lib.hid h1
    have e : Hid (cmpW x y = -1) := by show _ = _; unfold cmpW; rw [h1]; rfl
    clear h1
    go_enter Try.func79, Try.ntmps79
    go_wp2_with (go_at_call 52; refine (wless_any _ _ _).mono ?_; rintro e w' ⟨rfl, rfl⟩; rw [H1.out])
    go_ret
    exact ⟨by rw [e.out]; rfl, 0, rfl⟩
  | false =>
    have H1 := Lib.hid h1
    cases h2 : wless y x with
    | true =>
      have H2 := Lib.hid h2
      have e : Hid (cmpW x y = 1) := by show _ = _; unfold cmpW; rw [h1, h2]; rfl
      clear h1 h2
      go_enter Try.func79, Try.ntmps79
      go_wp2_with (go_at_call 52; refine (wless_any _ _ _).mono ?_; rintro e w' ⟨rfl, rfl⟩; first | rw [H1.out] | rw [H2.out])
      go_ret
      exact ⟨by rw [e.out]; rfl, 0, rfl⟩
    | false =>
      have H2 := Lib.hid h2
      have e : Hid (cmpW x y = 0) := by show _ = _; unfold cmpW; rw [h1, h2]; rfl
      clear h1 h2
      go_enter Try.func79, Try.ntmps79
      go_wp2_with (go_at_call 52; refine (wless_any _ _ _).mono ?_; rintro e w' ⟨rfl, rfl⟩; first | rw [H1.out] | rw [H2.out])
      go_ret
      exact ⟨by rw [e.out]; rfl, 0, rfl⟩
theorem holds_row {w : World} {b : Nat} {cur : Array Value} {e : TypeId} {l : List ByteArray} (hb : w.heap[b]? = some (.cells cur e (0, 0))) (ht : cur.toList.take l.length = l.map .string) : Holds Value.string w b 0 l.toArray := by
  intro j hj
  have hj' : j < l.length := by simpa using hj
  refine ⟨?_, by simp [World.frozen?, hb]⟩
  have h1 : (cur.toList.take l.length)[j]? = (l.map Value.string)[j]? := by rw [ht]
  rw [List.getElem?_take_of_lt hj'] at h1
  simp only [World.cell?, hb, Nat.zero_add]
  simp only [Option.isSome_none, Bool.false_eq_true, if_false]
  rw [← Array.getElem?_toList, h1]
  simp [hj']
theorem eql_word (T : TypeId) : EqlAt Try.prog T Value.string (fun x y => decide (x = y)) := ⟨fun x y w => by rw [(EqlAt.string Try.prog T).1 x y w]; simp only [str_iff], (EqlAt.string Try.prog T).2⟩
theorem neq_word (T : TypeId) : NeqAt Try.prog T Value.string (fun x y => decide (x = y)) := ⟨fun x y w => by rw [(NeqAt.string Try.prog T).1 x y w]; simp only [str_iff], (NeqAt.string Try.prog T).2⟩
theorem cmp_lays (blk off size : Nat) (w : World) : CmpLays1 Try.prog 79 #[] Value.string cmpW blk off size w :=
  CmpReads.lays fun _ _ _ _ x y => cmp_any x y _
theorem holds_grow {w : World} {blk off : Nat} {d : Array ByteArray} (os : Array Obj) (hb : blk < w.heap.size) (h : Holds Value.string w blk off d) : Holds Value.string (grow w os) blk off d := by
  have e : (grow w os).heap[blk]? = w.heap[blk]? := by simp only [grow]; rw [Array.getElem?_append_left hb]
  intro j hj
  obtain ⟨h1, h2⟩ := h j hj
  refine ⟨?_, ?_⟩
  · rw [World.cell?_of_block (w := w) e]; exact h1
  · simp only [World.frozen?] at h2 ⊢
    rw [e]; exact h2
theorem below_put {w : World} {B blk off q : Nat} {d : Array ByteArray} (hb : B ≤ blk) : RowKit.Below B w (putRow Value.string (Sort.ahead w q) blk off d) :=
  ⟨rfl, rfl, rfl, by simp [putRow, mapBlock, Sort.ahead], fun k hk => by
    simp only [putRow, mapBlock, Sort.ahead, Array.getElem?_modify]
    rw [if_neg (by omega)]⟩
theorem below_grow {w w' : World} {B : Nat} (os : Array Obj) (hs : B ≤ w.heap.size) (h : RowKit.Below B w w') : RowKit.Below B w (grow w' os) :=
  ⟨h.os, h.tape, h.output, by simp only [grow, Array.size_append]; have := h.size; omega, fun k hk => by
    simp only [grow]
    rw [Array.getElem?_append_left (by have := h.size; omega)]
    exact h.block k hk⟩
set_option maxHeartbeats 400000 in
theorem clip_any (b n c : Nat) (w : World) (hn : 0 < n) (hc : n ≤ c) (hm : n ≤ 9223372036854775807) :
    Calls Try.prog 81 #[.slice (some ⟨b, 0, none⟩) n c] w fun e w' => e = .returned (.slice (some ⟨b, 0, none⟩) n n) ∧ w = w' := by
  go_enter Try.func81, Try.ntmps81
  go_wp2
  go_ret
  exact ⟨rfl, rfl⟩
structure Made (w w' : World) (e : Ending) (r : List ByteArray × Int) : Prop where
  below : Below w.heap.size w w'
  res : (r.2 ≠ 0 ∧ e = .returned (.tuple #[.slice none 0 0, .int .i64 r.2])) ∨ (r.2 = 0 ∧ ∃ b c, w.heap.size ≤ b ∧ e = .returned (.tuple #[.slice (some ⟨b, 0, none⟩) r.1.length c, .int .i64 0]) ∧ r.1.length ≤ c ∧ ∀ i s, r.1[i]? = some s → w'.cell? ⟨b, i, none⟩ = some (.string s))
set_option maxRecDepth 100000 in
set_option maxHeartbeats 2000000 in
theorem sof_any (rb off cap n : Nat) (l : List ByteArray) (w : World) (hl : Hid (l.length = n)) (h0 : 0 < n) (hn : n ≤ 1000000) (hr : Hid (∀ j u, (l.map Value.string)[j]? = some u → w.cell? ⟨rb, off + j, none⟩ = some u)) (hs : Hid (∀ x ∈ l, x.size ≤ 9223372036854775807)) :
    Calls Try.prog 74 #[.slice (some ⟨rb, off, none⟩) n cap] w fun e w' => Made w w' e (ofE l) := by
  go_enter Try.func74, Try.ntmps74
  go_wp2_with fail
  go_loopw [9] (fun t wr => ∃ i : Nat, i ≤ n ∧ t = .int .i64 i ∧ Hid (∀ x ∈ l.take i, wordMay x = true) ∧ Drawn w wr) (fun t _ => n - (intOf t).toNat)
  case atStart => exact ⟨0, by omega, rfl, by intro x hx; simp at hx, 0, rfl⟩
  case round =>
    obtain ⟨i, hi, rfl, hall, q, rfl⟩ := hrel
    by_cases hlt : i < n
    · have hil : i < l.length := by have := hl.out; omega
      have ci : w.cell? ⟨rb, off + i, none⟩ = some (.string l[i]) := hr.out i _ (by simp [hil])
      have hsz := hs.out l[i] (List.getElem_mem hil)
      have hmem := Lib.hid (List.getElem_mem hil)
      have hnext : Hid (wordMay l[i] = true → ∀ x ∈ l.take (i + 1), wordMay x = true) := by
        intro hw x hx
        rw [List.take_succ_eq_append_getElem hil, List.mem_append] at hx
        rcases hx with hx | hx
        · exact hall.out x hx
        · simp at hx; subst hx; exact hw
      generalize l[i] = y at ci hsz hmem hnext
      cases hwy : wordMay y with
      | false =>
        have e : Hid (ofE l = ([], 2)) := by
          show _ = _
          unfold ofE
          rw [if_pos]
          cases hb : l.all wordMay with
          | false => rfl
          | true => rw [List.all_eq_true.1 hb y hmem.out] at hwy; cases hwy
        have HWY := Lib.hid hwy
        clear hwy
        go_wp2_with fail
        refine (wmay_any y _ hsz).mono ?_
        rintro e w' ⟨rfl, m, rfl⟩
        rw [HWY.out]
        go_wp2_with fail
        go_ret2
        rw [e.out]
        exact ⟨⟨rfl, rfl, rfl, Nat.le_refl _, fun _ _ => rfl⟩, .inl ⟨by decide, rfl⟩⟩
      | true =>
        have HWY := Lib.hid hwy
        clear hwy
        go_wp2_with fail
        refine (wmay_any y _ hsz).mono ?_
        rintro e w' ⟨rfl, m, rfl⟩
        rw [HWY.out]
        go_wp2_with fail
        go_roundw
        case rel => exact ⟨i + 1, by omega, by go_num, hnext.out HWY.out, q + m, rfl⟩
        case measure => simp [intOf]; omega
    · have hin : i = n := by omega
      subst hin
      go_wp2_with fail
      obtain ⟨i0, z, hi0, hz, hz1, hz2, hzs, _⟩ := elem_of (P := Try.prog) (e := 27) (sz := 1) (bytes := 16) (by kernel_rfl)
      refine (AnyE.slices_Clone lClone i0 z 1 16 hi0 hz hz1 hz2 hzs (by decide) Try.sizeOf27 rb off i cap (l.map .string) (w.drewN q) (by rw [List.length_map, hl.out, Nat.mul_one]) (by unfold maxLen; omega) (by omega) hr.out (fun u hu => by obtain ⟨s, _, rfl⟩ := List.mem_map.1 hu; rfl)).mono ?_
      rintro e w2 ⟨v', rfl, hown, hnn, hbel⟩
      rcases hown.2 with ⟨rfl, _⟩ | ⟨b, c, cur, rfl, hb, hblk, hnc, hcm, hcs, htake⟩
      · exact absurd rfl hnn
      have hH : Holds Value.string w2 b 0 l.toArray := holds_row hblk (by rw [hl.out]; simpa using htake)
      have hbs : b < w2.heap.size := lt_of_block hblk
      have hd : l.toArray.size = i := by simpa using hl.out
      have hsort := Any.slices_SortFunc lSort Value.string (fun _ => rfl) cmpW swo_cmp 79 #[] b 0 c l.toArray w2 (enters_of Try.func79 (by kernel_rfl) rfl) (cmp_lays b 0 _ w2) hH hbs (by rw [hd]; omega)
      rw [hd] at hsort
      have HH := Lib.hid hH
      have HB := Lib.hid hbel
      clear hH hbel htake hcs hown
      go_wp2_with fail
      refine hsort.mono ?_
      rintro e w3 ⟨rfl, d', q2, os, hperm, hsorted, hw3⟩
      have hd' : d'.size = i := by rw [hperm.1, hd]
      have hH3 : Holds Value.string w3 b 0 d' := by
        rw [hw3]
        unfold sortWorld
        exact holds_grow os (by simpa [putRow, mapBlock, Sort.ahead] using hbs) (holds_putRow _ _ b 0 l.toArray d' (holds_ahead _ _ _ _ _ _ HH.out) (by rw [hd', hd]))
      have hB3 : Hid (RowKit.Below w.heap.size w w3) := by
        have h1 : RowKit.Below w.heap.size w w2 := ⟨HB.out.os, HB.out.tape, HB.out.output, HB.out.size, HB.out.block⟩
        refine h1.trans ?_
        rw [hw3]
        unfold sortWorld
        exact below_grow os h1.size (below_put hb)
      have hcomp : Hid (compactUpTo d' d'.size = nrm l) := by
        refine compact_nrm (fun a b' hab hb' => ?_) (fun x => ?_)
        · have := hsorted a b' (Nat.zero_le _) hab (by omega)
          rwa [ltOf_cmp] at this
        · have hp := hperm.2.2.mem_iff (a := x)
          have e1 : (d'.extract 0 i).toList = d'.toList := by simp [← hd']
          have e2 : (l.toArray.extract 0 i).toList = l := by simp; exact List.take_of_length_le (by rw [hl.out]; exact Nat.le_refl _)
          rw [e1, e2] at hp
          exact hp
      have hsize3 : Hid (b < w3.heap.size) := by
        show _ < _
        rw [hw3]
        simp only [sortWorld, grow, Array.size_append, putRow, mapBlock, Sort.ahead, Array.size_modify]
        omega
      have hcompact := AnyE.slices_Compact lCompact Value.string (fun _ => rfl) (eql_word _) (neq_word _) ByteArray.empty Try.zeroValue27 b 0 c d' w3 hH3 (by rw [hd']; omega) (by rw [hd']; exact hnc)
      rw [hcomp.out, hd'] at hcompact
      have HH3 := Lib.hid hH3
      have hlen : Hid ((nrm l).length ≤ i ∧ 0 < (nrm l).length) := by
        have h1 : ∀ l : List ByteArray, (nrm l).length ≤ l.length := by
          have h : ∀ (x : ByteArray) (l : List ByteArray), (ins x l).length ≤ l.length + 1 := by
            intro x l
            induction l with
            | nil => simp [ins]
            | cons y l ih => simp only [ins]; split; simp; split <;> simp only [List.length_cons] <;> omega
          intro l
          induction l with
          | nil => simp [nrm]
          | cons x l ih => simp only [nrm, List.length_cons]; have := h x (nrm l); omega
        refine ⟨by have := h1 l; rw [hl.out] at this; exact this, ?_⟩
        have hne : 0 < l.length := by rw [hl.out]; exact h0
        exact List.length_pos_of_mem (mem_nrm.2 (List.getElem_mem hne))
      have hmay : Hid (∀ x ∈ l, wordMay x = true) := by
        have := hall.out
        rwa [List.take_of_length_le (by rw [hl.out]; exact Nat.le_refl _)] at this
      have hof : Hid (ofE l = if 1 ≤ (nrm l).length ∧ (nrm l).length ≤ 16 then (nrm l, 0) else ([], 3)) := by
        show _ = _
        unfold ofE
        rw [if_neg (by rw [List.all_eq_true.2 hmay.out]; simp)]
      have hdd := hd'
      clear hsort hH3 hsorted hperm hw3 hd'
      obtain ⟨m, hm⟩ : ∃ m, m = (nrm l).length := ⟨_, rfl⟩
      rw [← hm] at hcompact
      have HM := Lib.hid hm
      have hmi : m ≤ i ∧ 0 < m := by rw [hm]; exact hlen.out
      clear hm
      go_wp2_with fail
      refine hcompact.mono ?_
      rintro e w4 ⟨rfl, q3, hw4⟩
      have HB4 : Hid (RowKit.Below w.heap.size w w4) := by
        show RowKit.Below _ _ _
        rw [hw4]
        exact hB3.out.trans (below_put hb)
      have HC4 : Hid (∀ j s, (nrm l)[j]? = some s → w4.cell? ⟨b, j, none⟩ = some (.string s)) := by
        intro j s hj
        have hjl : j < (nrm l).length := (List.getElem?_eq_some_iff.1 hj).1
        have hsz : (nrm l ++ List.replicate (i - m) ByteArray.empty).toArray.size = d'.size := by
          have e1 : d'.size = i := by have := hcomp; exact hdd
          rw [e1, List.size_toArray, List.length_append, List.length_replicate, ← HM.out]; omega
        have hh := holds_putRow Value.string (Sort.ahead w3 q3) b 0 d' (nrm l ++ List.replicate (i - m) ByteArray.empty).toArray (holds_ahead _ _ _ _ _ _ HH3.out) hsz
        rw [← hw4] at hh
        have := (hh j (by simp; omega)).1
        rw [Nat.zero_add] at this
        rw [this]
        congr 2
        rw [getElem!_pos _ j (by simp; omega)]
        simp only [List.getElem_toArray]
        rw [List.getElem_append_left hjl]
        exact (List.getElem?_eq_some_iff.1 hj).2
      clear hw4 hcompact
      have g1 : decide ((m : Int) < 1) = false := by simp; omega
      by_cases h16 : 16 < m
      · have g2 : decide (16 < (m : Int)) = true := by simp; omega
        go_wp2_with fail
        go_ret2
        rw [hof.out, if_neg (by rw [← HM.out]; omega)]
        exact ⟨HB4.out, .inl ⟨by decide, rfl⟩⟩
      · have g2 : decide (16 < (m : Int)) = false := by simp; omega
        go_wp2_with fail
        refine (clip_any b m c w4 (by omega) (by omega) (by omega)).mono ?_
        rintro e w' ⟨rfl, rfl⟩
        go_wp2_with fail
        go_ret2
        rw [hof.out, if_pos (by rw [← HM.out]; omega)]
        exact ⟨HB4.out, .inr ⟨rfl, b, m, hb, by rw [← HM.out]; rfl, by rw [← HM.out]; exact Nat.le_refl _, HC4.out⟩⟩
set_option maxRecDepth 100000 in
set_option maxHeartbeats 2000000 in
theorem clone_none (ad : Addr) (c : Nat) (w : World) :
    Calls Try.prog 77 #[.slice (some ad) 0 c] w fun e w' => ∃ a' cap', e = .returned (.slice a' 0 cap') ∧ Below w.heap.size w w' := by
  obtain ⟨i0, z, hi, hz0, hz1, hz2, hzs, _⟩ := elem_of (P := Try.prog) (e := 27) (sz := 1) (bytes := 16) (by kernel_rfl)
  have q22 : ∀ (w : World) (a : Option Addr) (n c n' c' : Nat), (binOp .eql 25 (.slice a n c) (.slice none n' c')).run Try.prog w = .ok (.bool a.isNone) w := fun w a n c n' c' => Lib.run_eql_slice_nil w _ _ a n c n' c' Try.underlying25
  go_enter Try.func77, Try.ntmps77
  go_wp2_with (at_builtin; refine wpList_append_row _ rfl _ _ 25 rfl w.heap.size 27 i0 z 1 16 Try.underlying25 hi hz0 hz1 hz2 hzs (by decide) (.slice (some ⟨w.heap.size, 0, none⟩) 0 0) 0 [] rfl (World.ownsRow_made w #[] 0 (Nat.le_refl _) (Nat.zero_le _) (by simp)) (some ad) 0 c [] rfl (by simp) (RowOf.nil _ _) (by intro h; cases h) (by simp) (by unfold maxLen; omega) (by omega) (by simp) ?_; intro a' cap' w1 hown hgrow _ _)
  go_ret
  exact ⟨a', cap', rfl, ((Below.refl _ w).alloc (Nat.le_refl _) _).grown hgrow (by simp) (by simp [Value.ownBlock])⟩
theorem clone_zero (a : Option Addr) (c : Nat) (w : World) :
    Calls Try.prog 77 #[.slice a 0 c] w fun e w' => ∃ a' cap', e = .returned (.slice a' 0 cap') ∧ Below w.heap.size w w' := by
  cases a with
  | none => exact (AnyE.slices_Clone_nil lClone 0 c w).mono (by rintro e w' ⟨rfl, rfl⟩; exact ⟨_, _, rfl, Below.refl _ _⟩)
  | some ad => exact clone_none ad c w
set_option maxRecDepth 100000 in
set_option maxHeartbeats 2000000 in
theorem compact_zero (a : Option Addr) (c : Nat) (w : World) :
    Calls Try.prog 80 #[.slice a 0 c] w fun e w' => e = .returned (.slice a 0 c) ∧ w = w' := by
  go_enter Try.func80, Try.ntmps80
  go_wp2
  go_ret
  exact ⟨rfl, rfl⟩
set_option maxRecDepth 100000 in
set_option maxHeartbeats 2000000 in
theorem sof_none (a : Option Addr) (c : Nat) (w : World) :
    Calls Try.prog 74 #[.slice a 0 c] w fun e w' => Made w w' e (ofE []) := by
  have hsort := fun (p : Option Addr) (cap : Nat) (fv : Value) (w : World) => AnyF.slices_SortFunc_none (P := Try.prog) { lSort with } p cap fv w
  go_enter Try.func74, Try.ntmps74
  go_wp2_with fail
  go_loopw [9] (fun t wr => t = .int .i64 0 ∧ wr = w) (fun _ _ => 0)
  case atStart => exact ⟨rfl, rfl⟩
  case round =>
    obtain ⟨rfl, rfl⟩ := hrel
    go_wp2_with fail
    refine (clone_zero a c _).mono ?_
    rintro e w1 ⟨a', cap', rfl, hb1⟩
    have HB := Lib.hid hb1
    clear hb1
    go_wp2_with fail
    refine (hsort a' cap' _ w1).mono ?_
    rintro e w2 ⟨rfl, rfl⟩
    go_wp2_with fail
    refine (compact_zero a' cap' w2).mono ?_
    rintro e w3 ⟨rfl, rfl⟩
    go_wp2_with fail
    go_ret2
    exact ⟨HB.out, .inl ⟨by decide, rfl⟩⟩
end Go.Proofs.Ytlfnepcglnjogaa

/- set.Of as a call that leaves all objects alone. -/
namespace Go.Proofs.Ytlfnepcglnjogaa
set_option linter.unusedSimpArgs false
set_option linter.unusedVariables false
open Go.RowKit Go.Lib

theorem ofE_snd (l : List ByteArray) (h : (ofE l).2 ≠ 0) : (ofE l).1 = [] := by
  unfold ofE at h ⊢
  split
  · rfl
  · next h1 =>
    rw [if_neg h1] at h
    split
    · next h2 => rw [if_pos h2] at h; exact absurd rfl h
    · rfl
theorem cells_news {g : Gh} {w w' : World} {b : Nat} {l : List ByteArray} (hb : w.heap.size ≤ b) (hc : ∀ i s, l[i]? = some s → w'.cell? ⟨b, i, none⟩ = some (.string s)) : CellsAt (g.news w w') b 0 (l.map .string) := by
  intro i v hv
  rw [List.getElem?_map] at hv
  cases hs : l[i]? with
  | none => rw [hs] at hv; cases hv
  | some s =>
    rw [hs] at hv
    cases hv
    rw [Nat.zero_add]
    exact news_new hb (hc i s hs) rfl
theorem repL_strs (g : Gh) : ∀ l : List ByteArray, RepL g (l.map .string) (l.map .str)
  | [] => .nil
  | s :: l => .cons (.str s) (repL_strs g l)
theorem plains_strs (l : List ByteArray) : plains (l.map .str) := by
  intro a ha
  obtain ⟨s, _, rfl⟩ := List.mem_map.1 ha
  rfl
theorem rep_new {g : Gh} {w w' : World} {b c : Nat} {f : Fl} {l : List ByteArray} (hb : w.heap.size ≤ b) (hn : l.length ≤ c) (hf : f = .clip → c = l.length) (hc : ∀ i s, l[i]? = some s → w'.cell? ⟨b, i, none⟩ = some (.string s)) : Rep (g.news w w') (.slice (some ⟨b, 0, none⟩) l.length c) (.lst f l.length (l.map .str)) :=
  .lst b 0 _ c f _ _ (cells_news hb hc) (plains_strs l) hn hf (repL_strs _ l)
theorem p_sof (l : List ByteArray) (hl : l.length ≤ 1000000) (hs : ∀ x ∈ l, x.size ≤ 9223372036854775807) : PCalls Try.prog 74 [.lst .ro l.length (l.map .str)] (vSet (ofE l)) := by
  refine pcalls_calls (by simp [free, free.frees, frees_str]) (free_vSet _) (by simp [vSet, plain]) (by kernel_rfl) ?_
  intro g w vargs hsim hr
  obtain ⟨v, vs, rfl, hv, hvs⟩ : ∃ v vs, vargs = v :: vs ∧ Rep g v (.lst .ro l.length (l.map .str)) ∧ RepL g vs [] := by
    cases hr with
    | cons h1 h2 => exact ⟨_, _, rfl, h1, h2⟩
  cases hvs
  obtain ⟨a, c, rfl, hrow⟩ := rep_strs hsim hv
  have hm : ∀ e w', Made w w' e (ofE l) → ∃ x, e = .returned x ∧ Below w.heap.size w w' ∧ Rep (g.news w w') x (vSet (ofE l)) := by
    rintro e w' ⟨hb, h | ⟨h0, b, c, hbb, rfl, hnc, hcell⟩⟩
    · obtain ⟨h1, rfl⟩ := h
      refine ⟨_, rfl, hb, ?_⟩
      unfold vSet
      rw [ofE_snd l h1]
      exact .tup [_, _] _ (by intro a ha; simp at ha; rcases ha with rfl | rfl <;> rfl) (.cons (.lst0 none 0 .ro (fun _ => rfl)) (.cons (.int .i64 _) .nil))
    · refine ⟨_, rfl, hb, ?_⟩
      unfold vSet
      rw [h0]
      exact .tup [_, _] _ (by intro a ha; simp at ha; rcases ha with rfl | rfl <;> rfl) (.cons (rep_new hbb hnc (fun h => nomatch h) hcell) (.cons (.int .i64 _) .nil))
  rcases hrow with h0 | ⟨b, off, rfl, hcells⟩
  · have hl0 : l = [] := by simpa using h0
    subst hl0
    exact (sof_none a c w).mono hm
  · by_cases h0 : l = []
    · subst h0
      exact (sof_none _ c w).mono hm
    · exact (sof_any b off c l.length l w rfl (List.length_pos_iff.2 h0) hl hcells hs).mono hm
end Go.Proofs.Ytlfnepcglnjogaa

/- slices.Concat of two sets. -/
namespace Go.Proofs.Ytlfnepcglnjogaa
set_option linter.unusedSimpArgs false
set_option linter.unusedVariables false
open Go.RowKit Go.Lib Go.Sort Go.Shelf

end Go.Proofs.Ytlfnepcglnjogaa

/- And, Quote, As, For of package set. -/
namespace Go.Proofs.Ytlfnepcglnjogaa
set_option linter.unusedSimpArgs false
set_option linter.unusedVariables false
open Go.RowKit Go.Lib

theorem setMay_ne {l : List ByteArray} (h : setMay l = true) : l ≠ [] := by
  rintro rfl
  have := (setMay_words h).1.1
  simp at this
end Go.Proofs.Ytlfnepcglnjogaa

/- set.Within: a map that the call keeps to itself. -/
namespace Go.Proofs.Ytlfnepcglnjogaa
set_option linter.unusedSimpArgs false
set_option linter.unusedVariables false
open Go.RowKit Go.Lib Go.Maps Go.WideMaps

theorem lawW : Keyed Try.prog 27 := string_keyed Try.underlying27
theorem zeroU (w : World) : (zeroValue 137).run Try.prog w = .ok (.agg #[]) w := by kernel_rfl
def litW (s : ByteArray) : Lit := .string s.data.toList
def setW (l : List ByteArray) : DataW Unit := setOf (.agg []) (l.map litW)
theorem setW_snoc (l : List ByteArray) (s : ByteArray) : setW (l ++ [s]) = (setW l).put (litW s) (.agg []) := by
  unfold setW
  rw [List.map_append, List.map_cons, List.map_nil, setOf_snoc]
theorem has_setW (l : List ByteArray) (s : ByteArray) : Maps.has (setW l) (litW s) = hasW l s := by
  unfold setW
  rw [has_setOf]
  · unfold hasW
    rw [List.any_map]
    congr 1
    funext y
    simp only [Function.comp]
    by_cases h : s = y
    · subst h
      rw [decide_eq_true rfl, WideAt.sameKey_self (by exact trivial)]
    · rw [decide_eq_false h, sameKey_ne]
      intro e
      unfold litW at e
      injection e with e
      exact h (WideShapes.bytes_inj e.symm)
  · intro x hx
    obtain ⟨s, _, rfl⟩ := List.mem_map.1 hx
    exact trivial
theorem run_makeMap_hint (n : Int) (w : World) : (Instr.makeMap 136 (some (.int .i64 n))).run Try.prog w = .ok (.map (some w.heap.size)) (w.alloc (.map #[] 0)) := by
  simp only [Instr.makeMap, Sem.run_bind, run_underlying Try.underlying136, Result.andThen_ok, asInt, asIntOf]
  rfl
set_option maxRecDepth 100000 in
set_option maxHeartbeats 2000000 in
theorem within_any (a1 a2 : Option Addr) (n1 n2 c1 c2 : Nat) (l1 l2 : List ByteArray) (w : World) (h1 : n1 ≤ 1000000) (h2 : n2 ≤ 1000000) (hl1 : Hid (l1.length = n1)) (hl2 : Hid (l2.length = n2))
    (r1 : Hid (RowOf w a1 (l1.map .string))) (r2 : Hid (RowOf w a2 (l2.map .string))) (s1 : Hid (∀ x ∈ l1, x.size ≤ maxLen)) (s2 : Hid (∀ x ∈ l2, x.size ≤ maxLen)) :
    Calls Try.prog 82 #[.slice a1 n1 c1, .slice a2 n2 c2] w fun e w' => e = .returned (.bool (withinE l1 l2)) ∧ Below w.heap.size w w' := by
  have hmm := run_makeMap_hint
  go_enter Try.func82, Try.ntmps82
  go_wp2_with fail
  go_loopw [17] (fun t wr => ∃ k : Nat, k ≤ n2 ∧ t = .int .i64 k ∧ Hid (wr.ownsMap Try.prog 27 unitElem w.heap.size k (setW (l2.take k))) ∧ Hid (Below w.heap.size w wr)) (fun t _ => n2 - (intOf t).toNat)
  case atStart => exact ⟨0, Nat.zero_le _, rfl, World.ownsMap_made _ _ _ _, (Below.refl _ _).alloc (Nat.le_refl _) _⟩
  case round =>
    obtain ⟨k, hk, rfl, HO, HB⟩ := hrel
    by_cases hlt : k < n2
    · have hkl : k < l2.length := by have := hl2.out; omega
      obtain ⟨b, off, ha, hcell⟩ : ∃ b off, a2 = some ⟨b, off, none⟩ ∧ w.cell? ⟨b, off + k, none⟩ = some (.string l2[k]) := by
        rcases r2.out with h | ⟨b, off, h, hc⟩
        · simp at h; rw [h] at hkl; simp at hkl
        · exact ⟨b, off, h, hc k _ (by simp [hkl])⟩
      have hc : wr.cell? ⟨b, off + k, none⟩ = some (.string l2[k]) := (HB.out.cell (World.block_lt_of_cell? w _ hcell)).trans hcell
      have hkey : keyOf Try.prog 27 (.string l2[k]) = some (litW l2[k]) := keyOf_string_mk Try.underlying27 (s2.out _ (List.getElem_mem hkl))
      have hnext : Hid (setW (l2.take (k + 1)) = (setW (l2.take k)).put (litW l2[k]) (.agg [])) := by show _ = _; rw [List.take_succ_eq_append_getElem hkl, setW_snoc]
      generalize l2[k] = y at hc hkey hnext
      subst ha
      clear hcell r2
      go_wp2_with (first | (at_mapUpdate; refine wpList_mapUpdate_own _ rfl _ _ _ 136 rfl 27 137 lawW Try.underlying136 (unitElem (H := Unit)) w.heap.size k _ rfl HO.out (by unfold maxLen; omega) _ _ _ rfl rfl hkey _ [] unitElem_mk ?_; intro w1 hown1 hgrow1; have HO1 := Lib.hid hown1; have HB1 := Lib.hid (HB.out.grown hgrow1 HB.out.size (fun j hj => by cases hj; exact Nat.le_refl _)); clear hown1 hgrow1))
      exact ⟨⟨k + 1, by omega, by go_num, by rw [hnext.out]; exact HO1.out, HB1⟩, by simp [intOf]; omega⟩
    · have hkn : k = n2 := by omega
      subst hkn
      go_wp2_with fail
      have HO' : Hid (wr.ownsMap Try.prog 27 unitElem w.heap.size k (setW l2)) := by
        have := HO.out
        rw [List.take_of_length_le (by rw [hl2.out]; exact Nat.le_refl _)] at this
        exact this
      clear HO r2 s2
      go_loopw [27] (fun t wr => ∃ k' : Nat, k' ≤ n1 ∧ t = .int .i64 k' ∧ Hid (wr.ownsMap Try.prog 27 unitElem w.heap.size k (setW l2)) ∧ Hid (Below w.heap.size w wr) ∧ Hid (∀ x ∈ l1.take k', hasW l2 x = true)) (fun t _ => n1 - (intOf t).toNat)
      case atStart => exact ⟨0, Nat.zero_le _, rfl, HO', HB, by intro x hx; simp at hx⟩
      case round =>
        clear HO' HB
        obtain ⟨i, hi, rfl, HO, HB, HA⟩ := hrel
        by_cases hlt : i < n1
        · have hkl : i < l1.length := by have := hl1.out; omega
          obtain ⟨b, off, ha, hcell⟩ : ∃ b off, a1 = some ⟨b, off, none⟩ ∧ w.cell? ⟨b, off + i, none⟩ = some (.string l1[i]) := by
            rcases r1.out with h | ⟨b, off, h, hc⟩
            · simp at h; rw [h] at hkl; simp at hkl
            · exact ⟨b, off, h, hc i _ (by simp [hkl])⟩
          have hc : wr.cell? ⟨b, off + i, none⟩ = some (.string l1[i]) := (HB.out.cell (World.block_lt_of_cell? w _ hcell)).trans hcell
          have hkey : keyOf Try.prog 27 (.string l1[i]) = some (litW l1[i]) := keyOf_string_mk Try.underlying27 (s1.out _ (List.getElem_mem hkl))
          have hmem := Lib.hid (List.getElem_mem hkl)
          have hnext : Hid (hasW l2 l1[i] = true → ∀ x ∈ l1.take (i + 1), hasW l2 x = true) := by
            intro hw x hx
            rw [List.take_succ_eq_append_getElem hkl, List.mem_append] at hx
            rcases hx with hx | hx
            · exact HA.out x hx
            · simp at hx; subst hx; exact hw
          generalize l1[i] = y at hc hkey hnext hmem
          subst ha
          clear hcell r1
          cases hh : hasW l2 y with
          | true =>
            have HH : Maps.has (setW l2) (litW y) = true := by rw [has_setW]; exact hh
            have HN := Lib.hid (hnext.out hh)
            clear hh hnext
            go_wp2_with (first | (at_lookup; refine wpList_lookup_own_unit _ rfl _ _ 136 rfl 27 137 lawW Try.underlying136 (zeroU _) w.heap.size k _ rfl HO.out _ _ rfl hkey ?_; rw [HH]))
            exact ⟨⟨i + 1, by omega, by go_num, HO.out.alloc _, HB.out.alloc HB.out.size _, HN⟩, by simp [intOf]; omega⟩
          | false =>
            have HH : Maps.has (setW l2) (litW y) = false := by rw [has_setW]; exact hh
            have HN : Hid (withinE l1 l2 = false) := by
              show _ = _
              cases hb : withinE l1 l2 with
              | false => rfl
              | true => rw [hasW_iff.2 (withinE_iff.1 hb y hmem.out)] at hh; cases hh
            clear hh hnext
            go_wp2_with (first | (at_lookup; refine wpList_lookup_own_unit _ rfl _ _ 136 rfl 27 137 lawW Try.underlying136 (zeroU _) w.heap.size k _ rfl HO.out _ _ rfl hkey ?_; rw [HH]))
            go_ret
            exact ⟨ret_bool HN.out.symm, HB.out.alloc HB.out.size _⟩
        · have hin : i = n1 := by omega
          subst hin
          go_wp2_with fail
          go_ret
          refine ⟨ret_bool ?_, HB.out⟩
          have := HA.out
          rw [List.take_of_length_le (by rw [hl1.out]; exact Nat.le_refl _)] at this
          exact (withinE_iff.2 fun w hw => hasW_iff.1 (this w hw)).symm
theorem p_within (l1 l2 : List ByteArray) (h1 : l1.length ≤ 1000000) (h2 : l2.length ≤ 1000000) (s1 : ∀ x ∈ l1, x.size ≤ maxLen) (s2 : ∀ x ∈ l2, x.size ≤ maxLen) :
    PCalls Try.prog 82 [.lst .ro l1.length (l1.map .str), .lst .ro l2.length (l2.map .str)] (.bool (withinE l1 l2)) := by
  refine pcalls_calls (by simp [free, free.frees, frees_str]) rfl rfl (by kernel_rfl) ?_
  intro g w vargs hsim hr
  obtain ⟨v1, v2, rfl, hv1, hv2⟩ : ∃ v1 v2, vargs = [v1, v2] ∧ Rep g v1 (.lst .ro l1.length (l1.map .str)) ∧ Rep g v2 (.lst .ro l2.length (l2.map .str)) := by
    cases hr with
    | cons q1 q2 =>
      cases q2 with
      | cons q3 q4 => cases q4; exact ⟨_, _, rfl, q1, q3⟩
  obtain ⟨a1, c1, rfl, r1⟩ := rep_strs hsim hv1
  obtain ⟨a2, c2, rfl, r2⟩ := rep_strs hsim hv2
  refine (within_any a1 a2 l1.length l2.length c1 c2 l1 l2 w h1 h2 rfl rfl r1 r2 s1 s2).mono ?_
  rintro e w' ⟨rfl, hb⟩
  exact ⟨_, rfl, hb, .bool _⟩
theorem p_same (l1 l2 : List ByteArray) (h1 : l1.length ≤ 1000000) (h2 : l2.length ≤ 1000000) (s1 : ∀ x ∈ l1, x.size ≤ maxLen) (s2 : ∀ x ∈ l2, x.size ≤ maxLen) :
    PCalls Try.prog 75 [.lst .ro l1.length (l1.map .str), .lst .ro l2.length (l2.map .str)] (.bool (withinE l1 l2 && withinE l2 l1)) := by
  refine pcalls_of (by first | rfl | simp [free, free.frees, frees_str, frees_u8, frees_u16]) (by first | rfl | simp [free, free.frees, frees_str, frees_u8, frees_u16]) (acalls_of mixed J_set_Same_ok (Nat.le_of_ble_eq_true rfl) ?_); simp only [J_set_Same, wk,if_true,if_false,forall_const,implies_true,ne_eq,eq_self,Nat.reduceEqDiff,Nat.reduceAdd,Nat.reduceMul,Nat.reduceSub,Nat.reduceLeDiff,Nat.reduceLT,Int.reduceEq,Int.reduceLT,Int.reduceLE,Int.reduceAdd,Int.reduceSub,Int.reduceMul,Int.reduceNeg,Int.reduceNe,reduceCtorEq,Int.reduceToNat,↓reduceIte]
  refine PCalls.use (p_within l1 l2 h1 h2 s1 s2) ?_; simp only [wk,if_true,if_false,forall_const,implies_true,ne_eq,eq_self,Nat.reduceEqDiff,Nat.reduceAdd,Nat.reduceMul,Nat.reduceSub,Nat.reduceLeDiff,Nat.reduceLT,Int.reduceEq,Int.reduceLT,Int.reduceLE,Int.reduceAdd,Int.reduceSub,Int.reduceMul,Int.reduceNeg,Int.reduceNe,reduceCtorEq,Int.reduceToNat,↓reduceIte]
  cases hw : withinE l1 l2 with
  | true =>
    simp only [wk,if_true,if_false,forall_const,implies_true,ne_eq,eq_self,Nat.reduceEqDiff,Nat.reduceAdd,Nat.reduceMul,Nat.reduceSub,Nat.reduceLeDiff,Nat.reduceLT,Int.reduceEq,Int.reduceLT,Int.reduceLE,Int.reduceAdd,Int.reduceSub,Int.reduceMul,Int.reduceNeg,Int.reduceNe,reduceCtorEq,Int.reduceToNat,↓reduceIte]
    refine PCalls.use (p_within l2 l1 h2 h1 s2 s1) ?_; simp only [wk,if_true,if_false,forall_const,implies_true,ne_eq,eq_self,Nat.reduceEqDiff,Nat.reduceAdd,Nat.reduceMul,Nat.reduceSub,Nat.reduceLeDiff,Nat.reduceLT,Int.reduceEq,Int.reduceLT,Int.reduceLE,Int.reduceAdd,Int.reduceSub,Int.reduceMul,Int.reduceNeg,Int.reduceNe,reduceCtorEq,Int.reduceToNat,↓reduceIte]
    rfl
  | false =>
    simp only [wk,if_true,if_false,forall_const,implies_true,ne_eq,eq_self,Nat.reduceEqDiff,Nat.reduceAdd,Nat.reduceMul,Nat.reduceSub,Nat.reduceLeDiff,Nat.reduceLT,Int.reduceEq,Int.reduceLT,Int.reduceLE,Int.reduceAdd,Int.reduceSub,Int.reduceMul,Int.reduceNeg,Int.reduceNe,reduceCtorEq,Int.reduceToNat,↓reduceIte]
    rfl
end Go.Proofs.Ytlfnepcglnjogaa

/- awake of the laws on sets: what each call comes to. -/
namespace Go.Proofs.Ytlfnepcglnjogaa
set_option linter.unusedSimpArgs false
set_option linter.unusedVariables false
open Go.RowKit Go.Lib

end Go.Proofs.Ytlfnepcglnjogaa

/- large of the laws on sets; what stays small. -/
namespace Go.Proofs.Ytlfnepcglnjogaa
set_option linter.unusedSimpArgs false
set_option linter.unusedVariables false
open Go.RowKit Go.Lib

end Go.Proofs.Ytlfnepcglnjogaa

/- SetAnd: the plain law, and the walk. -/
namespace Go.Proofs.Ytlfnepcglnjogaa
set_option linter.unusedSimpArgs false
set_option linter.unusedVariables false
open Go.RowKit Go.Lib

theorem and_may {a b : List ByteArray} (ha : setMay a = true) (hb : setMay b = true) : andE a b = boundE (nrm (a ++ b)) := by
  unfold andE
  rw [if_neg (by simp [ha, hb]), ofE_may (fun x hx => by rcases List.mem_append.1 hx with h | h; exact (setMay_words ha).2 x h; exact (setMay_words hb).2 x h)]
theorem nrm_pos {l : List ByteArray} (h : l ≠ []) : 1 ≤ (nrm l).length := by
  cases l with
  | nil => exact absurd rfl h
  | cons x l => exact List.length_pos_of_mem (mem_nrm.2 (List.mem_cons_self ..))
theorem and_fit {a b : List ByteArray} (ha : setMay a = true) (hb : setMay b = true) (h : (nrm (a ++ b)).length ≤ 16) : andE a b = (nrm (a ++ b), 0) ∧ setMay (nrm (a ++ b)) = true := by
  have h1 := nrm_pos (l := a ++ b) (by simp [setMay_ne ha])
  refine ⟨by rw [and_may ha hb]; unfold boundE; rw [if_pos ⟨h1, h⟩], setMay_mk h1 h (fun x hx => ?_) (rising_nrm _)⟩
  rcases List.mem_append.1 (mem_nrm.1 hx) with h | h
  · exact (setMay_words ha).2 x h
  · exact (setMay_words hb).2 x h
theorem and_self {a : List ByteArray} (ha : setMay a = true) : andE a a = (a, 0) := by
  have e : nrm (a ++ a) = a := (nrm_eq (setMay_rising ha) (fun x => by simp)).symm
  have := (and_fit ha ha (by rw [e]; exact (setMay_small ha).1)).1
  rwa [e] at this
theorem smallS_nrm {a : List ByteArray} (h : setMay a = true) : a.length ≤ 10000 ∧ (∀ x ∈ a, x.size ≤ 1000000) ∧ ∀ x ∈ a, x.size ≤ maxLen := by
  have := setMay_small h
  exact ⟨by omega, fun x hx => by have := this.2 x hx; omega, fun x hx => by have := this.2 x hx; unfold maxLen; omega⟩
theorem ofE_small (l : List ByteArray) : (ofE l).1.length ≤ 16 := by
  unfold ofE
  split
  · simp
  · split
    · next h => exact h.2
    · simp
end Go.Proofs.Ytlfnepcglnjogaa

/- Certificates: the plain structure, and the small functions of cert and its reference. -/
namespace Go.Proofs.Ytlfnepcglnjogaa
set_option linter.unusedSimpArgs false
set_option linter.unusedVariables false
open Go.RowKit Go.Lib

structure Crt where
  kind : Int
  signer : Nat
  speaker : ByteArray
  words : List ByteArray
  since : Int
  till : Int
  serial : Int
def cC (c : Crt) : List AV := [.int .i64 c.kind, .int .u16 c.signer, .str c.speaker, .lst .ro c.words.length (c.words.map .str), .int .i64 c.since, .int .i64 c.till, .int .i64 c.serial]
def vC (c : Crt) : AV := .agg (cC c)
theorem free_vC (c : Crt) : free (vC c) = true := by unfold vC cC; simp [free, free.frees, frees_str]
theorem drop_ints {l : List Int} {i : Nat} (h : i < l.length) : (l.map (AV.int .i64)).drop i = .int .i64 l[i] :: (l.map (AV.int .i64)).drop (i + 1) := by
  rw [← List.map_drop, List.drop_eq_getElem_cons h, List.map_cons, List.map_drop]
def idxI (x : Int) : List Int → Int
  | [] => -1
  | y :: l => if x = y then 0 else if idxI x l < 0 then -1 else idxI x l + 1
def hasI (l : List Int) (x : Int) : Bool := l.any fun y => decide (x = y)
theorem hasI_iff {l : List Int} {x : Int} : hasI l x = true ↔ x ∈ l := by
  unfold hasI
  rw [List.any_eq_true]
  constructor
  · rintro ⟨y, hy, h⟩; simp only [decide_eq_true_eq] at h; subst h; exact hy
  · intro h; exact ⟨x, h, by simp⟩
theorem idxI_none {x : Int} : ∀ {l : List Int}, x ∉ l → idxI x l = -1
  | [], _ => rfl
  | y :: r, h => by
    simp only [List.mem_cons, not_or] at h
    simp only [idxI]
    rw [if_neg h.1, idxI_none h.2]; rfl
theorem idxI_at {x : Int} : ∀ {l : List Int} {i : Nat}, l[i]? = some x → x ∉ l.take i → idxI x l = i
  | [], i, h, _ => by simp at h
  | y :: r, 0, h, _ => by simp at h; subst h; simp [idxI]
  | y :: r, i + 1, h, hn => by
    simp only [List.getElem?_cons_succ] at h
    simp only [List.take_succ_cons, List.mem_cons, not_or] at hn
    have := idxI_at h hn.2
    simp only [idxI]
    rw [if_neg hn.1, if_neg (by omega), this]; omega
theorem idxI_mem (x : Int) (l : List Int) : decide (0 ≤ idxI x l) = hasI l x := by
  by_cases h : x ∈ l
  · have hk : ∀ (l : List Int), x ∈ l → 0 ≤ idxI x l := by
      intro l
      induction l with
      | nil => intro h; simp at h
      | cons y r ih =>
        intro h
        simp only [idxI]
        split
        · omega
        · next hx =>
          have := ih (by rcases List.mem_cons.1 h with h | h; exact absurd h hx; exact h)
          rw [if_neg (by omega)]; omega
    rw [decide_eq_true (hk l h), hasI_iff.2 h]
  · rw [idxI_none h]
    cases hh : hasI l x with
    | false => rfl
    | true => exact absurd (hasI_iff.1 hh) h
theorem frees_ints (l : List Int) : free.frees (l.map (AV.int .i64)) = true := by
  induction l with
  | nil => rfl
  | cons s ls ih => simp only [List.map_cons, free.frees, ih, free, Bool.and_true]
set_option maxHeartbeats 1000000 in
theorem p_indexI (l : List Int) (x : Int) (hl : l.length ≤ 9223372036854775807) : PCalls Try.prog 72 [.lst .ro l.length (l.map (.int .i64)), .int .i64 x] (.int .i64 (idxI x l)) := by
  refine pcalls_of (by simp [free.frees, free, frees_ints]) rfl (acalls_of mixed J_slices_Index_int_int_ok (Nat.le_of_ble_eq_true rfl) ?_); simp only [J_slices_Index_int_int, wk,if_true,if_false,forall_const,implies_true,ne_eq,eq_self,Nat.reduceEqDiff,Nat.reduceAdd,Nat.reduceMul,Nat.reduceSub,Nat.reduceLeDiff,Nat.reduceLT,Int.reduceEq,Int.reduceLT,Int.reduceLE,Int.reduceAdd,Int.reduceSub,Int.reduceMul,Int.reduceNeg,Int.reduceNe,reduceCtorEq,Int.reduceToNat,↓reduceIte]
  refine W_loop (fun n fr h => ∃ i : Nat, i ≤ l.length ∧ n = l.length - i ∧ fr = [(0, .lst .ro l.length (l.map (.int .i64))), (1, .int .i64 x), (7, .int .i64 l.length), (8, .int .i64 i)] ∧ x ∉ l.take i) l.length ⟨0, by omega, by omega, rfl, by simp⟩ ?_
  rintro n fr h ⟨i, hi, rfl, rfl, hno⟩
  simp only [J_slices_Index_int_int_j2, J_slices_Index_int_int_j1, wk,if_true,if_false,forall_const,implies_true,ne_eq,eq_self,Nat.reduceEqDiff,Nat.reduceAdd,Nat.reduceMul,Nat.reduceSub,Nat.reduceLeDiff,Nat.reduceLT,Int.reduceEq,Int.reduceLT,Int.reduceLE,Int.reduceAdd,Int.reduceSub,Int.reduceMul,Int.reduceNeg,Int.reduceNe,reduceCtorEq,Int.reduceToNat,↓reduceIte]
  refine ⟨fun hlt => ?_, fun hge => int_eq ?_⟩
  · have hil : i < l.length := by omega
    (repeat (refine And.intro (by first | omega | exact inR_of (by omega) (by omega) | exact ⟨by omega, by omega⟩ | exact ⟨by omega, by omega, by omega⟩ | rfl) ?_))
    rw [show (i : Int).toNat = i by omega, drop_ints hil]
    simp only [wk,if_true,if_false,forall_const,implies_true,ne_eq,eq_self,Nat.reduceEqDiff,Nat.reduceAdd,Nat.reduceMul,Nat.reduceSub,Nat.reduceLeDiff,Nat.reduceLT,Int.reduceEq,Int.reduceLT,Int.reduceLE,Int.reduceAdd,Int.reduceSub,Int.reduceMul,Int.reduceNeg,Int.reduceNe,reduceCtorEq,Int.reduceToNat,↓reduceIte]
    refine ⟨fun he => int_eq ?_, fun hne => ⟨inR_of (by omega) (by omega), l.length - (i + 1), by omega, i + 1, by omega, rfl, rfl, fun hm => ?_⟩⟩
    · rw [idxI_at (i := i) (by rw [List.getElem?_eq_getElem hil, he]) hno]
    · rcases (take_mem_succ hil).1 hm with h | h
      · exact hno h
      · exact hne h
  · rw [List.take_of_length_le (by omega)] at hno
    rw [idxI_none hno]
theorem p_containsI (l : List Int) (x : Int) (hl : l.length ≤ 9223372036854775807) : PCalls Try.prog 64 [.lst .ro l.length (l.map (.int .i64)), .int .i64 x] (.bool (hasI l x)) := by
  refine pcalls_of (by simp [free.frees, free, frees_ints]) rfl (acalls_of mixed J_slices_Contains_int_int_ok (Nat.le_of_ble_eq_true rfl) ?_); simp only [J_slices_Contains_int_int, wk,if_true,if_false,forall_const,implies_true,ne_eq,eq_self,Nat.reduceEqDiff,Nat.reduceAdd,Nat.reduceMul,Nat.reduceSub,Nat.reduceLeDiff,Nat.reduceLT,Int.reduceEq,Int.reduceLT,Int.reduceLE,Int.reduceAdd,Int.reduceSub,Int.reduceMul,Int.reduceNeg,Int.reduceNe,reduceCtorEq,Int.reduceToNat,↓reduceIte]
  refine PCalls.use (p_indexI l x hl) ?_; simp only [wk,if_true,if_false,forall_const,implies_true,ne_eq,eq_self,Nat.reduceEqDiff,Nat.reduceAdd,Nat.reduceMul,Nat.reduceSub,Nat.reduceLeDiff,Nat.reduceLT,Int.reduceEq,Int.reduceLT,Int.reduceLE,Int.reduceAdd,Int.reduceSub,Int.reduceMul,Int.reduceNeg,Int.reduceNe,reduceCtorEq,Int.reduceToNat,↓reduceIte]
  exact bool_eq (idxI_mem x l)
theorem p_isOf (a : Nat) (l : List Int) (h : a < 65536) (hl : l.length ≤ 9223372036854775807) : PCalls Try.prog 55 [.int .u16 a, .lst .ro l.length (l.map (.int .i64))] (.bool (hasI l ((a / 8192 : Nat) : Int))) := by
  refine pcalls_of (by simp [free.frees, free, frees_ints]) rfl (acalls_of mixed J_cert_isOf_ok (Nat.le_of_ble_eq_true rfl) ?_); simp only [J_cert_isOf, wk,if_true,if_false,forall_const,implies_true,ne_eq,eq_self,Nat.reduceEqDiff,Nat.reduceAdd,Nat.reduceMul,Nat.reduceSub,Nat.reduceLeDiff,Nat.reduceLT,Int.reduceEq,Int.reduceLT,Int.reduceLE,Int.reduceAdd,Int.reduceSub,Int.reduceMul,Int.reduceNeg,Int.reduceNe,reduceCtorEq,Int.reduceToNat,↓reduceIte]
  have hw : IntKind.wrap .i64 (a : Int) = a := by rw [IntKind.wrap_i64]; omega
  have hd : (a : Int).tdiv 8192 = ((a / 8192 : Nat) : Int) := by rw [Int.tdiv_eq_ediv_of_nonneg (by omega)]; omega
  rw [hw, hd]
  refine ⟨inR_of (by omega) (by omega), ?_⟩
  refine PCalls.use (p_containsI l ((a / 8192 : Nat) : Int) hl) ?_; simp only [wk,if_true,if_false,forall_const,implies_true,ne_eq,eq_self,Nat.reduceEqDiff,Nat.reduceAdd,Nat.reduceMul,Nat.reduceSub,Nat.reduceLeDiff,Nat.reduceLT,Int.reduceEq,Int.reduceLT,Int.reduceLE,Int.reduceAdd,Int.reduceSub,Int.reduceMul,Int.reduceNeg,Int.reduceNe,reduceCtorEq,Int.reduceToNat,↓reduceIte]
theorem p_alone (w : ByteArray) (l : List Int) (hw : w.size ≤ 9223372036854775807) (hl : l.length ≤ 9223372036854775807) : PCalls Try.prog 66 [.str w, .lst .ro l.length (l.map (.int .i64))] (.bool (decide (w.size / 2 = 1) && hasI l ((atomAt w 0 / 8192 : Nat) : Int))) := by
  refine pcalls_of (by simp [free.frees, free, frees_ints]) rfl (acalls_of mixed J_cert_alone_ok (Nat.le_of_ble_eq_true rfl) ?_); simp only [J_cert_alone, wk,if_true,if_false,forall_const,implies_true,ne_eq,eq_self,Nat.reduceEqDiff,Nat.reduceAdd,Nat.reduceMul,Nat.reduceSub,Nat.reduceLeDiff,Nat.reduceLT,Int.reduceEq,Int.reduceLT,Int.reduceLE,Int.reduceAdd,Int.reduceSub,Int.reduceMul,Int.reduceNeg,Int.reduceNe,reduceCtorEq,Int.reduceToNat,↓reduceIte]
  refine PCalls.use (p_wlen w hw) ?_; simp only [wk,if_true,if_false,forall_const,implies_true,ne_eq,eq_self,Nat.reduceEqDiff,Nat.reduceAdd,Nat.reduceMul,Nat.reduceSub,Nat.reduceLeDiff,Nat.reduceLT,Int.reduceEq,Int.reduceLT,Int.reduceLE,Int.reduceAdd,Int.reduceSub,Int.reduceMul,Int.reduceNeg,Int.reduceNe,reduceCtorEq,Int.reduceToNat,↓reduceIte]
  refine ⟨fun h1 => ?_, fun h1 => bool_eq (by rw [decide_eq_false (by omega)]; rfl)⟩
  refine PCalls.use (p_wat w 0 hw (by omega)) ?_; simp only [wk,if_true,if_false,forall_const,implies_true,ne_eq,eq_self,Nat.reduceEqDiff,Nat.reduceAdd,Nat.reduceMul,Nat.reduceSub,Nat.reduceLeDiff,Nat.reduceLT,Int.reduceEq,Int.reduceLT,Int.reduceLE,Int.reduceAdd,Int.reduceSub,Int.reduceMul,Int.reduceNeg,Int.reduceNe,reduceCtorEq,Int.reduceToNat,↓reduceIte]
  refine PCalls.use (p_isOf (atomAt w 0) l (atomAt_lt w 0) hl) ?_; simp only [wk,if_true,if_false,forall_const,implies_true,ne_eq,eq_self,Nat.reduceEqDiff,Nat.reduceAdd,Nat.reduceMul,Nat.reduceSub,Nat.reduceLeDiff,Nat.reduceLT,Int.reduceEq,Int.reduceLT,Int.reduceLE,Int.reduceAdd,Int.reduceSub,Int.reduceMul,Int.reduceNeg,Int.reduceNe,reduceCtorEq,Int.reduceToNat,↓reduceIte]
  rw [decide_eq_true (show w.size / 2 = 1 by omega)]
  rfl
def numL (l : List Int) : Bool := l.all fun x => decide (0 ≤ x) && decide (x ≤ 4611686018427387904)
theorem p_cnum (l : List Int) (hl : l.length ≤ 9223372036854775807) : PCalls Try.prog 56 [.lst .ro l.length (l.map (.int .i64))] (.bool (numL l)) := by
  refine pcalls_of (by simp [free.frees, free, frees_ints]) rfl (acalls_of mixed J_cert_num_ok (Nat.le_of_ble_eq_true rfl) ?_); simp only [J_cert_num, wk,if_true,if_false,forall_const,implies_true,ne_eq,eq_self,Nat.reduceEqDiff,Nat.reduceAdd,Nat.reduceMul,Nat.reduceSub,Nat.reduceLeDiff,Nat.reduceLT,Int.reduceEq,Int.reduceLT,Int.reduceLE,Int.reduceAdd,Int.reduceSub,Int.reduceMul,Int.reduceNeg,Int.reduceNe,reduceCtorEq,Int.reduceToNat,↓reduceIte]
  refine W_loop (fun n fr h => ∃ i : Nat, i ≤ l.length ∧ n = l.length - i ∧ fr = [(5, .lst .ro l.length (l.map (.int .i64))), (6, .int .i64 l.length), (7, .int .i64 i)] ∧ ∀ x ∈ l.take i, 0 ≤ x ∧ x ≤ 4611686018427387904) l.length ⟨0, by omega, by omega, rfl, by simp⟩ ?_
  rintro n fr h ⟨i, hi, rfl, rfl, hall⟩
  simp only [J_cert_num_j2, J_cert_num_j1, wk,if_true,if_false,forall_const,implies_true,ne_eq,eq_self,Nat.reduceEqDiff,Nat.reduceAdd,Nat.reduceMul,Nat.reduceSub,Nat.reduceLeDiff,Nat.reduceLT,Int.reduceEq,Int.reduceLT,Int.reduceLE,Int.reduceAdd,Int.reduceSub,Int.reduceMul,Int.reduceNeg,Int.reduceNe,reduceCtorEq,Int.reduceToNat,↓reduceIte]
  refine ⟨fun hlt => ?_, fun hge => bool_eq ?_⟩
  · have hil : i < l.length := by omega
    (repeat (refine And.intro (by first | omega | exact inR_of (by omega) (by omega) | exact ⟨by omega, by omega⟩ | exact ⟨by omega, by omega, by omega⟩ | rfl) ?_))
    rw [show (i : Int).toNat = i by omega, drop_ints hil]
    simp only [wk,if_true,if_false,forall_const,implies_true,ne_eq,eq_self,Nat.reduceEqDiff,Nat.reduceAdd,Nat.reduceMul,Nat.reduceSub,Nat.reduceLeDiff,Nat.reduceLT,Int.reduceEq,Int.reduceLT,Int.reduceLE,Int.reduceAdd,Int.reduceSub,Int.reduceMul,Int.reduceNeg,Int.reduceNe,reduceCtorEq,Int.reduceToNat,↓reduceIte]
    have hno : ¬ (0 ≤ l[i] ∧ l[i] ≤ 4611686018427387904) → numL l = false := by
      intro h
      cases hn : numL l with
      | false => rfl
      | true =>
        have := List.all_eq_true.1 hn l[i] (List.getElem_mem hil)
        simp only [Bool.and_eq_true, decide_eq_true_eq] at this
        exact absurd this h
    have hyes : 0 ≤ l[i] → l[i] ≤ 4611686018427387904 → ∀ x ∈ l.take (i + 1), 0 ≤ x ∧ x ≤ 4611686018427387904 := by
      intro h1 h2 x hx
      rcases (take_mem_succ hil).1 hx with h | h
      · exact hall x h
      · subst h; exact ⟨h1, h2⟩
    refine ⟨fun h0 => ⟨fun h1 => bool_eq (hno (by omega)).symm, fun h1 => ⟨inR_of (by omega) (by omega), l.length - (i + 1), by omega, i + 1, by omega, rfl, rfl, hyes (by omega) (by omega)⟩⟩, fun h0 => bool_eq (hno (by omega)).symm⟩
  · rw [List.take_of_length_le (by omega)] at hall
    unfold numL
    symm
    rw [List.all_eq_true]
    intro x hx
    have := hall x hx
    simp only [Bool.and_eq_true, decide_eq_true_eq]
    exact this
def rulesL (c : Crt) (l : List ByteArray) : List AV := l.flatMap fun w => [.str w, .str c.speaker]
theorem frees_rules (c : Crt) (l : List ByteArray) : free.frees (rulesL c l) = true := by
  unfold rulesL
  induction l with
  | nil => rfl
  | cons w l ih => simp only [List.flatMap_cons, List.cons_append, List.nil_append, free.frees, free, Bool.true_and, ih]
theorem rulesL_succ {c : Crt} {l : List ByteArray} {i : Nat} (h : i < l.length) : rulesL c (l.take (i + 1)) = rulesL c (l.take i) ++ [.str l[i], .str c.speaker] := by
  unfold rulesL
  rw [List.take_succ_eq_append_getElem h, List.flatMap_append]; rfl
theorem p_rules (c : Crt) (h : c.words.length ≤ 10000) : PCalls Try.prog 40 [vC c] (.lst .ro c.words.length (rulesL c c.words)) := by
  refine pcalls_of (by simp [free.frees, free_vC]) (by simp only [free]; exact frees_rules _ _) (ACalls.weak (acalls_of mixed J_cert_Rules_ok (Nat.le_of_ble_eq_true rfl) ?_)); simp only [J_cert_Rules, vC, cC, wk,if_true,if_false,forall_const,implies_true,ne_eq,eq_self,Nat.reduceEqDiff,Nat.reduceAdd,Nat.reduceMul,Nat.reduceSub,Nat.reduceLeDiff,Nat.reduceLT,Int.reduceEq,Int.reduceLT,Int.reduceLE,Int.reduceAdd,Int.reduceSub,Int.reduceMul,Int.reduceNeg,Int.reduceNe,reduceCtorEq,Int.reduceToNat,↓reduceIte]
  refine ⟨⟨by omega, by omega, by omega⟩, ?_⟩
  refine W_loop (fun n fr h => ∃ i : Nat, i ≤ c.words.length ∧ n = c.words.length - i ∧ h = [some (false, cC c)] ∧ fr = [(1, .ptr 0 0), (3, .lst (.own 29) i (rulesL c (c.words.take i))), (11, .lst .ro c.words.length (c.words.map .str)), (12, .int .i64 c.words.length), (13, .int .i64 i)]) c.words.length ⟨0, by omega, by omega, rfl, rfl⟩ ?_
  rintro n fr h ⟨i, hi, rfl, rfl, rfl⟩
  simp only [J_cert_Rules_j2, cC, wk,if_true,if_false,forall_const,implies_true,ne_eq,eq_self,Nat.reduceEqDiff,Nat.reduceAdd,Nat.reduceMul,Nat.reduceSub,Nat.reduceLeDiff,Nat.reduceLT,Int.reduceEq,Int.reduceLT,Int.reduceLE,Int.reduceAdd,Int.reduceSub,Int.reduceMul,Int.reduceNeg,Int.reduceNe,reduceCtorEq,Int.reduceToNat,↓reduceIte]
  refine ⟨fun hlt => ?_, fun hge => ?_⟩
  · have hil : i < c.words.length := by omega
    have hd : (c.words.map AV.str).drop (i : Int).toNat = .str c.words[i] :: (c.words.map AV.str).drop (i + 1) := by rw [show (i : Int).toNat = i by omega, drop_str hil]
    refine ⟨⟨by omega, by omega⟩, ?_⟩
    simp only [hd, wk,if_true,if_false,forall_const,implies_true,ne_eq,eq_self,Nat.reduceEqDiff,Nat.reduceAdd,Nat.reduceMul,Nat.reduceSub,Nat.reduceLeDiff,Nat.reduceLT,Int.reduceEq,Int.reduceLT,Int.reduceLE,Int.reduceAdd,Int.reduceSub,Int.reduceMul,Int.reduceNeg,Int.reduceNe,reduceCtorEq,Int.reduceToNat,↓reduceIte]
    refine ⟨⟨by omega, by omega⟩, inR_of (by omega) (by omega), c.words.length - (i + 1), by omega, i + 1, by omega, rfl, ?_⟩
    rw [rulesL_succ hil]; rfl
  · obtain rfl : i = c.words.length := by omega
    simp only [J_cert_Rules_j1, wk,if_true,if_false,forall_const,implies_true,ne_eq,eq_self,Nat.reduceEqDiff,Nat.reduceAdd,Nat.reduceMul,Nat.reduceSub,Nat.reduceLeDiff,Nat.reduceLT,Int.reduceEq,Int.reduceLT,Int.reduceLE,Int.reduceAdd,Int.reduceSub,Int.reduceMul,Int.reduceNeg,Int.reduceNe,reduceCtorEq,Int.reduceToNat,↓reduceIte]
    rw [List.take_length]
    exact ro_ro _ _
end Go.Proofs.Ytlfnepcglnjogaa

/- SetQuote, SetFor: the plain laws. -/
namespace Go.Proofs.Ytlfnepcglnjogaa
set_option linter.unusedSimpArgs false
set_option linter.unusedVariables false
open Go.RowKit Go.Lib

theorem ofE_ok {l : List ByteArray} (h : (ofE l).2 = 0) : ofE l = (nrm l, 0) := by
  unfold ofE at h ⊢
  split at h
  · cases h
  · next h1 =>
    split at h
    · next h2 => rw [if_neg h1, if_pos h2]
    · cases h
end Go.Proofs.Ytlfnepcglnjogaa

/- cert.delegate: a certificate of delegation. -/
namespace Go.Proofs.Ytlfnepcglnjogaa
set_option linter.unusedSimpArgs false
set_option linter.unusedVariables false
open Go.RowKit Go.Lib

theorem p_wwithin (w : ByteArray) (hw : w.size ≤ 1000000) (h : 2 ≤ w.size) : PCalls Try.prog 76 [.str w, .int .i64 0, .int .i64 1] (.bool true) := by
  refine pcalls_of (by first | rfl | simp [free, free.frees, frees_str, frees_u8, frees_u16]) (by first | rfl | simp [free, free.frees, frees_str, frees_u8, frees_u16]) (acalls_of mixed J_word_within_ok (Nat.le_of_ble_eq_true rfl) ?_); simp only [J_word_within, wk,if_true,if_false,forall_const,implies_true,ne_eq,eq_self,Nat.reduceEqDiff,Nat.reduceAdd,Nat.reduceMul,Nat.reduceSub,Nat.reduceLeDiff,Nat.reduceLT,Int.reduceEq,Int.reduceLT,Int.reduceLE,Int.reduceAdd,Int.reduceSub,Int.reduceMul,Int.reduceNeg,Int.reduceNe,reduceCtorEq,Int.reduceToNat,↓reduceIte]
  refine PCalls.use (p_wlen w (by omega)) ?_; simp only [wk,if_true,if_false,forall_const,implies_true,ne_eq,eq_self,Nat.reduceEqDiff,Nat.reduceAdd,Nat.reduceMul,Nat.reduceSub,Nat.reduceLeDiff,Nat.reduceLT,Int.reduceEq,Int.reduceLT,Int.reduceLE,Int.reduceAdd,Int.reduceSub,Int.reduceMul,Int.reduceNeg,Int.reduceNe,reduceCtorEq,Int.reduceToNat,↓reduceIte]
  refine ⟨fun _ => ?_, fun h0 => by omega⟩
  refine PCalls.use (p_wlen w (by omega)) ?_; simp only [wk,if_true,if_false,forall_const,implies_true,ne_eq,eq_self,Nat.reduceEqDiff,Nat.reduceAdd,Nat.reduceMul,Nat.reduceSub,Nat.reduceLeDiff,Nat.reduceLT,Int.reduceEq,Int.reduceLT,Int.reduceLE,Int.reduceAdd,Int.reduceSub,Int.reduceMul,Int.reduceNeg,Int.reduceNe,reduceCtorEq,Int.reduceToNat,↓reduceIte]
  exact ⟨inR_of (by omega) (by omega), bool_eq (decide_eq_true (by omega))⟩
def toldW (w : ByteArray) : ByteArray := atomW 1 ++ w.extract 2 w.size
theorem p_swap (w : ByteArray) (hev : w.size % 2 = 0) (hw : w.size ≤ 16) (h : 4 ≤ w.size) : PCalls Try.prog 73 [.str w, .int .i64 0, .int .i64 1, .str (atomW 1)] (.tup [.str (toldW w), .int .i64 0]) := by
  refine pcalls_of (by first | rfl | simp [free, free.frees, frees_str, frees_u8, frees_u16]) (by first | rfl | simp [free, free.frees, frees_str, frees_u8, frees_u16]) (acalls_of mixed J_word_Swap_ok (Nat.le_of_ble_eq_true rfl) ?_); simp only [J_word_Swap, wk,if_true,if_false,forall_const,implies_true,ne_eq,eq_self,Nat.reduceEqDiff,Nat.reduceAdd,Nat.reduceMul,Nat.reduceSub,Nat.reduceLeDiff,Nat.reduceLT,Int.reduceEq,Int.reduceLT,Int.reduceLE,Int.reduceAdd,Int.reduceSub,Int.reduceMul,Int.reduceNeg,Int.reduceNe,reduceCtorEq,Int.reduceToNat,↓reduceIte]
  refine PCalls.use (p_wodd w) ?_; simp only [wk,if_true,if_false,forall_const,implies_true,ne_eq,eq_self,Nat.reduceEqDiff,Nat.reduceAdd,Nat.reduceMul,Nat.reduceSub,Nat.reduceLeDiff,Nat.reduceLT,Int.reduceEq,Int.reduceLT,Int.reduceLE,Int.reduceAdd,Int.reduceSub,Int.reduceMul,Int.reduceNeg,Int.reduceNe,reduceCtorEq,Int.reduceToNat,↓reduceIte]
  refine ⟨fun _ => ?_, fun h0 => absurd hev h0⟩
  refine PCalls.use (p_wodd (atomW 1)) ?_; simp only [wk,if_true,if_false,forall_const,implies_true,ne_eq,eq_self,Nat.reduceEqDiff,Nat.reduceAdd,Nat.reduceMul,Nat.reduceSub,Nat.reduceLeDiff,Nat.reduceLT,Int.reduceEq,Int.reduceLT,Int.reduceLE,Int.reduceAdd,Int.reduceSub,Int.reduceMul,Int.reduceNeg,Int.reduceNe,reduceCtorEq,Int.reduceToNat,↓reduceIte]
  refine ⟨fun h0 => absurd rfl h0, fun _ => ?_⟩
  refine PCalls.use (p_wwithin w (by omega) (by omega)) ?_; simp only [wk,if_true,if_false,forall_const,implies_true,ne_eq,eq_self,Nat.reduceEqDiff,Nat.reduceAdd,Nat.reduceMul,Nat.reduceSub,Nat.reduceLeDiff,Nat.reduceLT,Int.reduceEq,Int.reduceLT,Int.reduceLE,Int.reduceAdd,Int.reduceSub,Int.reduceMul,Int.reduceNeg,Int.reduceNe,reduceCtorEq,Int.reduceToNat,↓reduceIte]
  refine PCalls.use (p_wlen w (by omega)) ?_; simp only [wk,if_true,if_false,forall_const,implies_true,ne_eq,eq_self,Nat.reduceEqDiff,Nat.reduceAdd,Nat.reduceMul,Nat.reduceSub,Nat.reduceLeDiff,Nat.reduceLT,Int.reduceEq,Int.reduceLT,Int.reduceLE,Int.reduceAdd,Int.reduceSub,Int.reduceMul,Int.reduceNeg,Int.reduceNe,reduceCtorEq,Int.reduceToNat,↓reduceIte]
  refine ⟨inR_of (by omega) (by omega), ?_⟩
  refine PCalls.use (p_wlen (atomW 1) (by decide)) ?_; simp only [wk,if_true,if_false,forall_const,implies_true,ne_eq,eq_self,Nat.reduceEqDiff,Nat.reduceAdd,Nat.reduceMul,Nat.reduceSub,Nat.reduceLeDiff,Nat.reduceLT,Int.reduceEq,Int.reduceLT,Int.reduceLE,Int.reduceAdd,Int.reduceSub,Int.reduceMul,Int.reduceNeg,Int.reduceNe,reduceCtorEq,Int.reduceToNat,↓reduceIte]
  have hD : (atomW 1).size = 2 := rfl
  rw [hD]
  refine ⟨inR_of (by omega) (by omega), fun h0 => by omega, fun _ => ?_⟩
  have e0 : w.extract 0 0 ++ atomW 1 = atomW 1 := by apply ByteArray.ext; apply Array.ext'; simp
  have e1 : (w.extract 0 0).size = 0 := by simp [ByteArray.size_extract]
  have e2 : (w.size : Int).toNat = w.size := by omega
  rw [e0, e1, e2, hD]
  refine ⟨inR_of (by omega) (by omega), by omega, by omega, inR_of (by omega) (by omega), inR_of (by omega) (by omega), ⟨by omega, by omega⟩, ?_, rfl⟩
  rw [ByteArray.size_extract]; omega
theorem q_wd : PCalls Try.prog 39 [.lst .ro 1 [.int .u16 1]] (.str (atomW 1)) := by
  have := p_wof [1] (by decide) (by decide)
  rw [atomBytes_one] at this
  exact this
def delegE (c : Crt) : Bool := decide (2 ≤ c.speaker.size / 2) && (decide ((ofE [c.speaker, toldW c.speaker]).2 = 0) && (withinE c.words (ofE [c.speaker, toldW c.speaker]).1 && withinE (ofE [c.speaker, toldW c.speaker]).1 c.words))
theorem told_size {w : ByteArray} (h : 2 ≤ w.size) : (toldW w).size = w.size := by
  unfold toldW
  rw [ByteArray.size_append, ByteArray.size_extract]
  have hD : (atomW 1).size = 2 := rfl
  omega
set_option maxRecDepth 100000 in
theorem p_deleg (c : Crt) (hm : wordMay c.speaker = true) (hs : setMay c.words = true) : PCalls Try.prog 65 [vC c] (.bool (delegE c)) := by
  have hsz := wordMay_even hm
  have hsm := smallS_nrm hs
  refine pcalls_of (by simp [free.frees, free_vC]) rfl (acalls_of mixed J_cert_delegate_ok (Nat.le_of_ble_eq_true rfl) ?_); simp only [J_cert_delegate, vC, cC, wk,if_true,if_false,forall_const,implies_true,ne_eq,eq_self,Nat.reduceEqDiff,Nat.reduceAdd,Nat.reduceMul,Nat.reduceSub,Nat.reduceLeDiff,Nat.reduceLT,Int.reduceEq,Int.reduceLT,Int.reduceLE,Int.reduceAdd,Int.reduceSub,Int.reduceMul,Int.reduceNeg,Int.reduceNe,reduceCtorEq,Int.reduceToNat,↓reduceIte]
  refine PCalls.use (p_wlen c.speaker (by omega)) ?_; simp only [wk,if_true,if_false,forall_const,implies_true,ne_eq,eq_self,Nat.reduceEqDiff,Nat.reduceAdd,Nat.reduceMul,Nat.reduceSub,Nat.reduceLeDiff,Nat.reduceLT,Int.reduceEq,Int.reduceLT,Int.reduceLE,Int.reduceAdd,Int.reduceSub,Int.reduceMul,Int.reduceNeg,Int.reduceNe,reduceCtorEq,Int.reduceToNat,↓reduceIte]
  refine ⟨fun h2 => bool_eq (by unfold delegE; rw [decide_eq_false (by omega)]; rfl), fun h2 => ?_⟩
  have hd : decide (2 ≤ c.speaker.size / 2) = true := decide_eq_true (by omega)
  refine ⟨_, q_wd, _, p_swap c.speaker hsz.1 hsz.2 (by omega), ?_⟩
  simp only [wk,if_true,if_false,forall_const,implies_true,ne_eq,eq_self,Nat.reduceEqDiff,Nat.reduceAdd,Nat.reduceMul,Nat.reduceSub,Nat.reduceLeDiff,Nat.reduceLT,Int.reduceEq,Int.reduceLT,Int.reduceLE,Int.reduceAdd,Int.reduceSub,Int.reduceMul,Int.reduceNeg,Int.reduceNe,reduceCtorEq,Int.reduceToNat,↓reduceIte]
  have hts := told_size (w := c.speaker) (by omega)
  have ho := p_sof [c.speaker, toldW c.speaker] (by simp) (by intro x hx; simp at hx; rcases hx with rfl | rfl <;> omega)
  refine PCalls.use ho ?_
  simp only [vSet, wk,if_true,if_false,forall_const,implies_true,ne_eq,eq_self,Nat.reduceEqDiff,Nat.reduceAdd,Nat.reduceMul,Nat.reduceSub,Nat.reduceLeDiff,Nat.reduceLT,Int.reduceEq,Int.reduceLT,Int.reduceLE,Int.reduceAdd,Int.reduceSub,Int.reduceMul,Int.reduceNeg,Int.reduceNe,reduceCtorEq,Int.reduceToNat,↓reduceIte]
  have hos := ofE_small [c.speaker, toldW c.speaker]
  refine ⟨fun h0 => ?_, fun h0 => bool_eq (by unfold delegE; rw [hd, decide_eq_false h0]; rfl)⟩
  have hg : setMay (ofE [c.speaker, toldW c.speaker]).1 = true := by
    have e := ofE_ok h0
    have := ofE_good e
    rw [e]; exact this
  refine PCalls.use (p_same c.words (ofE [c.speaker, toldW c.speaker]).1 (by omega) (by omega) hsm.2.2 (smallS_nrm hg).2.2) ?_; simp only [wk,if_true,if_false,forall_const,implies_true,ne_eq,eq_self,Nat.reduceEqDiff,Nat.reduceAdd,Nat.reduceMul,Nat.reduceSub,Nat.reduceLeDiff,Nat.reduceLT,Int.reduceEq,Int.reduceLT,Int.reduceLE,Int.reduceAdd,Int.reduceSub,Int.reduceMul,Int.reduceNeg,Int.reduceNe,reduceCtorEq,Int.reduceToNat,↓reduceIte]
  exact bool_eq (by unfold delegE; rw [hd, decide_eq_true h0]; rfl)
end Go.Proofs.Ytlfnepcglnjogaa

/- cert.like. -/
namespace Go.Proofs.Ytlfnepcglnjogaa
set_option linter.unusedSimpArgs false
set_option linter.unusedVariables false
open Go.RowKit Go.Lib

def kindAt (w : ByteArray) (i : Nat) : Int := ((atomAt w i / 8192 : Nat) : Int)
def aloneE (w : ByteArray) (l : List Int) : Bool := decide (w.size / 2 = 1) && hasI l (kindAt w 0)
def likeOne (c : Crt) (w : ByteArray) : Bool :=
  if c.kind = 1 then aloneE c.speaker [1] && (decide (w.size / 2 = 2) && (hasI [3] (kindAt w 0) && hasI [5] (kindAt w 1)))
  else if c.kind = 2 then aloneE c.speaker [1] && decide (w = atomW c.signer)
  else if c.kind = 3 then aloneE c.speaker [2]
  else if c.kind = 4 then aloneE c.speaker [3] && aloneE w [4]
  else if c.kind = 5 then aloneE c.speaker [1, 2] && (decide (2 ≤ w.size / 2) && hasI [5] (kindAt w (w.size / 2 - 1)))
  else false
def likeE (c : Crt) : Bool :=
  if c.kind = 6 then true else if c.kind = 7 then delegE c else match c.words with
    | [w] => likeOne c w
    | _ => false
set_option maxRecDepth 100000 in
set_option maxHeartbeats 2000000 in
theorem p_like (c : Crt) (hm : wordMay c.speaker = true) (hs : setMay c.words = true) (hg : c.signer < 65536) : PCalls Try.prog 57 [vC c] (.bool (likeE c)) := by
  have hsz := wordMay_even hm
  have hsm := setMay_small hs
  refine pcalls_of (by simp [free.frees, free_vC]) rfl (acalls_of mixed J_cert_like_ok (Nat.le_of_ble_eq_true rfl) ?_); simp only [J_cert_like, vC, cC, wk,if_true,if_false,forall_const,implies_true,ne_eq,eq_self,Nat.reduceEqDiff,Nat.reduceAdd,Nat.reduceMul,Nat.reduceSub,Nat.reduceLeDiff,Nat.reduceLT,Int.reduceEq,Int.reduceLT,Int.reduceLE,Int.reduceAdd,Int.reduceSub,Int.reduceMul,Int.reduceNeg,Int.reduceNe,reduceCtorEq,Int.reduceToNat,↓reduceIte]
  refine ⟨fun h6 => bool_eq (by simp [likeE, h6]), fun h6 => ⟨fun h7 => ?_, fun h7 => ⟨fun h1 => bool_eq ?_, fun h1 => ⟨by omega, ?_⟩⟩⟩⟩
  · have hp := p_deleg c hm hs
    unfold vC cC at hp
    refine PCalls.use (hp) ?_; simp only [wk,if_true,if_false,forall_const,implies_true,ne_eq,eq_self,Nat.reduceEqDiff,Nat.reduceAdd,Nat.reduceMul,Nat.reduceSub,Nat.reduceLeDiff,Nat.reduceLT,Int.reduceEq,Int.reduceLT,Int.reduceLE,Int.reduceAdd,Int.reduceSub,Int.reduceMul,Int.reduceNeg,Int.reduceNe,reduceCtorEq,Int.reduceToNat,↓reduceIte]
    exact bool_eq (by unfold likeE; rw [if_neg h6, if_pos h7])
  · unfold likeE
    rw [if_neg h6, if_neg h7]
    split
    · next w e => rw [e] at h1; exact absurd rfl h1
    · rfl
  obtain ⟨w, hw⟩ : ∃ w, c.words = [w] := by
    cases e : c.words with
    | nil => rw [e] at h1; cases h1
    | cons w l =>
      cases l with
      | nil => exact ⟨w, rfl⟩
      | cons x l => rw [e] at h1; simp at h1; omega
  have hL : likeE c = likeOne c w := by unfold likeE; rw [if_neg h6, if_neg h7, hw]
  have hwz : w.size ≤ 16 := hsm.2 w (by rw [hw]; simp)
  have hmw := (setMay_words hs).2 w (by rw [hw]; simp)
  rw [hL]
  simp only [hw, List.map_cons, List.map_nil, wk,if_true,if_false,forall_const,implies_true,ne_eq,eq_self,Nat.reduceEqDiff,Nat.reduceAdd,Nat.reduceMul,Nat.reduceSub,Nat.reduceLeDiff,Nat.reduceLT,Int.reduceEq,Int.reduceLT,Int.reduceLE,Int.reduceAdd,Int.reduceSub,Int.reduceMul,Int.reduceNeg,Int.reduceNe,reduceCtorEq,Int.reduceToNat,↓reduceIte]
  refine PCalls.use (p_wlen w (by omega)) ?_; simp only [wk,if_true,if_false,forall_const,implies_true,ne_eq,eq_self,Nat.reduceEqDiff,Nat.reduceAdd,Nat.reduceMul,Nat.reduceSub,Nat.reduceLeDiff,Nat.reduceLT,Int.reduceEq,Int.reduceLT,Int.reduceLE,Int.reduceAdd,Int.reduceSub,Int.reduceMul,Int.reduceNeg,Int.reduceNe,reduceCtorEq,Int.reduceToNat,↓reduceIte]
  have qa : ∀ (s : ByteArray) (l : List Int), s.size ≤ 16 → l.length ≤ 2 → PCalls Try.prog 66 [.str s, .lst .ro l.length (l.map (.int .i64))] (.bool (aloneE s l)) := fun s l hz hl => p_alone s l (by omega) (by omega)
  have qo : ∀ (i : Nat) (l : List Int), l.length ≤ 2 → PCalls Try.prog 55 [.int .u16 (atomAt w i), .lst .ro l.length (l.map (.int .i64))] (.bool (hasI l (kindAt w i))) := fun i l hl => p_isOf (atomAt w i) l (atomAt_lt w i) (by omega)
  refine ⟨fun k1 => ?_, fun k1 => ⟨fun k2 => ?_, fun k2 => ⟨fun k3 => ?_, fun k3 => ⟨fun k4 => ?_, fun k4 => ⟨fun k5 => ?_, fun k5 => bool_eq ?_⟩⟩⟩⟩⟩
  · have e : likeOne c w = (aloneE c.speaker [1] && (decide (w.size / 2 = 2) && (hasI [3] (kindAt w 0) && hasI [5] (kindAt w 1)))) := by unfold likeOne; rw [if_pos k1]
    rw [e]
    refine PCalls.use (qa c.speaker [1] hsz.2 (by simp)) ?_; simp only [wk,if_true,if_false,forall_const,implies_true,ne_eq,eq_self,Nat.reduceEqDiff,Nat.reduceAdd,Nat.reduceMul,Nat.reduceSub,Nat.reduceLeDiff,Nat.reduceLT,Int.reduceEq,Int.reduceLT,Int.reduceLE,Int.reduceAdd,Int.reduceSub,Int.reduceMul,Int.reduceNeg,Int.reduceNe,reduceCtorEq,Int.reduceToNat,↓reduceIte]
    cases ha : aloneE c.speaker [1] with
    | false => simp only [wk,if_true,if_false,forall_const,implies_true,ne_eq,eq_self,Nat.reduceEqDiff,Nat.reduceAdd,Nat.reduceMul,Nat.reduceSub,Nat.reduceLeDiff,Nat.reduceLT,Int.reduceEq,Int.reduceLT,Int.reduceLE,Int.reduceAdd,Int.reduceSub,Int.reduceMul,Int.reduceNeg,Int.reduceNe,reduceCtorEq,Int.reduceToNat,↓reduceIte]; rfl
    | true =>
      simp only [wk,if_true,if_false,forall_const,implies_true,ne_eq,eq_self,Nat.reduceEqDiff,Nat.reduceAdd,Nat.reduceMul,Nat.reduceSub,Nat.reduceLeDiff,Nat.reduceLT,Int.reduceEq,Int.reduceLT,Int.reduceLE,Int.reduceAdd,Int.reduceSub,Int.reduceMul,Int.reduceNeg,Int.reduceNe,reduceCtorEq,Int.reduceToNat,↓reduceIte]
      refine ⟨fun h2 => ?_, fun h2 => bool_eq (by rw [decide_eq_false (by omega)]; rfl)⟩
      refine PCalls.use (p_wat w 0 (by omega) (by omega)) ?_; simp only [wk,if_true,if_false,forall_const,implies_true,ne_eq,eq_self,Nat.reduceEqDiff,Nat.reduceAdd,Nat.reduceMul,Nat.reduceSub,Nat.reduceLeDiff,Nat.reduceLT,Int.reduceEq,Int.reduceLT,Int.reduceLE,Int.reduceAdd,Int.reduceSub,Int.reduceMul,Int.reduceNeg,Int.reduceNe,reduceCtorEq,Int.reduceToNat,↓reduceIte]
      refine PCalls.use (qo 0 [3] (by simp)) ?_; simp only [wk,if_true,if_false,forall_const,implies_true,ne_eq,eq_self,Nat.reduceEqDiff,Nat.reduceAdd,Nat.reduceMul,Nat.reduceSub,Nat.reduceLeDiff,Nat.reduceLT,Int.reduceEq,Int.reduceLT,Int.reduceLE,Int.reduceAdd,Int.reduceSub,Int.reduceMul,Int.reduceNeg,Int.reduceNe,reduceCtorEq,Int.reduceToNat,↓reduceIte]
      rw [decide_eq_true (show w.size / 2 = 2 by omega)]
      cases h3 : hasI [3] (kindAt w 0) with
      | false => simp only [wk,if_true,if_false,forall_const,implies_true,ne_eq,eq_self,Nat.reduceEqDiff,Nat.reduceAdd,Nat.reduceMul,Nat.reduceSub,Nat.reduceLeDiff,Nat.reduceLT,Int.reduceEq,Int.reduceLT,Int.reduceLE,Int.reduceAdd,Int.reduceSub,Int.reduceMul,Int.reduceNeg,Int.reduceNe,reduceCtorEq,Int.reduceToNat,↓reduceIte]; rfl
      | true =>
        simp only [wk,if_true,if_false,forall_const,implies_true,ne_eq,eq_self,Nat.reduceEqDiff,Nat.reduceAdd,Nat.reduceMul,Nat.reduceSub,Nat.reduceLeDiff,Nat.reduceLT,Int.reduceEq,Int.reduceLT,Int.reduceLE,Int.reduceAdd,Int.reduceSub,Int.reduceMul,Int.reduceNeg,Int.reduceNe,reduceCtorEq,Int.reduceToNat,↓reduceIte]
        refine PCalls.use (p_wat w 1 (by omega) (by omega)) ?_; simp only [wk,if_true,if_false,forall_const,implies_true,ne_eq,eq_self,Nat.reduceEqDiff,Nat.reduceAdd,Nat.reduceMul,Nat.reduceSub,Nat.reduceLeDiff,Nat.reduceLT,Int.reduceEq,Int.reduceLT,Int.reduceLE,Int.reduceAdd,Int.reduceSub,Int.reduceMul,Int.reduceNeg,Int.reduceNe,reduceCtorEq,Int.reduceToNat,↓reduceIte]
        refine PCalls.use (qo 1 [5] (by simp)) ?_; simp only [wk,if_true,if_false,forall_const,implies_true,ne_eq,eq_self,Nat.reduceEqDiff,Nat.reduceAdd,Nat.reduceMul,Nat.reduceSub,Nat.reduceLeDiff,Nat.reduceLT,Int.reduceEq,Int.reduceLT,Int.reduceLE,Int.reduceAdd,Int.reduceSub,Int.reduceMul,Int.reduceNeg,Int.reduceNe,reduceCtorEq,Int.reduceToNat,↓reduceIte]
        rfl
  · have e : likeOne c w = (aloneE c.speaker [1] && decide (w = atomW c.signer)) := by unfold likeOne; rw [if_neg k1, if_pos k2]
    rw [e]
    refine PCalls.use (qa c.speaker [1] hsz.2 (by simp)) ?_; simp only [wk,if_true,if_false,forall_const,implies_true,ne_eq,eq_self,Nat.reduceEqDiff,Nat.reduceAdd,Nat.reduceMul,Nat.reduceSub,Nat.reduceLeDiff,Nat.reduceLT,Int.reduceEq,Int.reduceLT,Int.reduceLE,Int.reduceAdd,Int.reduceSub,Int.reduceMul,Int.reduceNeg,Int.reduceNe,reduceCtorEq,Int.reduceToNat,↓reduceIte]
    cases ha : aloneE c.speaker [1] with
    | false => simp only [wk,if_true,if_false,forall_const,implies_true,ne_eq,eq_self,Nat.reduceEqDiff,Nat.reduceAdd,Nat.reduceMul,Nat.reduceSub,Nat.reduceLeDiff,Nat.reduceLT,Int.reduceEq,Int.reduceLT,Int.reduceLE,Int.reduceAdd,Int.reduceSub,Int.reduceMul,Int.reduceNeg,Int.reduceNe,reduceCtorEq,Int.reduceToNat,↓reduceIte]; rfl
    | true =>
      simp only [wk,if_true,if_false,forall_const,implies_true,ne_eq,eq_self,Nat.reduceEqDiff,Nat.reduceAdd,Nat.reduceMul,Nat.reduceSub,Nat.reduceLeDiff,Nat.reduceLT,Int.reduceEq,Int.reduceLT,Int.reduceLE,Int.reduceAdd,Int.reduceSub,Int.reduceMul,Int.reduceNeg,Int.reduceNe,reduceCtorEq,Int.reduceToNat,↓reduceIte]
      refine PCalls.use (p_wof [c.signer] (by simp) (by simpa using hg)) ?_; simp only [wk,if_true,if_false,forall_const,implies_true,ne_eq,eq_self,Nat.reduceEqDiff,Nat.reduceAdd,Nat.reduceMul,Nat.reduceSub,Nat.reduceLeDiff,Nat.reduceLT,Int.reduceEq,Int.reduceLT,Int.reduceLE,Int.reduceAdd,Int.reduceSub,Int.reduceMul,Int.reduceNeg,Int.reduceNe,reduceCtorEq,Int.reduceToNat,↓reduceIte]
      rw [atomBytes_one]
      rfl
  · have e : likeOne c w = aloneE c.speaker [2] := by unfold likeOne; rw [if_neg k1, if_neg k2, if_pos k3]
    rw [e]
    refine PCalls.use (qa c.speaker [2] hsz.2 (by simp)) ?_; simp only [wk,if_true,if_false,forall_const,implies_true,ne_eq,eq_self,Nat.reduceEqDiff,Nat.reduceAdd,Nat.reduceMul,Nat.reduceSub,Nat.reduceLeDiff,Nat.reduceLT,Int.reduceEq,Int.reduceLT,Int.reduceLE,Int.reduceAdd,Int.reduceSub,Int.reduceMul,Int.reduceNeg,Int.reduceNe,reduceCtorEq,Int.reduceToNat,↓reduceIte]
  · have e : likeOne c w = (aloneE c.speaker [3] && aloneE w [4]) := by unfold likeOne; rw [if_neg k1, if_neg k2, if_neg k3, if_pos k4]
    rw [e]
    refine PCalls.use (qa c.speaker [3] hsz.2 (by simp)) ?_; simp only [wk,if_true,if_false,forall_const,implies_true,ne_eq,eq_self,Nat.reduceEqDiff,Nat.reduceAdd,Nat.reduceMul,Nat.reduceSub,Nat.reduceLeDiff,Nat.reduceLT,Int.reduceEq,Int.reduceLT,Int.reduceLE,Int.reduceAdd,Int.reduceSub,Int.reduceMul,Int.reduceNeg,Int.reduceNe,reduceCtorEq,Int.reduceToNat,↓reduceIte]
    cases ha : aloneE c.speaker [3] with
    | false => simp only [wk,if_true,if_false,forall_const,implies_true,ne_eq,eq_self,Nat.reduceEqDiff,Nat.reduceAdd,Nat.reduceMul,Nat.reduceSub,Nat.reduceLeDiff,Nat.reduceLT,Int.reduceEq,Int.reduceLT,Int.reduceLE,Int.reduceAdd,Int.reduceSub,Int.reduceMul,Int.reduceNeg,Int.reduceNe,reduceCtorEq,Int.reduceToNat,↓reduceIte]; rfl
    | true =>
      simp only [wk,if_true,if_false,forall_const,implies_true,ne_eq,eq_self,Nat.reduceEqDiff,Nat.reduceAdd,Nat.reduceMul,Nat.reduceSub,Nat.reduceLeDiff,Nat.reduceLT,Int.reduceEq,Int.reduceLT,Int.reduceLE,Int.reduceAdd,Int.reduceSub,Int.reduceMul,Int.reduceNeg,Int.reduceNe,reduceCtorEq,Int.reduceToNat,↓reduceIte]
      refine PCalls.use (qa w [4] hwz (by simp)) ?_; simp only [wk,if_true,if_false,forall_const,implies_true,ne_eq,eq_self,Nat.reduceEqDiff,Nat.reduceAdd,Nat.reduceMul,Nat.reduceSub,Nat.reduceLeDiff,Nat.reduceLT,Int.reduceEq,Int.reduceLT,Int.reduceLE,Int.reduceAdd,Int.reduceSub,Int.reduceMul,Int.reduceNeg,Int.reduceNe,reduceCtorEq,Int.reduceToNat,↓reduceIte]
      rfl
  · have e : likeOne c w = (aloneE c.speaker [1, 2] && (decide (2 ≤ w.size / 2) && hasI [5] (kindAt w (w.size / 2 - 1)))) := by unfold likeOne; rw [if_neg k1, if_neg k2, if_neg k3, if_neg k4, if_pos k5]
    rw [e]
    refine PCalls.use (qa c.speaker [1, 2] hsz.2 (by simp)) ?_; simp only [wk,if_true,if_false,forall_const,implies_true,ne_eq,eq_self,Nat.reduceEqDiff,Nat.reduceAdd,Nat.reduceMul,Nat.reduceSub,Nat.reduceLeDiff,Nat.reduceLT,Int.reduceEq,Int.reduceLT,Int.reduceLE,Int.reduceAdd,Int.reduceSub,Int.reduceMul,Int.reduceNeg,Int.reduceNe,reduceCtorEq,Int.reduceToNat,↓reduceIte]
    cases ha : aloneE c.speaker [1, 2] with
    | false => simp only [wk,if_true,if_false,forall_const,implies_true,ne_eq,eq_self,Nat.reduceEqDiff,Nat.reduceAdd,Nat.reduceMul,Nat.reduceSub,Nat.reduceLeDiff,Nat.reduceLT,Int.reduceEq,Int.reduceLT,Int.reduceLE,Int.reduceAdd,Int.reduceSub,Int.reduceMul,Int.reduceNeg,Int.reduceNe,reduceCtorEq,Int.reduceToNat,↓reduceIte]; rfl
    | true =>
      simp only [wk,if_true,if_false,forall_const,implies_true,ne_eq,eq_self,Nat.reduceEqDiff,Nat.reduceAdd,Nat.reduceMul,Nat.reduceSub,Nat.reduceLeDiff,Nat.reduceLT,Int.reduceEq,Int.reduceLT,Int.reduceLE,Int.reduceAdd,Int.reduceSub,Int.reduceMul,Int.reduceNeg,Int.reduceNe,reduceCtorEq,Int.reduceToNat,↓reduceIte]
      refine ⟨fun h2 => ?_, fun h2 => bool_eq (by rw [decide_eq_false (by omega)]; rfl)⟩
      refine ⟨inR_of (by omega) (by omega), ?_⟩
      rw [show ((w.size / 2 : Nat) : Int) - 1 = ((w.size / 2 - 1 : Nat) : Int) by omega]
      refine PCalls.use (p_wat w (w.size / 2 - 1) (by omega) (by omega)) ?_; simp only [wk,if_true,if_false,forall_const,implies_true,ne_eq,eq_self,Nat.reduceEqDiff,Nat.reduceAdd,Nat.reduceMul,Nat.reduceSub,Nat.reduceLeDiff,Nat.reduceLT,Int.reduceEq,Int.reduceLT,Int.reduceLE,Int.reduceAdd,Int.reduceSub,Int.reduceMul,Int.reduceNeg,Int.reduceNe,reduceCtorEq,Int.reduceToNat,↓reduceIte]
      refine PCalls.use (qo (w.size / 2 - 1) [5] (by simp)) ?_; simp only [wk,if_true,if_false,forall_const,implies_true,ne_eq,eq_self,Nat.reduceEqDiff,Nat.reduceAdd,Nat.reduceMul,Nat.reduceSub,Nat.reduceLeDiff,Nat.reduceLT,Int.reduceEq,Int.reduceLT,Int.reduceLE,Int.reduceAdd,Int.reduceSub,Int.reduceMul,Int.reduceNeg,Int.reduceNe,reduceCtorEq,Int.reduceToNat,↓reduceIte]
      rw [decide_eq_true (show 2 ≤ w.size / 2 by omega)]
      rfl
  · unfold likeOne; rw [if_neg k1, if_neg k2, if_neg k3, if_neg k4, if_neg k5]
end Go.Proofs.Ytlfnepcglnjogaa

/- cert.Check. -/
namespace Go.Proofs.Ytlfnepcglnjogaa
set_option linter.unusedSimpArgs false
set_option linter.unusedVariables false
open Go.RowKit Go.Lib

def checkE (c : Crt) : Int :=
  if c.kind < 1 ∨ 7 < c.kind then 1
  else if hasI [1] ((c.signer / 8192 : Nat) : Int) = true ∧ wordMay c.speaker = true ∧ setMay c.words = true ∧ numL [c.since, c.till, c.serial] = true then
    (if c.till < c.since then 5 else if c.words.any (fun w => decide (w.size / 2 < c.speaker.size / 2)) = true then 4 else if likeE c = true then 0 else 13)
  else 2
def smallC (c : Crt) : Prop := c.signer < 65536 ∧ c.speaker.size ≤ 1000000 ∧ c.words.length ≤ 10000 ∧ ∀ x ∈ c.words, x.size ≤ 1000000
set_option maxRecDepth 100000 in
set_option maxHeartbeats 2000000 in
theorem p_check (c : Crt) (h : smallC c) : PCalls Try.prog 38 [vC c] (.int .i64 (checkE c)) := by
  obtain ⟨hg, hz, hl, hx⟩ := h
  refine pcalls_of (by simp [free.frees, free_vC]) rfl (acalls_of mixed J_cert_Check_ok (Nat.le_of_ble_eq_true rfl) ?_); simp only [J_cert_Check, vC, cC, wk,if_true,if_false,forall_const,implies_true,ne_eq,eq_self,Nat.reduceEqDiff,Nat.reduceAdd,Nat.reduceMul,Nat.reduceSub,Nat.reduceLeDiff,Nat.reduceLT,Int.reduceEq,Int.reduceLT,Int.reduceLE,Int.reduceAdd,Int.reduceSub,Int.reduceMul,Int.reduceNeg,Int.reduceNe,reduceCtorEq,Int.reduceToNat,↓reduceIte]
  have e1 : c.kind < 1 ∨ 7 < c.kind → AV.int .i64 1 = .int .i64 (checkE c) := fun h => int_eq (by unfold checkE; rw [if_pos h])
  have e2 : ¬ (c.kind < 1 ∨ 7 < c.kind) → ¬ (hasI [1] ((c.signer / 8192 : Nat) : Int) = true ∧ wordMay c.speaker = true ∧ setMay c.words = true ∧ numL [c.since, c.till, c.serial] = true) → AV.int .i64 2 = .int .i64 (checkE c) := fun h h' => int_eq (by unfold checkE; rw [if_neg h, if_neg h'])
  refine ⟨fun k1 => ⟨fun k2 => e1 (.inr k2), fun k2 => ?_⟩, fun k1 => e1 (.inl k1)⟩
  have hk : ¬ (c.kind < 1 ∨ 7 < c.kind) := by omega
  refine PCalls.use (p_isOf c.signer [1] hg (by simp)) ?_; simp only [wk,if_true,if_false,forall_const,implies_true,ne_eq,eq_self,Nat.reduceEqDiff,Nat.reduceAdd,Nat.reduceMul,Nat.reduceSub,Nat.reduceLeDiff,Nat.reduceLT,Int.reduceEq,Int.reduceLT,Int.reduceLE,Int.reduceAdd,Int.reduceSub,Int.reduceMul,Int.reduceNeg,Int.reduceNe,reduceCtorEq,Int.reduceToNat,↓reduceIte]
  refine ⟨fun a1 => ?_, fun a1 => e2 hk (fun h => by rw [a1] at h; exact absurd h.1 (by simp))⟩
  refine PCalls.use (p_wmay c.speaker (by omega)) ?_; simp only [wk,if_true,if_false,forall_const,implies_true,ne_eq,eq_self,Nat.reduceEqDiff,Nat.reduceAdd,Nat.reduceMul,Nat.reduceSub,Nat.reduceLeDiff,Nat.reduceLT,Int.reduceEq,Int.reduceLT,Int.reduceLE,Int.reduceAdd,Int.reduceSub,Int.reduceMul,Int.reduceNeg,Int.reduceNe,reduceCtorEq,Int.reduceToNat,↓reduceIte]
  refine ⟨fun a2 => ?_, fun a2 => e2 hk (fun h => by rw [a2] at h; exact absurd h.2.1 (by simp))⟩
  refine PCalls.use (p_smay c.words (by omega) (fun x q => by have := hx x q; omega)) ?_; simp only [wk,if_true,if_false,forall_const,implies_true,ne_eq,eq_self,Nat.reduceEqDiff,Nat.reduceAdd,Nat.reduceMul,Nat.reduceSub,Nat.reduceLeDiff,Nat.reduceLT,Int.reduceEq,Int.reduceLT,Int.reduceLE,Int.reduceAdd,Int.reduceSub,Int.reduceMul,Int.reduceNeg,Int.reduceNe,reduceCtorEq,Int.reduceToNat,↓reduceIte]
  refine ⟨fun a3 => ?_, fun a3 => e2 hk (fun h => by rw [a3] at h; exact absurd h.2.2.1 (by simp))⟩
  refine PCalls.use (p_cnum [c.since, c.till, c.serial] (by simp)) ?_; simp only [wk,if_true,if_false,forall_const,implies_true,ne_eq,eq_self,Nat.reduceEqDiff,Nat.reduceAdd,Nat.reduceMul,Nat.reduceSub,Nat.reduceLeDiff,Nat.reduceLT,Int.reduceEq,Int.reduceLT,Int.reduceLE,Int.reduceAdd,Int.reduceSub,Int.reduceMul,Int.reduceNeg,Int.reduceNe,reduceCtorEq,Int.reduceToNat,↓reduceIte]
  refine ⟨fun a4 => e2 hk (fun h => by rw [a4] at h; exact absurd h.2.2.2 (by simp)), fun a4 => ?_⟩
  have e3 : checkE c = (if c.till < c.since then 5 else if c.words.any (fun w => decide (w.size / 2 < c.speaker.size / 2)) = true then 4 else if likeE c = true then 0 else 13) := by
    unfold checkE; rw [if_neg hk, if_pos ⟨a1, a2, a3, a4⟩]
  refine ⟨fun a5 => int_eq (by rw [e3, if_pos a5]), fun a5 => ?_⟩
  rw [if_neg a5] at e3
  refine W_loop (fun n fr h => ∃ i : Nat, i ≤ c.words.length ∧ n = c.words.length - i ∧ h = [some (false, cC c)] ∧ fr = [(1, .ptr 0 0), (47, .lst .ro c.words.length (c.words.map .str)), (48, .int .i64 c.words.length), (49, .int .i64 i)] ∧ ∀ w ∈ c.words.take i, ¬ w.size / 2 < c.speaker.size / 2) c.words.length ⟨0, by omega, by omega, rfl, rfl, by simp⟩ ?_
  rintro n fr h ⟨i, hi, rfl, rfl, rfl, hall⟩
  simp only [J_cert_Check_j2, cC, wk,if_true,if_false,forall_const,implies_true,ne_eq,eq_self,Nat.reduceEqDiff,Nat.reduceAdd,Nat.reduceMul,Nat.reduceSub,Nat.reduceLeDiff,Nat.reduceLT,Int.reduceEq,Int.reduceLT,Int.reduceLE,Int.reduceAdd,Int.reduceSub,Int.reduceMul,Int.reduceNeg,Int.reduceNe,reduceCtorEq,Int.reduceToNat,↓reduceIte]
  refine ⟨fun hlt => ?_, fun hge => ?_⟩
  · have hil : i < c.words.length := by omega
    have hd : (c.words.map AV.str).drop (i : Int).toNat = .str c.words[i] :: (c.words.map AV.str).drop (i + 1) := by rw [show (i : Int).toNat = i by omega, drop_str hil]
    have z := hx _ (List.getElem_mem hil)
    refine ⟨⟨by omega, by omega⟩, ?_⟩
    simp only [hd, wk,if_true,if_false,forall_const,implies_true,ne_eq,eq_self,Nat.reduceEqDiff,Nat.reduceAdd,Nat.reduceMul,Nat.reduceSub,Nat.reduceLeDiff,Nat.reduceLT,Int.reduceEq,Int.reduceLT,Int.reduceLE,Int.reduceAdd,Int.reduceSub,Int.reduceMul,Int.reduceNeg,Int.reduceNe,reduceCtorEq,Int.reduceToNat,↓reduceIte]
    refine PCalls.use (p_wlen c.speaker (by omega)) ?_; simp only [wk,if_true,if_false,forall_const,implies_true,ne_eq,eq_self,Nat.reduceEqDiff,Nat.reduceAdd,Nat.reduceMul,Nat.reduceSub,Nat.reduceLeDiff,Nat.reduceLT,Int.reduceEq,Int.reduceLT,Int.reduceLE,Int.reduceAdd,Int.reduceSub,Int.reduceMul,Int.reduceNeg,Int.reduceNe,reduceCtorEq,Int.reduceToNat,↓reduceIte]
    refine PCalls.use (p_wlen c.words[i] (by omega)) ?_; simp only [wk,if_true,if_false,forall_const,implies_true,ne_eq,eq_self,Nat.reduceEqDiff,Nat.reduceAdd,Nat.reduceMul,Nat.reduceSub,Nat.reduceLeDiff,Nat.reduceLT,Int.reduceEq,Int.reduceLT,Int.reduceLE,Int.reduceAdd,Int.reduceSub,Int.reduceMul,Int.reduceNeg,Int.reduceNe,reduceCtorEq,Int.reduceToNat,↓reduceIte]
    refine ⟨fun h4 => int_eq ?_, fun h4 => ⟨inR_of (by omega) (by omega), c.words.length - (i + 1), by omega, i + 1, by omega, rfl, rfl, fun w hw => ?_⟩⟩
    · rw [e3, if_pos]
      rw [List.any_eq_true]
      exact ⟨_, List.getElem_mem hil, by simp; omega⟩
    · rcases (take_mem_succ hil).1 hw with h | h
      · exact hall w h
      · subst h; omega
  · rw [List.take_of_length_le (by omega)] at hall
    have e4 : ¬ (c.words.any (fun w => decide (w.size / 2 < c.speaker.size / 2)) = true) := by
      rw [List.any_eq_true]
      rintro ⟨w, hw, h1⟩
      simp only [decide_eq_true_eq] at h1
      exact hall w hw h1
    rw [if_neg e4] at e3
    simp only [J_cert_Check_j1, wk,if_true,if_false,forall_const,implies_true,ne_eq,eq_self,Nat.reduceEqDiff,Nat.reduceAdd,Nat.reduceMul,Nat.reduceSub,Nat.reduceLeDiff,Nat.reduceLT,Int.reduceEq,Int.reduceLT,Int.reduceLE,Int.reduceAdd,Int.reduceSub,Int.reduceMul,Int.reduceNeg,Int.reduceNe,reduceCtorEq,Int.reduceToNat,↓reduceIte]
    have hp := p_like c a2 a3 hg
    unfold vC cC at hp
    refine PCalls.use (hp) ?_; simp only [wk,if_true,if_false,forall_const,implies_true,ne_eq,eq_self,Nat.reduceEqDiff,Nat.reduceAdd,Nat.reduceMul,Nat.reduceSub,Nat.reduceLeDiff,Nat.reduceLT,Int.reduceEq,Int.reduceLT,Int.reduceLE,Int.reduceAdd,Int.reduceSub,Int.reduceMul,Int.reduceNeg,Int.reduceNe,reduceCtorEq,Int.reduceToNat,↓reduceIte]
    refine ⟨fun h0 => int_eq ?_, fun h0 => int_eq ?_⟩
    · rw [e3, if_neg (by rw [h0]; simp)]
    · rw [e3, if_pos h0]
end Go.Proofs.Ytlfnepcglnjogaa

/- The reference's like. -/
namespace Go.Proofs.Ytlfnepcglnjogaa
set_option linter.unusedSimpArgs false
set_option linter.unusedVariables false
open Go.RowKit Go.Lib

theorem atom_back {a : Nat} (h : a < 65536) : atomAt (atomW a) 0 = a := by
  have e : atomAt (atomW a) 0 = (UInt8.ofNat (a / 256)).toNat * 256 + (UInt8.ofNat (a % 256)).toNat := rfl
  rw [e]
  simp
  omega
theorem hasI_one {k x : Int} : hasI [k] x = decide (x = k) := by simp [hasI]
end Go.Proofs.Ytlfnepcglnjogaa

/- The reference's Check. -/
namespace Go.Proofs.Ytlfnepcglnjogaa
set_option linter.unusedSimpArgs false
set_option linter.unusedVariables false
open Go.RowKit Go.Lib

end Go.Proofs.Ytlfnepcglnjogaa

/- Encode of certificates, over the abstract code. -/
namespace Go.Proofs.Ytlfnepcglnjogaa
set_option linter.unusedSimpArgs false
set_option linter.unusedVariables false
open Go.RowKit Go.Lib

structure Good (c : Crt) : Prop where
  kind : 1 ≤ c.kind ∧ c.kind ≤ 7
  signer : c.signer / 8192 = 1
  speaker : wordMay c.speaker = true
  words : setMay c.words = true
  since : 0 ≤ c.since ∧ c.since ≤ 4611686018427387904
  till : 0 ≤ c.till ∧ c.till ≤ 4611686018427387904
  serial : 0 ≤ c.serial ∧ c.serial ≤ 4611686018427387904
  order : c.since ≤ c.till
  short : ∀ w ∈ c.words, c.speaker.size / 2 ≤ w.size / 2
  like : likeE c = true
theorem good_of {c : Crt} (h : checkE c = 0) : Good c := by
  unfold checkE at h
  split at h
  · simp at h
  · next h1 =>
    split at h
    · next h2 =>
      obtain ⟨a1, a2, a3, a4⟩ := h2
      split at h
      · simp at h
      · next h3 =>
        split at h
        · simp at h
        · next h4 =>
          split at h
          · next h5 =>
            simp only [numL, List.all_cons, List.all_nil, Bool.and_true, Bool.and_eq_true, decide_eq_true_eq] at a4
            refine ⟨by omega, ?_, a2, a3, a4.1, a4.2.1, a4.2.2, by omega, fun w hw => ?_, h5⟩
            · rw [hasI_one] at a1
              simp only [decide_eq_true_eq] at a1
              omega
            · have h4' : ¬ c.words.any (fun w => decide (w.size / 2 < c.speaker.size / 2)) = true := h4
              rw [List.any_eq_true] at h4'
              apply Nat.le_of_not_lt
              intro hlt
              exact h4' ⟨w, hw, by simpa using hlt⟩
          · simp at h
    · simp at h
end Go.Proofs.Ytlfnepcglnjogaa

/- Models: whether a certificate is honest, over the abstract code. -/
-- fast
namespace Go.Proofs.Ytlfnepcglnjogaa
set_option linter.unusedSimpArgs false
set_option linter.unusedVariables false
open Go.RowKit Go.Lib

def honestE (m : Mdl) (c : Crt) : Bool := (c.words.any fun w => !withinR (wordR m.rows w) (wordR m.rows (atomW c.signer))) || c.words.all fun w => withinR (wordR m.rows w) (wordR m.rows c.speaker)
theorem atomW_may {a : Nat} (h : a / 8192 = 1) : wordMay (atomW a) = true := by
  have hs : (atomW a).size = 2 := rfl
  have hb := atom_back (a := a) (by omega)
  simp only [wordMay, Bool.and_eq_true, decide_eq_true_eq]
  refine ⟨by omega, by omega, by omega, fun i hi => ?_⟩
  obtain rfl : i = 0 := by omega
  rw [hb]; omega
theorem rulesL_at {c : Crt} : ∀ {l : List ByteArray} {i : Nat} (h : i < l.length), (rulesL c l).drop (i * 2) = .str l[i] :: .str c.speaker :: rulesL c (l.drop (i + 1))
  | x :: l, 0, _ => rfl
  | x :: l, i + 1, h => by
    have := rulesL_at (c := c) (l := l) (i := i) (by simpa using h)
    simp only [rulesL, List.flatMap_cons] at this ⊢
    rw [show (i + 1) * 2 = 2 + i * 2 by omega, ← List.drop_drop]
    exact this
set_option maxRecDepth 100000 in
set_option maxHeartbeats 8000000 in
theorem p_mHonest (m : Mdl) (c : Crt) (hm : smallMd m) (hc : smallC c) (hw : ∀ w ∈ c.words, w.size ≤ 1000) (hsp : c.speaker.size ≤ 1000) : PCalls Try.prog 19 [mdV m, vC c] (tupB (mdMay m && decide (checkE c = 0)) (honestE m c)) := by
  have qm := p_mmay m hm.1 hm.2
  have qc := p_check c hc
  have qr := p_mread m hm.1 hm.2
  have qu := p_rules c (by have := hc.2.2.1; omega)
  refine pcalls_of (by simp [free.frees, free_mdV, free_vC]) (free_tupB _ _) (acalls_of mixed J_model_Honest_ok (Nat.le_of_ble_eq_true rfl) ?_); simp only [J_model_Honest, mdV, vC, cC, wk,if_true,if_false,forall_const,implies_true,ne_eq,eq_self,Nat.reduceEqDiff,Nat.reduceAdd,Nat.reduceMul,Nat.reduceSub,Nat.reduceLeDiff,Nat.reduceLT,Int.reduceEq,Int.reduceLT,Int.reduceLE,Int.reduceAdd,Int.reduceSub,Int.reduceMul,Int.reduceNeg,Int.reduceNe,reduceCtorEq,Int.reduceToNat,↓reduceIte]
  simp only [mdV, vC, cC] at qm qc qr qu
  refine PCalls.use (qm) ?_; simp only [wk,if_true,if_false,forall_const,implies_true,ne_eq,eq_self,Nat.reduceEqDiff,Nat.reduceAdd,Nat.reduceMul,Nat.reduceSub,Nat.reduceLeDiff,Nat.reduceLT,Int.reduceEq,Int.reduceLT,Int.reduceLE,Int.reduceAdd,Int.reduceSub,Int.reduceMul,Int.reduceNeg,Int.reduceNe,reduceCtorEq,Int.reduceToNat,↓reduceIte]
  cases hmm : mdMay m with
  | false => simp only [hmm, wk,if_true,if_false,forall_const,implies_true,ne_eq,eq_self,Nat.reduceEqDiff,Nat.reduceAdd,Nat.reduceMul,Nat.reduceSub,Nat.reduceLeDiff,Nat.reduceLT,Int.reduceEq,Int.reduceLT,Int.reduceLE,Int.reduceAdd,Int.reduceSub,Int.reduceMul,Int.reduceNeg,Int.reduceNe,reduceCtorEq,Int.reduceToNat,↓reduceIte]; simp [tupB, hmm]
  | true =>
    try simp only [hmm, wk,if_true,if_false,forall_const,implies_true,ne_eq,eq_self,Nat.reduceEqDiff,Nat.reduceAdd,Nat.reduceMul,Nat.reduceSub,Nat.reduceLeDiff,Nat.reduceLT,Int.reduceEq,Int.reduceLT,Int.reduceLE,Int.reduceAdd,Int.reduceSub,Int.reduceMul,Int.reduceNeg,Int.reduceNe,reduceCtorEq,Int.reduceToNat,↓reduceIte]
    refine PCalls.use (qc) ?_; simp only [wk,if_true,if_false,forall_const,implies_true,ne_eq,eq_self,Nat.reduceEqDiff,Nat.reduceAdd,Nat.reduceMul,Nat.reduceSub,Nat.reduceLeDiff,Nat.reduceLT,Int.reduceEq,Int.reduceLT,Int.reduceLE,Int.reduceAdd,Int.reduceSub,Int.reduceMul,Int.reduceNeg,Int.reduceNe,reduceCtorEq,Int.reduceToNat,↓reduceIte]
    refine ⟨fun hne => ?_, fun he => ?_⟩
    · simp [tupB, hne]
    · have hg := good_of he
      have hln := hc.2.2.1
      have qo := p_wof [c.signer] (by simp) (by simpa using hc.1)
      rw [atomBytes_one] at qo
      simp only [u16s, List.map_cons, List.map_nil, List.length_singleton] at qo
      have qs := p_mword m.rows (atomW c.signer) (atomW_may hg.signer) (by show (2 : Nat) ≤ 1000; omega)
      simp only [mpV, rlV] at qs
      have h8 := wordR_length m.rows (atomW c.signer)
      refine PCalls.use (qr) ?_; simp only [wk,if_true,if_false,forall_const,implies_true,ne_eq,eq_self,Nat.reduceEqDiff,Nat.reduceAdd,Nat.reduceMul,Nat.reduceSub,Nat.reduceLeDiff,Nat.reduceLT,Int.reduceEq,Int.reduceLT,Int.reduceLE,Int.reduceAdd,Int.reduceSub,Int.reduceMul,Int.reduceNeg,Int.reduceNe,reduceCtorEq,Int.reduceToNat,↓reduceIte]
      refine PCalls.use (qo) ?_; simp only [wk,if_true,if_false,forall_const,implies_true,ne_eq,eq_self,Nat.reduceEqDiff,Nat.reduceAdd,Nat.reduceMul,Nat.reduceSub,Nat.reduceLeDiff,Nat.reduceLT,Int.reduceEq,Int.reduceLT,Int.reduceLE,Int.reduceAdd,Int.reduceSub,Int.reduceMul,Int.reduceNeg,Int.reduceNe,reduceCtorEq,Int.reduceToNat,↓reduceIte]
      refine PCalls.use (qs) ?_; simp only [wk,if_true,if_false,forall_const,implies_true,ne_eq,eq_self,Nat.reduceEqDiff,Nat.reduceAdd,Nat.reduceMul,Nat.reduceSub,Nat.reduceLeDiff,Nat.reduceLT,Int.reduceEq,Int.reduceLT,Int.reduceLE,Int.reduceAdd,Int.reduceSub,Int.reduceMul,Int.reduceNeg,Int.reduceNe,reduceCtorEq,Int.reduceToNat,↓reduceIte]
      rw [splice_all _ _ (by simp [len_rlC, h8])]
      refine ⟨by rw [len_rlC, h8], ?_⟩
      generalize hsg : wordR m.rows (atomW c.signer) = sg at *
      have hws : ∀ w ∈ c.words, wordMay w = true := (setMay_words hg.words).2
      refine W_loop (fun n fr h => ∃ i : Nat, i ≤ c.words.length ∧ n = c.words.length - i ∧ (∀ w ∈ c.words.take i, withinR (wordR m.rows w) sg = true) ∧ fr = [(3, .ptr 1 0), (6, mpV m.rows), (7, .ptr 2 0), (29, .lst .ro c.words.length (c.words.map .str)), (30, .int .i64 c.words.length), (31, .int .i64 i)] ∧ h = [some (false, [.int .i64 m.n, .lst .ro m.rows.length (rowsC m.rows)]), some (false, cC c), some (true, rlC sg)]) c.words.length ⟨0, by omega, by omega, by simp, rfl, rfl⟩ ?_
      rintro n fr h' ⟨i, hi, rfl, hall, rfl, rfl⟩
      simp only [J_model_Honest_j4, mpV, cC, wk,if_true,if_false,forall_const,implies_true,ne_eq,eq_self,Nat.reduceEqDiff,Nat.reduceAdd,Nat.reduceMul,Nat.reduceSub,Nat.reduceLeDiff,Nat.reduceLT,Int.reduceEq,Int.reduceLT,Int.reduceLE,Int.reduceAdd,Int.reduceSub,Int.reduceMul,Int.reduceNeg,Int.reduceNe,reduceCtorEq,Int.reduceToNat,↓reduceIte]
      refine ⟨fun hlt => ?_, fun hge => ?_⟩
      · have hil : i < c.words.length := by omega
        have hin : ((0 ≤ (i : Int)) ∧ (i : Int) < (c.words.length : Int)) = True := by simp; omega
        have hd : (c.words.map AV.str).drop i = .str c.words[i] :: (c.words.map AV.str).drop (i + 1) := by
          rw [List.drop_eq_getElem_cons (by simpa using hil)]; simp
        have hmem := List.getElem_mem hil
        have qw := p_mword m.rows c.words[i] (hws _ hmem) (hw _ hmem)
        have qi := p_mwithin (wordR m.rows c.words[i]) sg (wordR_length _ _) h8
        simp only [rlV, mpV] at qw qi
        simp only [hin, Int.toNat_natCast, hd, wk,if_true,if_false,forall_const,implies_true,ne_eq,eq_self,Nat.reduceEqDiff,Nat.reduceAdd,Nat.reduceMul,Nat.reduceSub,Nat.reduceLeDiff,Nat.reduceLT,Int.reduceEq,Int.reduceLT,Int.reduceLE,Int.reduceAdd,Int.reduceSub,Int.reduceMul,Int.reduceNeg,Int.reduceNe,reduceCtorEq,Int.reduceToNat,↓reduceIte]
        refine ⟨_, qw, ?_⟩; try simp only [wk,if_true,if_false,forall_const,implies_true,ne_eq,eq_self,Nat.reduceEqDiff,Nat.reduceAdd,Nat.reduceMul,Nat.reduceSub,Nat.reduceLeDiff,Nat.reduceLT,Int.reduceEq,Int.reduceLT,Int.reduceLE,Int.reduceAdd,Int.reduceSub,Int.reduceMul,Int.reduceNeg,Int.reduceNe,reduceCtorEq,Int.reduceToNat,↓reduceIte]
        rw [take_rlC _ h8, deg_rlC]
        refine ⟨by rw [len_rlC, h8]; omega, ?_⟩
        refine ⟨_, qi, ?_⟩; try simp only [wk,if_true,if_false,forall_const,implies_true,ne_eq,eq_self,Nat.reduceEqDiff,Nat.reduceAdd,Nat.reduceMul,Nat.reduceSub,Nat.reduceLeDiff,Nat.reduceLT,Int.reduceEq,Int.reduceLT,Int.reduceLE,Int.reduceAdd,Int.reduceSub,Int.reduceMul,Int.reduceNeg,Int.reduceNe,reduceCtorEq,Int.reduceToNat,↓reduceIte]
        refine ⟨fun hne => ?_, fun hy => ⟨inR_of (by omega) (by omega), c.words.length - (i + 1), by omega, i + 1, by omega, rfl, fun w hx => ?_, by simp⟩⟩
        · have hh : honestE m c = true := by
            simp only [honestE, Bool.or_eq_true, List.any_eq_true]
            exact .inl ⟨_, hmem, by rw [hsg]; simpa using hne⟩
          simp [tupB, hmm, he, hh]
        · rw [List.take_succ_eq_append_getElem hil, List.mem_append, List.mem_singleton] at hx
          rcases hx with hx | rfl
          · exact hall w hx
          · simpa using hy
      · obtain rfl : i = c.words.length := by omega
        rw [List.take_of_length_le (Nat.le_refl _)] at hall
        simp only [J_model_Honest_j3, wk,if_true,if_false,forall_const,implies_true,ne_eq,eq_self,Nat.reduceEqDiff,Nat.reduceAdd,Nat.reduceMul,Nat.reduceSub,Nat.reduceLeDiff,Nat.reduceLT,Int.reduceEq,Int.reduceLT,Int.reduceLE,Int.reduceAdd,Int.reduceSub,Int.reduceMul,Int.reduceNeg,Int.reduceNe,reduceCtorEq,Int.reduceToNat,↓reduceIte]
        refine PCalls.use (qu) ?_; simp only [wk,if_true,if_false,forall_const,implies_true,ne_eq,eq_self,Nat.reduceEqDiff,Nat.reduceAdd,Nat.reduceMul,Nat.reduceSub,Nat.reduceLeDiff,Nat.reduceLT,Int.reduceEq,Int.reduceLT,Int.reduceLE,Int.reduceAdd,Int.reduceSub,Int.reduceMul,Int.reduceNeg,Int.reduceNe,reduceCtorEq,Int.reduceToNat,↓reduceIte]
        refine W_loop (fun n fr h => ∃ i : Nat, i ≤ c.words.length ∧ n = c.words.length - i ∧ (∀ w ∈ c.words.take i, withinR (wordR m.rows w) (wordR m.rows c.speaker) = true) ∧ fr = [(6, mpV m.rows), (43, .lst .ro c.words.length (rulesL c c.words)), (44, .int .i64 c.words.length), (45, .int .i64 i)]) c.words.length ⟨0, by omega, by omega, by simp, rfl⟩ ?_
        rintro n fr h' ⟨i, hi, rfl, hall2, rfl⟩
        simp only [J_model_Honest_j2, mpV, wk,if_true,if_false,forall_const,implies_true,ne_eq,eq_self,Nat.reduceEqDiff,Nat.reduceAdd,Nat.reduceMul,Nat.reduceSub,Nat.reduceLeDiff,Nat.reduceLT,Int.reduceEq,Int.reduceLT,Int.reduceLE,Int.reduceAdd,Int.reduceSub,Int.reduceMul,Int.reduceNeg,Int.reduceNe,reduceCtorEq,Int.reduceToNat,↓reduceIte]
        refine ⟨fun hlt => ?_, fun hge => ?_⟩
        · have hil : i < c.words.length := by omega
          have hin : ((0 ≤ (i : Int)) ∧ (i : Int) < (c.words.length : Int)) = True := by simp; omega
          have hd := rulesL_at (c := c) hil
          have hmem := List.getElem_mem hil
          have ql := p_mrule m.rows c.words[i] c.speaker ⟨hws _ hmem, hw _ hmem⟩ ⟨hg.speaker, hsp⟩
          simp only [mpV] at ql
          simp only [hin, Int.toNat_natCast, hd, wk,if_true,if_false,forall_const,implies_true,ne_eq,eq_self,Nat.reduceEqDiff,Nat.reduceAdd,Nat.reduceMul,Nat.reduceSub,Nat.reduceLeDiff,Nat.reduceLT,Int.reduceEq,Int.reduceLT,Int.reduceLE,Int.reduceAdd,Int.reduceSub,Int.reduceMul,Int.reduceNeg,Int.reduceNe,reduceCtorEq,Int.reduceToNat,↓reduceIte]
          refine PCalls.use (ql) ?_; simp only [wk,if_true,if_false,forall_const,implies_true,ne_eq,eq_self,Nat.reduceEqDiff,Nat.reduceAdd,Nat.reduceMul,Nat.reduceSub,Nat.reduceLeDiff,Nat.reduceLT,Int.reduceEq,Int.reduceLT,Int.reduceLE,Int.reduceAdd,Int.reduceSub,Int.reduceMul,Int.reduceNeg,Int.reduceNe,reduceCtorEq,Int.reduceToNat,↓reduceIte]
          refine ⟨fun hne => ?_, fun hy => ⟨inR_of (by omega) (by omega), c.words.length - (i + 1), by omega, i + 1, by omega, rfl, fun w hx => ?_, by simp⟩⟩
          · have hh : honestE m c = false := by
              simp only [honestE, Bool.or_eq_false_iff, List.any_eq_false, List.all_eq_false]
              exact ⟨fun w hx => by rw [hsg, hall w hx]; simp, _, hmem, by simpa using hne⟩
            simp [tupB, hmm, he, hh]
          · rw [List.take_succ_eq_append_getElem hil, List.mem_append, List.mem_singleton] at hx
            rcases hx with hx | rfl
            · exact hall2 w hx
            · simpa using hy
        · obtain rfl : i = c.words.length := by omega
          rw [List.take_of_length_le (Nat.le_refl _)] at hall2
          simp only [J_model_Honest_j1, wk,if_true,if_false,forall_const,implies_true,ne_eq,eq_self,Nat.reduceEqDiff,Nat.reduceAdd,Nat.reduceMul,Nat.reduceSub,Nat.reduceLeDiff,Nat.reduceLT,Int.reduceEq,Int.reduceLT,Int.reduceLE,Int.reduceAdd,Int.reduceSub,Int.reduceMul,Int.reduceNeg,Int.reduceNe,reduceCtorEq,Int.reduceToNat,↓reduceIte]
          have hh : honestE m c = true := by
            simp only [honestE, Bool.or_eq_true, List.all_eq_true]
            exact .inr hall2
          simp [tupB, hmm, he, hh]
end Go.Proofs.Ytlfnepcglnjogaa

/- Models: the calls whose answers the document fixes (awake), over the abstract code. -/
-- fast
namespace Go.Proofs.Ytlfnepcglnjogaa
set_option linter.unusedSimpArgs false
set_option linter.unusedVariables false
open Go.RowKit Go.Lib

def wd1 : ByteArray := ⟨#[32, 1]⟩
def wd2 : ByteArray := ⟨#[32, 2]⟩
def wd12 : ByteArray := ⟨#[32, 1, 32, 2]⟩
def md0 : Mdl := ⟨2, [⟨8193, [2, 0]⟩, ⟨8194, [0, 1]⟩]⟩
def md1 : Mdl := ⟨0, []⟩
def md9 : Mdl := ⟨9, []⟩
def ct0 : Crt := ⟨6, 8193, wd2, [wd1], 0, 0, 0⟩
theorem k14_app : wd1 ++ wd2 = wd12 := by apply ByteArray.ext; apply Array.ext'; simp [wd1, wd2, wd12]
theorem sm0 : smallMd md0 := ⟨by decide, by intro x hx; simp [md0] at hx; rcases hx with rfl | rfl <;> exact ⟨by decide, by decide⟩⟩
theorem sm1 : smallMd md1 := ⟨by decide, by intro x hx; simp [md1] at hx⟩
theorem sm9 : smallMd md9 := ⟨by decide, by intro x hx; simp [md9] at hx⟩
theorem k14_word : mWordV md0 wd12 = .tup [.lst .ro 2 [.int .u8 1, .int .u8 0], .int .i64 0] := by kernel_rfl
theorem k14_set : mSetV md0 [wd1, wd2] = .tup [.lst .ro 2 [.int .u8 2, .int .u8 1], .int .i64 0] := by kernel_rfl
theorem k14_holds : tupB (mdMay md0 && (wordMay wd12 && wordMay wd1)) (withinR (wordR md0.rows wd12) (wordR md0.rows wd1)) = .tup [.bool false, .int .i64 0] := by kernel_rfl
theorem k14_speaks : tupB (mdMay md0 && (setMay [wd1, wd2] && setMay [wd2])) (withinR (setN md0.rows [wd2]) (setN md0.rows [wd1, wd2])) = .tup [.bool true, .int .i64 0] := by kernel_rfl
theorem k14_none : mWordV md1 wd1 = .tup [.lst .clip 0 [], .int .i64 2] := by kernel_rfl
theorem k14_hon : tupB (mdMay md0 && decide (checkE ct0 = 0)) (honestE md0 ct0) = .tup [.bool false, .int .i64 0] := by kernel_rfl
theorem k14_may : mdMay md0 = true := by kernel_rfl
theorem k14_may9 : mdMay md9 = false := by kernel_rfl
theorem q14_1 : PCalls Try.prog 22 [.lst .ro 1 [.int .u16 8193]] (.str wd1) := p_rof [8193] (by decide) (by decide)
theorem q14_2 : PCalls Try.prog 22 [.lst .ro 1 [.int .u16 8194]] (.str wd2) := p_rof [8194] (by decide) (by decide)
abbrev md0V : AV := .agg [.int .i64 2, .lst .ro 2 [.int .u16 8193, .lst .ro 2 [.int .u8 2, .int .u8 0], .int .u16 8194, .lst .ro 2 [.int .u8 0, .int .u8 1]]]
theorem q14_word : PCalls Try.prog 10 [md0V, .str wd12] (.tup [.lst .ro 2 [.int .u8 1, .int .u8 0], .int .i64 0]) := by
  have q := p_mWord md0 wd12 sm0 (by decide)
  rw [k14_word] at q; exact q
theorem q14_set : PCalls Try.prog 12 [md0V, .lst .ro 2 [.str wd1, .str wd2]] (.tup [.lst .ro 2 [.int .u8 2, .int .u8 1], .int .i64 0]) := by
  have q := p_mSet md0 [wd1, wd2] sm0 (by decide) (by intro w hw; simp at hw; rcases hw with rfl | rfl <;> decide)
  rw [k14_set] at q; exact q
theorem q14_holds : PCalls Try.prog 14 [md0V, .agg [.str wd12, .str wd1]] (.tup [.bool false, .int .i64 0]) := by
  have q := p_mHolds md0 wd12 wd1 sm0 (by decide) (by decide)
  rw [k14_holds] at q; exact q
theorem q14_speaks : PCalls Try.prog 16 [md0V, .lst .ro 2 [.str wd1, .str wd2], .lst .ro 1 [.str wd2]] (.tup [.bool true, .int .i64 0]) := by
  have q := p_mSpeaks md0 [wd1, wd2] [wd2] sm0 ⟨by decide, by intro w hw; simp at hw; rcases hw with rfl | rfl <;> decide⟩ ⟨by decide, by intro w hw; simp at hw; subst hw; decide⟩
  rw [k14_speaks] at q; exact q
theorem q14_none : PCalls Try.prog 10 [.agg [.int .i64 0, .lst .clip 0 []], .str wd1] (.tup [.lst .clip 0 [], .int .i64 2]) := by
  have q := p_mWord md1 wd1 sm1 (by decide)
  rw [k14_none] at q
  refine PCalls.argd ?_
  simp only [rdpw]; exact q
theorem q14_hon : PCalls Try.prog 19 [md0V, .agg [.int .i64 6, .int .u16 8193, .str wd2, .lst .ro 1 [.str wd1], .int .i64 0, .int .i64 0, .int .i64 0]] (.tup [.bool false, .int .i64 0]) := by
  have q := p_mHonest md0 ct0 sm0 ⟨by decide, by decide, by decide, by intro w hw; simp [ct0] at hw; subst hw; decide⟩ (by intro w hw; simp [ct0] at hw; subst hw; decide) (by decide)
  rw [k14_hon] at q; exact q
theorem q14_may : PCalls Try.prog 8 [md0V] (.bool true) := by
  have q := p_mmay md0 sm0.1 sm0.2
  rw [k14_may] at q; exact q
theorem q14_may9 : PCalls Try.prog 8 [.agg [.int .i64 9, .lst .clip 0 []]] (.bool false) := by
  have q := p_mmay md9 sm9.1 sm9.2
  rw [k14_may9] at q
  refine PCalls.argd ?_
  simp only [rdpw]; exact q
set_option maxRecDepth 100000 in
set_option maxHeartbeats 8000000 in
theorem p14_awake : PCalls Try.prog 5 [] (.bool true) := by
  refine pcalls_of rfl rfl (acalls_of mixed J_law14_awake_ok (Nat.le_of_ble_eq_true rfl) ?_); simp only [J_law14_awake, wk,if_true,if_false,forall_const,implies_true,ne_eq,eq_self,Nat.reduceEqDiff,Nat.reduceAdd,Nat.reduceMul,Nat.reduceSub,Nat.reduceLeDiff,Nat.reduceLT,Int.reduceEq,Int.reduceLT,Int.reduceLE,Int.reduceAdd,Int.reduceSub,Int.reduceMul,Int.reduceNeg,Int.reduceNe,reduceCtorEq,Int.reduceToNat,↓reduceIte]
  refine PCalls.use (q14_1) ?_; simp only [wk,if_true,if_false,forall_const,implies_true,ne_eq,eq_self,Nat.reduceEqDiff,Nat.reduceAdd,Nat.reduceMul,Nat.reduceSub,Nat.reduceLeDiff,Nat.reduceLT,Int.reduceEq,Int.reduceLT,Int.reduceLE,Int.reduceAdd,Int.reduceSub,Int.reduceMul,Int.reduceNeg,Int.reduceNe,reduceCtorEq,Int.reduceToNat,↓reduceIte]
  refine PCalls.use (q14_2) ?_; simp only [wk,if_true,if_false,forall_const,implies_true,ne_eq,eq_self,Nat.reduceEqDiff,Nat.reduceAdd,Nat.reduceMul,Nat.reduceSub,Nat.reduceLeDiff,Nat.reduceLT,Int.reduceEq,Int.reduceLT,Int.reduceLE,Int.reduceAdd,Int.reduceSub,Int.reduceMul,Int.reduceNeg,Int.reduceNe,reduceCtorEq,Int.reduceToNat,↓reduceIte]
  rw [k14_app]
  refine ⟨by decide, ?_⟩
  refine PCalls.use (q14_word) ?_; simp only [wk,if_true,if_false,forall_const,implies_true,ne_eq,eq_self,Nat.reduceEqDiff,Nat.reduceAdd,Nat.reduceMul,Nat.reduceSub,Nat.reduceLeDiff,Nat.reduceLT,Int.reduceEq,Int.reduceLT,Int.reduceLE,Int.reduceAdd,Int.reduceSub,Int.reduceMul,Int.reduceNeg,Int.reduceNe,reduceCtorEq,Int.reduceToNat,↓reduceIte]
  refine PCalls.use (q14_set) ?_; simp only [wk,if_true,if_false,forall_const,implies_true,ne_eq,eq_self,Nat.reduceEqDiff,Nat.reduceAdd,Nat.reduceMul,Nat.reduceSub,Nat.reduceLeDiff,Nat.reduceLT,Int.reduceEq,Int.reduceLT,Int.reduceLE,Int.reduceAdd,Int.reduceSub,Int.reduceMul,Int.reduceNeg,Int.reduceNe,reduceCtorEq,Int.reduceToNat,↓reduceIte]
  refine ⟨by decide, ?_⟩
  try rw [k14_app]
  refine PCalls.use (q14_holds) ?_; simp only [wk,if_true,if_false,forall_const,implies_true,ne_eq,eq_self,Nat.reduceEqDiff,Nat.reduceAdd,Nat.reduceMul,Nat.reduceSub,Nat.reduceLeDiff,Nat.reduceLT,Int.reduceEq,Int.reduceLT,Int.reduceLE,Int.reduceAdd,Int.reduceSub,Int.reduceMul,Int.reduceNeg,Int.reduceNe,reduceCtorEq,Int.reduceToNat,↓reduceIte]
  refine PCalls.use (q14_speaks) ?_; simp only [wk,if_true,if_false,forall_const,implies_true,ne_eq,eq_self,Nat.reduceEqDiff,Nat.reduceAdd,Nat.reduceMul,Nat.reduceSub,Nat.reduceLeDiff,Nat.reduceLT,Int.reduceEq,Int.reduceLT,Int.reduceLE,Int.reduceAdd,Int.reduceSub,Int.reduceMul,Int.reduceNeg,Int.reduceNe,reduceCtorEq,Int.reduceToNat,↓reduceIte]
  refine PCalls.use (q14_none) ?_; simp only [wk,if_true,if_false,forall_const,implies_true,ne_eq,eq_self,Nat.reduceEqDiff,Nat.reduceAdd,Nat.reduceMul,Nat.reduceSub,Nat.reduceLeDiff,Nat.reduceLT,Int.reduceEq,Int.reduceLT,Int.reduceLE,Int.reduceAdd,Int.reduceSub,Int.reduceMul,Int.reduceNeg,Int.reduceNe,reduceCtorEq,Int.reduceToNat,↓reduceIte]
  refine PCalls.use (q14_hon) ?_; simp only [wk,if_true,if_false,forall_const,implies_true,ne_eq,eq_self,Nat.reduceEqDiff,Nat.reduceAdd,Nat.reduceMul,Nat.reduceSub,Nat.reduceLeDiff,Nat.reduceLT,Int.reduceEq,Int.reduceLT,Int.reduceLE,Int.reduceAdd,Int.reduceSub,Int.reduceMul,Int.reduceNeg,Int.reduceNe,reduceCtorEq,Int.reduceToNat,↓reduceIte]
  refine ⟨[1, 0], rfl, rfl, fun _ => ⟨[2, 1], rfl, rfl, fun _ => ?_, fun h => absurd rfl h⟩, fun h => absurd rfl h⟩
  try simp only [wk,if_true,if_false,forall_const,implies_true,ne_eq,eq_self,Nat.reduceEqDiff,Nat.reduceAdd,Nat.reduceMul,Nat.reduceSub,Nat.reduceLeDiff,Nat.reduceLT,Int.reduceEq,Int.reduceLT,Int.reduceLE,Int.reduceAdd,Int.reduceSub,Int.reduceMul,Int.reduceNeg,Int.reduceNe,reduceCtorEq,Int.reduceToNat,↓reduceIte]
  refine PCalls.use (q14_may) ?_; simp only [wk,if_true,if_false,forall_const,implies_true,ne_eq,eq_self,Nat.reduceEqDiff,Nat.reduceAdd,Nat.reduceMul,Nat.reduceSub,Nat.reduceLeDiff,Nat.reduceLT,Int.reduceEq,Int.reduceLT,Int.reduceLE,Int.reduceAdd,Int.reduceSub,Int.reduceMul,Int.reduceNeg,Int.reduceNe,reduceCtorEq,Int.reduceToNat,↓reduceIte]
  refine PCalls.use (q14_may9) ?_; simp only [wk,if_true,if_false,forall_const,implies_true,ne_eq,eq_self,Nat.reduceEqDiff,Nat.reduceAdd,Nat.reduceMul,Nat.reduceSub,Nat.reduceLeDiff,Nat.reduceLT,Int.reduceEq,Int.reduceLT,Int.reduceLE,Int.reduceAdd,Int.reduceSub,Int.reduceMul,Int.reduceNeg,Int.reduceNe,reduceCtorEq,Int.reduceToNat,↓reduceIte]
end Go.Proofs.Ytlfnepcglnjogaa

/- Models: what is too much to be looked at (large), over the abstract code. -/
-- fast
namespace Go.Proofs.Ytlfnepcglnjogaa
set_option linter.unusedSimpArgs false
set_option linter.unusedVariables false
open Go.RowKit Go.Lib

def setsC (l : List (List ByteArray)) : List AV := l.map fun s => .lst .ro s.length (s.map .str)
theorem frees_setsC (l : List (List ByteArray)) : free.frees (setsC l) = true := by
  induction l with
  | nil => rfl
  | cons s l ih => simp only [setsC, List.map_cons, free.frees, free, frees_strs, Bool.true_and] at ih ⊢; exact ih
theorem setsC_at {l : List (List ByteArray)} {i : Nat} (h : i < l.length) : (setsC l).drop i = .lst .ro l[i].length (l[i].map .str) :: (setsC l).drop (i + 1) := by
  unfold setsC
  rw [List.drop_eq_getElem_cons (by simpa using h)]; simp
theorem strs_at {l : List ByteArray} {i : Nat} (h : i < l.length) : (l.map AV.str).drop i = .str l[i] :: (l.map AV.str).drop (i + 1) := by
  rw [List.drop_eq_getElem_cons (by simpa using h)]; simp
def bigS (s : List ByteArray) : Bool := decide (30 < s.length) || s.any fun w => decide (100 < w.size)
def largeM (m : Mdl) (l : List (List ByteArray)) : Bool := decide (30 < m.rows.length) || (m.rows.any fun x => decide (20 < x.to.length)) || l.any bigS
theorem any_take {α : Type} {l : List α} {i : Nat} (h : i < l.length) {p : α → Bool} (ha : (l.take i).any p = false) (hp : p l[i] = false) : (l.take (i + 1)).any p = false := by
  rw [List.take_succ_eq_append_getElem h, List.any_append, ha]; simp [hp]
theorem any_mem {α : Type} {l : List α} {i : Nat} (h : i < l.length) {p : α → Bool} (hp : p l[i] = true) : l.any p = true := List.any_eq_true.2 ⟨_, List.getElem_mem h, hp⟩
set_option maxRecDepth 100000 in
set_option maxHeartbeats 8000000 in
theorem p14_large (m : Mdl) (l : List (List ByteArray)) (hl : l.length ≤ 1000) : PCalls Try.prog 6 [mdV m, .lst .ro l.length (setsC l)] (.bool (largeM m l)) := by
  refine pcalls_of (by simp [free.frees, free, free_mdV, frees_setsC]) rfl (acalls_of mixed J_law14_large_ok (Nat.le_of_ble_eq_true rfl) ?_); simp only [J_law14_large, mdV, wk,if_true,if_false,forall_const,implies_true,ne_eq,eq_self,Nat.reduceEqDiff,Nat.reduceAdd,Nat.reduceMul,Nat.reduceSub,Nat.reduceLeDiff,Nat.reduceLT,Int.reduceEq,Int.reduceLT,Int.reduceLE,Int.reduceAdd,Int.reduceSub,Int.reduceMul,Int.reduceNeg,Int.reduceNe,reduceCtorEq,Int.reduceToNat,↓reduceIte]
  refine ⟨fun h1 => boolE (by simp only [largeM]; rw [decide_eq_true (by omega)]; rfl), fun h1 => ?_⟩
  have e1 : decide (30 < m.rows.length) = false := by simp; omega
  refine W_loop (fun n fr h => ∃ i : Nat, i ≤ m.rows.length ∧ n = m.rows.length - i ∧ (m.rows.take i).any (fun x => decide (20 < x.to.length)) = false ∧ fr = [(1, .lst .ro l.length (setsC l)), (2, .ptr 0 0), (14, .int .i64 m.rows.length), (15, .int .i64 i)] ∧ h = [some (false, [.int .i64 m.n, .lst .ro m.rows.length (rowsC m.rows)])]) m.rows.length ⟨0, by omega, by omega, by simp, rfl, rfl⟩ ?_
  rintro n fr h' ⟨i, hi, rfl, hall, rfl, rfl⟩
  simp only [J_law14_large_j6, wk,if_true,if_false,forall_const,implies_true,ne_eq,eq_self,Nat.reduceEqDiff,Nat.reduceAdd,Nat.reduceMul,Nat.reduceSub,Nat.reduceLeDiff,Nat.reduceLT,Int.reduceEq,Int.reduceLT,Int.reduceLE,Int.reduceAdd,Int.reduceSub,Int.reduceMul,Int.reduceNeg,Int.reduceNe,reduceCtorEq,Int.reduceToNat,↓reduceIte]
  refine ⟨fun hlt => ?_, fun hge => ?_⟩
  · have hil : i < m.rows.length := by omega
    have hin : ((0 ≤ (i : Int)) ∧ (i : Int) < (m.rows.length : Int)) = True := by simp; omega
    have hd := rowsC_at hil
    simp only [rowC, kA, List.cons_append, List.nil_append] at hd
    simp only [hin, Int.toNat_natCast, hd, wk,if_true,if_false,forall_const,implies_true,ne_eq,eq_self,Nat.reduceEqDiff,Nat.reduceAdd,Nat.reduceMul,Nat.reduceSub,Nat.reduceLeDiff,Nat.reduceLT,Int.reduceEq,Int.reduceLT,Int.reduceLE,Int.reduceAdd,Int.reduceSub,Int.reduceMul,Int.reduceNeg,Int.reduceNe,reduceCtorEq,Int.reduceToNat,↓reduceIte]
    refine ⟨fun hb => boolE ?_, fun hb => ⟨inR_of (by omega) (by omega), m.rows.length - (i + 1), by omega, i + 1, by omega, rfl, any_take hil hall (by simp; omega), by simp⟩⟩
    have := any_mem hil (p := fun x : Row => decide (20 < x.to.length)) (by simp; omega)
    simp only [largeM, this, Bool.or_true, Bool.true_or]
  · obtain rfl : i = m.rows.length := by omega
    rw [List.take_of_length_le (Nat.le_refl _)] at hall
    simp only [J_law14_large_j5, wk,if_true,if_false,forall_const,implies_true,ne_eq,eq_self,Nat.reduceEqDiff,Nat.reduceAdd,Nat.reduceMul,Nat.reduceSub,Nat.reduceLeDiff,Nat.reduceLT,Int.reduceEq,Int.reduceLT,Int.reduceLE,Int.reduceAdd,Int.reduceSub,Int.reduceMul,Int.reduceNeg,Int.reduceNe,reduceCtorEq,Int.reduceToNat,↓reduceIte]
    refine W_loop (fun n fr h => ∃ i : Nat, i ≤ l.length ∧ n = l.length - i ∧ (l.take i).any bigS = false ∧ fr = [(1, .lst .ro l.length (setsC l)), (28, .int .i64 l.length), (29, .int .i64 i)]) l.length ⟨0, by omega, by omega, by simp, rfl⟩ ?_
    rintro n fr h' ⟨i, hi, rfl, hall2, rfl⟩
    simp only [J_law14_large_j4, wk,if_true,if_false,forall_const,implies_true,ne_eq,eq_self,Nat.reduceEqDiff,Nat.reduceAdd,Nat.reduceMul,Nat.reduceSub,Nat.reduceLeDiff,Nat.reduceLT,Int.reduceEq,Int.reduceLT,Int.reduceLE,Int.reduceAdd,Int.reduceSub,Int.reduceMul,Int.reduceNeg,Int.reduceNe,reduceCtorEq,Int.reduceToNat,↓reduceIte]
    refine ⟨fun hlt => ?_, fun hge => ?_⟩
    · have hil : i < l.length := by omega
      have hin : ((0 ≤ (i : Int)) ∧ (i : Int) < (l.length : Int)) = True := by simp; omega
      have hd := setsC_at hil
      have big : bigS l[i] = true → largeM m l = true := fun hb => by simp only [largeM, any_mem hil hb, Bool.or_true]
      simp only [hin, Int.toNat_natCast, hd, wk,if_true,if_false,forall_const,implies_true,ne_eq,eq_self,Nat.reduceEqDiff,Nat.reduceAdd,Nat.reduceMul,Nat.reduceSub,Nat.reduceLeDiff,Nat.reduceLT,Int.reduceEq,Int.reduceLT,Int.reduceLE,Int.reduceAdd,Int.reduceSub,Int.reduceMul,Int.reduceNeg,Int.reduceNe,reduceCtorEq,Int.reduceToNat,↓reduceIte]
      refine ⟨fun hb => boolE (big (by simp only [bigS]; rw [decide_eq_true (by omega)]; rfl)).symm, fun hb => ?_⟩
      generalize hx : l[i] = s at hd big hb ⊢
      refine W_loop (fun n fr h => ∃ j : Nat, j ≤ s.length ∧ n = s.length - j ∧ (s.take j).any (fun w => decide (100 < w.size)) = false ∧ fr = [(1, .lst .ro l.length (setsC l)), (6, .int .i64 i), (28, .int .i64 l.length), (29, .int .i64 i), (42, .int .i64 s.length), (43, .int .i64 j)]) s.length ⟨0, by omega, by omega, by simp, rfl⟩ ?_
      rintro n fr h' ⟨j, hj, rfl, hall3, rfl⟩
      simp only [J_law14_large_j3, wk,if_true,if_false,forall_const,implies_true,ne_eq,eq_self,Nat.reduceEqDiff,Nat.reduceAdd,Nat.reduceMul,Nat.reduceSub,Nat.reduceLeDiff,Nat.reduceLT,Int.reduceEq,Int.reduceLT,Int.reduceLE,Int.reduceAdd,Int.reduceSub,Int.reduceMul,Int.reduceNeg,Int.reduceNe,reduceCtorEq,Int.reduceToNat,↓reduceIte]
      refine ⟨fun hlt => ?_, fun hge => ?_⟩
      · have hjl : j < s.length := by omega
        have hjn : ((0 ≤ (j : Int)) ∧ (j : Int) < (s.length : Int)) = True := by simp; omega
        have hd2 := strs_at hjl
        simp only [hin, hjn, Int.toNat_natCast, hd, hd2, wk,if_true,if_false,forall_const,implies_true,ne_eq,eq_self,Nat.reduceEqDiff,Nat.reduceAdd,Nat.reduceMul,Nat.reduceSub,Nat.reduceLeDiff,Nat.reduceLT,Int.reduceEq,Int.reduceLT,Int.reduceLE,Int.reduceAdd,Int.reduceSub,Int.reduceMul,Int.reduceNeg,Int.reduceNe,reduceCtorEq,Int.reduceToNat,↓reduceIte]
        refine ⟨fun hb2 => boolE (big ?_).symm, fun hb2 => ⟨inR_of (by omega) (by omega), s.length - (j + 1), by omega, j + 1, by omega, rfl, any_take hjl hall3 (by simp; omega), by simp⟩⟩
        have := any_mem hjl (p := fun w : ByteArray => decide (100 < w.size)) (by simp; omega)
        simp only [bigS, this, Bool.or_true]
      · obtain rfl : j = s.length := by omega
        rw [List.take_of_length_le (Nat.le_refl _)] at hall3
        simp only [J_law14_large_j2, wk,if_true,if_false,forall_const,implies_true,ne_eq,eq_self,Nat.reduceEqDiff,Nat.reduceAdd,Nat.reduceMul,Nat.reduceSub,Nat.reduceLeDiff,Nat.reduceLT,Int.reduceEq,Int.reduceLT,Int.reduceLE,Int.reduceAdd,Int.reduceSub,Int.reduceMul,Int.reduceNeg,Int.reduceNe,reduceCtorEq,Int.reduceToNat,↓reduceIte]
        refine ⟨inR_of (by omega) (by omega), l.length - (i + 1), by omega, i + 1, by omega, rfl, any_take hil hall2 ?_, by simp⟩
        rw [hx]; simp only [bigS, hall3, Bool.or_false]; simp; omega
    · obtain rfl : i = l.length := by omega
      rw [List.take_of_length_le (Nat.le_refl _)] at hall2
      simp only [J_law14_large_j1, wk,if_true,if_false,forall_const,implies_true,ne_eq,eq_self,Nat.reduceEqDiff,Nat.reduceAdd,Nat.reduceMul,Nat.reduceSub,Nat.reduceLeDiff,Nat.reduceLT,Int.reduceEq,Int.reduceLT,Int.reduceLE,Int.reduceAdd,Int.reduceSub,Int.reduceMul,Int.reduceNeg,Int.reduceNe,reduceCtorEq,Int.reduceToNat,↓reduceIte]
      refine boolE ?_
      simp only [largeM, e1, hall, hall2]; rfl
end Go.Proofs.Ytlfnepcglnjogaa

/- ModelAround: who speaks for another speaks for it quoting, and quoted by, any third one. -/
-- fast
namespace Go.Proofs.Ytlfnepcglnjogaa
set_option linter.unusedSimpArgs false
set_option linter.unusedVariables false
open Go.RowKit Go.Lib

theorem not_large {m : Mdl} {l : List (List ByteArray)} (h : largeM m l = false) (hat : ∀ x ∈ m.rows, x.atom < 65536) : smallMd m ∧ ∀ s ∈ l, s.length ≤ 30 ∧ ∀ w ∈ s, w.size ≤ 100 := by
  simp only [largeM, Bool.or_eq_false_iff, decide_eq_false_iff_not, List.any_eq_false, decide_eq_true_eq, bigS] at h
  obtain ⟨⟨h1, h2⟩, h3⟩ := h
  refine ⟨⟨by omega, fun x hx => ⟨hat x hx, by have := h2 x hx; omega⟩⟩, fun s hs => ?_⟩
  have := h3 s hs
  simp only [Bool.or_eq_true, decide_eq_true_eq, List.any_eq_true, not_or, not_exists, not_and] at this
  exact ⟨by omega, fun w hw => by have := this.2 w hw; omega⟩
end Go.Proofs.Ytlfnepcglnjogaa

/- ModelAround, over the abstract code. -/
-- fast
namespace Go.Proofs.Ytlfnepcglnjogaa
set_option linter.unusedSimpArgs false
set_option linter.unusedVariables false
open Go.RowKit Go.Lib

end Go.Proofs.Ytlfnepcglnjogaa

/- The law's own copy of a model; what the document tells, over the abstract code. -/
-- fast
namespace Go.Proofs.Ytlfnepcglnjogaa
set_option linter.unusedSimpArgs false
set_option linter.unusedVariables false
open Go.RowKit Go.Lib

theorem rowsC_take {l : List Row} {i : Nat} (h : i < l.length) : rowsC (l.take (i + 1)) = rowsC (l.take i) ++ [kA l[i].atom, .lst .ro l[i].to.length (rlC l[i].to)] := by
  simp only [rowsC]
  rw [List.take_succ_eq_append_getElem h, List.flatMap_append]; simp [rowC]
set_option maxRecDepth 100000 in
set_option maxHeartbeats 8000000 in
theorem p_own14 (m : Mdl) (hm : smallMd m) : PCalls Try.prog 7 [mdV m] (mdV m) := by
  refine pcalls_of (by simp [free.frees, free_mdV]) (free_mdV _) (acalls_of mixed J_law14_own_ok (Nat.le_of_ble_eq_true rfl) ?_); simp only [J_law14_own, mdV, wk,if_true,if_false,forall_const,implies_true,ne_eq,eq_self,Nat.reduceEqDiff,Nat.reduceAdd,Nat.reduceMul,Nat.reduceSub,Nat.reduceLeDiff,Nat.reduceLT,Int.reduceEq,Int.reduceLT,Int.reduceLE,Int.reduceAdd,Int.reduceSub,Int.reduceMul,Int.reduceNeg,Int.reduceNe,reduceCtorEq,Int.reduceToNat,↓reduceIte]
  refine W_loop (fun n fr h => ∃ i : Nat, i ≤ m.rows.length ∧ n = m.rows.length - i ∧ fr = [(1, .ptr 0 0), (2, .ptr 1 0), (3, .ptr 2 0), (10, .int .i64 m.rows.length), (11, .int .i64 i)] ∧ h = [some (false, [.int .i64 m.n, .lst .ro m.rows.length (rowsC m.rows)]), some (false, [.int .i64 0, .lst (.own 54) 0 []]), some (false, [.int .i64 m.n, .lst (.own 54) i (rowsC (m.rows.take i))])]) m.rows.length ⟨0, by omega, by omega, rfl, rfl⟩ ?_
  rintro n fr h' ⟨i, hi, rfl, rfl, rfl⟩
  simp only [J_law14_own_j2, wk,if_true,if_false,forall_const,implies_true,ne_eq,eq_self,Nat.reduceEqDiff,Nat.reduceAdd,Nat.reduceMul,Nat.reduceSub,Nat.reduceLeDiff,Nat.reduceLT,Int.reduceEq,Int.reduceLT,Int.reduceLE,Int.reduceAdd,Int.reduceSub,Int.reduceMul,Int.reduceNeg,Int.reduceNe,reduceCtorEq,Int.reduceToNat,↓reduceIte]
  refine ⟨fun hlt => ?_, fun hge => ?_⟩
  · have hil : i < m.rows.length := by omega
    have hin : ((0 ≤ (i : Int)) ∧ (i : Int) < (m.rows.length : Int)) = True := by simp; omega
    have hd := rowsC_at hil
    have hsm := hm.2 _ (List.getElem_mem hil)
    have hln := hm.1
    have ht := rowsC_take hil
    generalize hx : m.rows[i] = x at hd hsm ht
    simp only [rowC, kA, List.cons_append, List.nil_append] at hd ht
    have hl := hsm.2
    simp only [hin, Int.toNat_natCast, hd, wk,if_true,if_false,forall_const,implies_true,ne_eq,eq_self,Nat.reduceEqDiff,Nat.reduceAdd,Nat.reduceMul,Nat.reduceSub,Nat.reduceLeDiff,Nat.reduceLT,Int.reduceEq,Int.reduceLT,Int.reduceLE,Int.reduceAdd,Int.reduceSub,Int.reduceMul,Int.reduceNeg,Int.reduceNe,reduceCtorEq,Int.reduceToNat,↓reduceIte]
    exact ⟨⟨len_rlC _, by omega, by omega⟩, ⟨by omega, by omega⟩, inR_of (by omega) (by omega), m.rows.length - (i + 1), by omega, i + 1, by omega, rfl, by simp, by rw [ht]⟩
  · obtain rfl : i = m.rows.length := by omega
    rw [List.take_of_length_le (Nat.le_refl _)]
    simp only [J_law14_own_j1, wk,if_true,if_false,forall_const,implies_true,ne_eq,eq_self,Nat.reduceEqDiff,Nat.reduceAdd,Nat.reduceMul,Nat.reduceSub,Nat.reduceLeDiff,Nat.reduceLT,Int.reduceEq,Int.reduceLT,Int.reduceLE,Int.reduceAdd,Int.reduceSub,Int.reduceMul,Int.reduceNeg,Int.reduceNe,reduceCtorEq,Int.reduceToNat,↓reduceIte]
    simp only [val, ev, lk, wk,if_true,if_false,forall_const,implies_true,ne_eq,eq_self,Nat.reduceEqDiff,Nat.reduceAdd,Nat.reduceMul,Nat.reduceSub,Nat.reduceLeDiff,Nat.reduceLT,Int.reduceEq,Int.reduceLT,Int.reduceLE,Int.reduceAdd,Int.reduceSub,Int.reduceMul,Int.reduceNeg,Int.reduceNe,reduceCtorEq,Int.reduceToNat,↓reduceIte]
set_option maxRecDepth 100000 in
set_option maxHeartbeats 4000000 in
theorem p_rmWord (m : Mdl) (w : ByteArray) (hm : smallMd m) (hw : w.size ≤ 1000) : PCalls Try.prog 11 [mdV m, .str w] (mWordV m w) := by
  refine pcalls_of (by simp [free.frees, free, free_mdV]) (free_mWordV _ _) (acalls_of mixed J_ref14_Word_ok (Nat.le_of_ble_eq_true rfl) ?_); simp only [J_ref14_Word, mdV, wk,if_true,if_false,forall_const,implies_true,ne_eq,eq_self,Nat.reduceEqDiff,Nat.reduceAdd,Nat.reduceMul,Nat.reduceSub,Nat.reduceLeDiff,Nat.reduceLT,Int.reduceEq,Int.reduceLT,Int.reduceLE,Int.reduceAdd,Int.reduceSub,Int.reduceMul,Int.reduceNeg,Int.reduceNe,reduceCtorEq,Int.reduceToNat,↓reduceIte]
  have qm := p_may14 m hm.1 hm.2
  have qw := p_rwmay w (by omega)
  simp only [mdV] at qm
  refine PCalls.use (qm) ?_; simp only [wk,if_true,if_false,forall_const,implies_true,ne_eq,eq_self,Nat.reduceEqDiff,Nat.reduceAdd,Nat.reduceMul,Nat.reduceSub,Nat.reduceLeDiff,Nat.reduceLT,Int.reduceEq,Int.reduceLT,Int.reduceLE,Int.reduceAdd,Int.reduceSub,Int.reduceMul,Int.reduceNeg,Int.reduceNe,reduceCtorEq,Int.reduceToNat,↓reduceIte]
  cases hmm : mdMay m with
  | false => (try simp only [hmm, wk,if_true,if_false,forall_const,implies_true,ne_eq,eq_self,Nat.reduceEqDiff,Nat.reduceAdd,Nat.reduceMul,Nat.reduceSub,Nat.reduceLeDiff,Nat.reduceLT,Int.reduceEq,Int.reduceLT,Int.reduceLE,Int.reduceAdd,Int.reduceSub,Int.reduceMul,Int.reduceNeg,Int.reduceNe,reduceCtorEq,Int.reduceToNat,↓reduceIte]); simp [mWordV, hmm]
  | true =>
    try simp only [hmm, wk,if_true,if_false,forall_const,implies_true,ne_eq,eq_self,Nat.reduceEqDiff,Nat.reduceAdd,Nat.reduceMul,Nat.reduceSub,Nat.reduceLeDiff,Nat.reduceLT,Int.reduceEq,Int.reduceLT,Int.reduceLE,Int.reduceAdd,Int.reduceSub,Int.reduceMul,Int.reduceNeg,Int.reduceNe,reduceCtorEq,Int.reduceToNat,↓reduceIte]
    refine PCalls.use (qw) ?_; simp only [wk,if_true,if_false,forall_const,implies_true,ne_eq,eq_self,Nat.reduceEqDiff,Nat.reduceAdd,Nat.reduceMul,Nat.reduceSub,Nat.reduceLeDiff,Nat.reduceLT,Int.reduceEq,Int.reduceLT,Int.reduceLE,Int.reduceAdd,Int.reduceSub,Int.reduceMul,Int.reduceNeg,Int.reduceNe,reduceCtorEq,Int.reduceToNat,↓reduceIte]
    cases hww : wordMay w with
    | false => (try simp only [hww, wk,if_true,if_false,forall_const,implies_true,ne_eq,eq_self,Nat.reduceEqDiff,Nat.reduceAdd,Nat.reduceMul,Nat.reduceSub,Nat.reduceLeDiff,Nat.reduceLT,Int.reduceEq,Int.reduceLT,Int.reduceLE,Int.reduceAdd,Int.reduceSub,Int.reduceMul,Int.reduceNeg,Int.reduceNe,reduceCtorEq,Int.reduceToNat,↓reduceIte]); simp [mWordV, hmm, hww]
    | true =>
      try simp only [hww, wk,if_true,if_false,forall_const,implies_true,ne_eq,eq_self,Nat.reduceEqDiff,Nat.reduceAdd,Nat.reduceMul,Nat.reduceSub,Nat.reduceLeDiff,Nat.reduceLT,Int.reduceEq,Int.reduceLT,Int.reduceLE,Int.reduceAdd,Int.reduceSub,Int.reduceMul,Int.reduceNeg,Int.reduceNe,reduceCtorEq,Int.reduceToNat,↓reduceIte]
      have hn := mdMay_n hmm
      have hnn : ((m.n.toNat : Nat) : Int) = m.n := by omega
      have qd := p_of14 m w hmm hm.1 hww hw
      have qt := p_bytes14 (wordR m.rows w) m.n.toNat (wordR_length _ _) (by omega)
      simp only [mdV, hnn] at qd qt
      refine ⟨_, qd, ?_⟩; try simp only [wk,if_true,if_false,forall_const,implies_true,ne_eq,eq_self,Nat.reduceEqDiff,Nat.reduceAdd,Nat.reduceMul,Nat.reduceSub,Nat.reduceLeDiff,Nat.reduceLT,Int.reduceEq,Int.reduceLT,Int.reduceLE,Int.reduceAdd,Int.reduceSub,Int.reduceMul,Int.reduceNeg,Int.reduceNe,reduceCtorEq,Int.reduceToNat,↓reduceIte]
      refine ⟨_, qt, ?_⟩; try simp only [wk,if_true,if_false,forall_const,implies_true,ne_eq,eq_self,Nat.reduceEqDiff,Nat.reduceAdd,Nat.reduceMul,Nat.reduceSub,Nat.reduceLeDiff,Nat.reduceLT,Int.reduceEq,Int.reduceLT,Int.reduceLE,Int.reduceAdd,Int.reduceSub,Int.reduceMul,Int.reduceNeg,Int.reduceNe,reduceCtorEq,Int.reduceToNat,↓reduceIte]
      simp [mWordV, hmm, hww, toldV]
set_option maxRecDepth 100000 in
set_option maxHeartbeats 4000000 in
theorem p_rmSet (m : Mdl) (s : List ByteArray) (hm : smallMd m) (hn : s.length ≤ 1000) (hs : ∀ w ∈ s, w.size ≤ 1000) : PCalls Try.prog 13 [mdV m, .lst .ro s.length (s.map .str)] (mSetV m s) := by
  refine pcalls_of (by simp [free.frees, free, free_mdV, frees_strs]) (free_mSetV _ _) (acalls_of mixed J_ref14_Set_ok (Nat.le_of_ble_eq_true rfl) ?_); simp only [J_ref14_Set, mdV, wk,if_true,if_false,forall_const,implies_true,ne_eq,eq_self,Nat.reduceEqDiff,Nat.reduceAdd,Nat.reduceMul,Nat.reduceSub,Nat.reduceLeDiff,Nat.reduceLT,Int.reduceEq,Int.reduceLT,Int.reduceLE,Int.reduceAdd,Int.reduceSub,Int.reduceMul,Int.reduceNeg,Int.reduceNe,reduceCtorEq,Int.reduceToNat,↓reduceIte]
  have qm := p_may14 m hm.1 hm.2
  have qw := p_rsmay s (by omega) (fun x hx => by have := hs x hx; omega)
  simp only [mdV] at qm
  refine PCalls.use (qm) ?_; simp only [wk,if_true,if_false,forall_const,implies_true,ne_eq,eq_self,Nat.reduceEqDiff,Nat.reduceAdd,Nat.reduceMul,Nat.reduceSub,Nat.reduceLeDiff,Nat.reduceLT,Int.reduceEq,Int.reduceLT,Int.reduceLE,Int.reduceAdd,Int.reduceSub,Int.reduceMul,Int.reduceNeg,Int.reduceNe,reduceCtorEq,Int.reduceToNat,↓reduceIte]
  cases hmm : mdMay m with
  | false => (try simp only [hmm, wk,if_true,if_false,forall_const,implies_true,ne_eq,eq_self,Nat.reduceEqDiff,Nat.reduceAdd,Nat.reduceMul,Nat.reduceSub,Nat.reduceLeDiff,Nat.reduceLT,Int.reduceEq,Int.reduceLT,Int.reduceLE,Int.reduceAdd,Int.reduceSub,Int.reduceMul,Int.reduceNeg,Int.reduceNe,reduceCtorEq,Int.reduceToNat,↓reduceIte]); simp [mSetV, hmm]
  | true =>
    try simp only [hmm, wk,if_true,if_false,forall_const,implies_true,ne_eq,eq_self,Nat.reduceEqDiff,Nat.reduceAdd,Nat.reduceMul,Nat.reduceSub,Nat.reduceLeDiff,Nat.reduceLT,Int.reduceEq,Int.reduceLT,Int.reduceLE,Int.reduceAdd,Int.reduceSub,Int.reduceMul,Int.reduceNeg,Int.reduceNe,reduceCtorEq,Int.reduceToNat,↓reduceIte]
    refine PCalls.use (qw) ?_; simp only [wk,if_true,if_false,forall_const,implies_true,ne_eq,eq_self,Nat.reduceEqDiff,Nat.reduceAdd,Nat.reduceMul,Nat.reduceSub,Nat.reduceLeDiff,Nat.reduceLT,Int.reduceEq,Int.reduceLT,Int.reduceLE,Int.reduceAdd,Int.reduceSub,Int.reduceMul,Int.reduceNeg,Int.reduceNe,reduceCtorEq,Int.reduceToNat,↓reduceIte]
    cases hww : setMay s with
    | false => (try simp only [hww, wk,if_true,if_false,forall_const,implies_true,ne_eq,eq_self,Nat.reduceEqDiff,Nat.reduceAdd,Nat.reduceMul,Nat.reduceSub,Nat.reduceLeDiff,Nat.reduceLT,Int.reduceEq,Int.reduceLT,Int.reduceLE,Int.reduceAdd,Int.reduceSub,Int.reduceMul,Int.reduceNeg,Int.reduceNe,reduceCtorEq,Int.reduceToNat,↓reduceIte]); simp [mSetV, hmm, hww]
    | true =>
      try simp only [hww, wk,if_true,if_false,forall_const,implies_true,ne_eq,eq_self,Nat.reduceEqDiff,Nat.reduceAdd,Nat.reduceMul,Nat.reduceSub,Nat.reduceLeDiff,Nat.reduceLT,Int.reduceEq,Int.reduceLT,Int.reduceLE,Int.reduceAdd,Int.reduceSub,Int.reduceMul,Int.reduceNeg,Int.reduceNe,reduceCtorEq,Int.reduceToNat,↓reduceIte]
      have hn1 := mdMay_n hmm
      have hnn : ((m.n.toNat : Nat) : Int) = m.n := by omega
      have qd := p_all14 m s hmm hm.1 hn (fun w hx => ⟨(setMay_words hww).2 w hx, hs w hx⟩)
      have qt := p_bytes14 (setN m.rows s) m.n.toNat (setN_length _ _) (by omega)
      simp only [mdV, hnn] at qd qt
      refine ⟨_, qd, ?_⟩; try simp only [wk,if_true,if_false,forall_const,implies_true,ne_eq,eq_self,Nat.reduceEqDiff,Nat.reduceAdd,Nat.reduceMul,Nat.reduceSub,Nat.reduceLeDiff,Nat.reduceLT,Int.reduceEq,Int.reduceLT,Int.reduceLE,Int.reduceAdd,Int.reduceSub,Int.reduceMul,Int.reduceNeg,Int.reduceNe,reduceCtorEq,Int.reduceToNat,↓reduceIte]
      refine ⟨_, qt, ?_⟩; try simp only [wk,if_true,if_false,forall_const,implies_true,ne_eq,eq_self,Nat.reduceEqDiff,Nat.reduceAdd,Nat.reduceMul,Nat.reduceSub,Nat.reduceLeDiff,Nat.reduceLT,Int.reduceEq,Int.reduceLT,Int.reduceLE,Int.reduceAdd,Int.reduceSub,Int.reduceMul,Int.reduceNeg,Int.reduceNe,reduceCtorEq,Int.reduceToNat,↓reduceIte]
      simp [mSetV, hmm, hww, toldV]
set_option maxRecDepth 100000 in
set_option maxHeartbeats 4000000 in
theorem p_rmHolds (m : Mdl) (a b : ByteArray) (hm : smallMd m) (ha : a.size ≤ 1000) (hb : b.size ≤ 1000) : PCalls Try.prog 15 [mdV m, .agg [.str a, .str b]] (tupB (mdMay m && (wordMay a && wordMay b)) (withinR (wordR m.rows a) (wordR m.rows b))) := by
  refine pcalls_of (by simp [free.frees, free, free_mdV]) (free_tupB _ _) (acalls_of mixed J_ref14_Holds_ok (Nat.le_of_ble_eq_true rfl) ?_); simp only [J_ref14_Holds, mdV, wk,if_true,if_false,forall_const,implies_true,ne_eq,eq_self,Nat.reduceEqDiff,Nat.reduceAdd,Nat.reduceMul,Nat.reduceSub,Nat.reduceLeDiff,Nat.reduceLT,Int.reduceEq,Int.reduceLT,Int.reduceLE,Int.reduceAdd,Int.reduceSub,Int.reduceMul,Int.reduceNeg,Int.reduceNe,reduceCtorEq,Int.reduceToNat,↓reduceIte]
  have qm := p_may14 m hm.1 hm.2
  have qa := p_rwmay a (by omega)
  have qb := p_rwmay b (by omega)
  simp only [mdV] at qm
  refine PCalls.use (qm) ?_; simp only [wk,if_true,if_false,forall_const,implies_true,ne_eq,eq_self,Nat.reduceEqDiff,Nat.reduceAdd,Nat.reduceMul,Nat.reduceSub,Nat.reduceLeDiff,Nat.reduceLT,Int.reduceEq,Int.reduceLT,Int.reduceLE,Int.reduceAdd,Int.reduceSub,Int.reduceMul,Int.reduceNeg,Int.reduceNe,reduceCtorEq,Int.reduceToNat,↓reduceIte]
  cases hmm : mdMay m with
  | false => (try simp only [hmm, wk,if_true,if_false,forall_const,implies_true,ne_eq,eq_self,Nat.reduceEqDiff,Nat.reduceAdd,Nat.reduceMul,Nat.reduceSub,Nat.reduceLeDiff,Nat.reduceLT,Int.reduceEq,Int.reduceLT,Int.reduceLE,Int.reduceAdd,Int.reduceSub,Int.reduceMul,Int.reduceNeg,Int.reduceNe,reduceCtorEq,Int.reduceToNat,↓reduceIte]); simp [tupB, hmm]
  | true =>
    try simp only [hmm, wk,if_true,if_false,forall_const,implies_true,ne_eq,eq_self,Nat.reduceEqDiff,Nat.reduceAdd,Nat.reduceMul,Nat.reduceSub,Nat.reduceLeDiff,Nat.reduceLT,Int.reduceEq,Int.reduceLT,Int.reduceLE,Int.reduceAdd,Int.reduceSub,Int.reduceMul,Int.reduceNeg,Int.reduceNe,reduceCtorEq,Int.reduceToNat,↓reduceIte]
    refine PCalls.use (qa) ?_; simp only [wk,if_true,if_false,forall_const,implies_true,ne_eq,eq_self,Nat.reduceEqDiff,Nat.reduceAdd,Nat.reduceMul,Nat.reduceSub,Nat.reduceLeDiff,Nat.reduceLT,Int.reduceEq,Int.reduceLT,Int.reduceLE,Int.reduceAdd,Int.reduceSub,Int.reduceMul,Int.reduceNeg,Int.reduceNe,reduceCtorEq,Int.reduceToNat,↓reduceIte]
    cases haa : wordMay a with
    | false => (try simp only [haa, wk,if_true,if_false,forall_const,implies_true,ne_eq,eq_self,Nat.reduceEqDiff,Nat.reduceAdd,Nat.reduceMul,Nat.reduceSub,Nat.reduceLeDiff,Nat.reduceLT,Int.reduceEq,Int.reduceLT,Int.reduceLE,Int.reduceAdd,Int.reduceSub,Int.reduceMul,Int.reduceNeg,Int.reduceNe,reduceCtorEq,Int.reduceToNat,↓reduceIte]); simp [tupB, hmm, haa]
    | true =>
      try simp only [haa, wk,if_true,if_false,forall_const,implies_true,ne_eq,eq_self,Nat.reduceEqDiff,Nat.reduceAdd,Nat.reduceMul,Nat.reduceSub,Nat.reduceLeDiff,Nat.reduceLT,Int.reduceEq,Int.reduceLT,Int.reduceLE,Int.reduceAdd,Int.reduceSub,Int.reduceMul,Int.reduceNeg,Int.reduceNe,reduceCtorEq,Int.reduceToNat,↓reduceIte]
      refine PCalls.use (qb) ?_; simp only [wk,if_true,if_false,forall_const,implies_true,ne_eq,eq_self,Nat.reduceEqDiff,Nat.reduceAdd,Nat.reduceMul,Nat.reduceSub,Nat.reduceLeDiff,Nat.reduceLT,Int.reduceEq,Int.reduceLT,Int.reduceLE,Int.reduceAdd,Int.reduceSub,Int.reduceMul,Int.reduceNeg,Int.reduceNe,reduceCtorEq,Int.reduceToNat,↓reduceIte]
      cases hbb : wordMay b with
      | false => (try simp only [hbb, wk,if_true,if_false,forall_const,implies_true,ne_eq,eq_self,Nat.reduceEqDiff,Nat.reduceAdd,Nat.reduceMul,Nat.reduceSub,Nat.reduceLeDiff,Nat.reduceLT,Int.reduceEq,Int.reduceLT,Int.reduceLE,Int.reduceAdd,Int.reduceSub,Int.reduceMul,Int.reduceNeg,Int.reduceNe,reduceCtorEq,Int.reduceToNat,↓reduceIte]); simp [tupB, hmm, haa, hbb]
      | true =>
        try simp only [hbb, wk,if_true,if_false,forall_const,implies_true,ne_eq,eq_self,Nat.reduceEqDiff,Nat.reduceAdd,Nat.reduceMul,Nat.reduceSub,Nat.reduceLeDiff,Nat.reduceLT,Int.reduceEq,Int.reduceLT,Int.reduceLE,Int.reduceAdd,Int.reduceSub,Int.reduceMul,Int.reduceNeg,Int.reduceNe,reduceCtorEq,Int.reduceToNat,↓reduceIte]
        have qd := p_of14 m a hmm hm.1 haa ha
        have qe := p_of14 m b hmm hm.1 hbb hb
        have qt := p_within14 (wordR m.rows a) (wordR m.rows b)
        simp only [mdV] at qd qe
        refine ⟨_, qd, ?_⟩; try simp only [wk,if_true,if_false,forall_const,implies_true,ne_eq,eq_self,Nat.reduceEqDiff,Nat.reduceAdd,Nat.reduceMul,Nat.reduceSub,Nat.reduceLeDiff,Nat.reduceLT,Int.reduceEq,Int.reduceLT,Int.reduceLE,Int.reduceAdd,Int.reduceSub,Int.reduceMul,Int.reduceNeg,Int.reduceNe,reduceCtorEq,Int.reduceToNat,↓reduceIte]
        refine ⟨_, qe, ?_⟩; try simp only [wk,if_true,if_false,forall_const,implies_true,ne_eq,eq_self,Nat.reduceEqDiff,Nat.reduceAdd,Nat.reduceMul,Nat.reduceSub,Nat.reduceLeDiff,Nat.reduceLT,Int.reduceEq,Int.reduceLT,Int.reduceLE,Int.reduceAdd,Int.reduceSub,Int.reduceMul,Int.reduceNeg,Int.reduceNe,reduceCtorEq,Int.reduceToNat,↓reduceIte]
        refine ⟨_, qt, ?_⟩; try simp only [wk,if_true,if_false,forall_const,implies_true,ne_eq,eq_self,Nat.reduceEqDiff,Nat.reduceAdd,Nat.reduceMul,Nat.reduceSub,Nat.reduceLeDiff,Nat.reduceLT,Int.reduceEq,Int.reduceLT,Int.reduceLE,Int.reduceAdd,Int.reduceSub,Int.reduceMul,Int.reduceNeg,Int.reduceNe,reduceCtorEq,Int.reduceToNat,↓reduceIte]
        simp [tupB, hmm, haa, hbb]
set_option maxRecDepth 100000 in
set_option maxHeartbeats 4000000 in
theorem p_rmSpeaks (m : Mdl) (a b : List ByteArray) (hm : smallMd m) (ha : a.length ≤ 1000 ∧ ∀ w ∈ a, w.size ≤ 1000) (hb : b.length ≤ 1000 ∧ ∀ w ∈ b, w.size ≤ 1000) : PCalls Try.prog 17 [mdV m, .lst .ro a.length (a.map .str), .lst .ro b.length (b.map .str)] (tupB (mdMay m && (setMay a && setMay b)) (withinR (setN m.rows b) (setN m.rows a))) := by
  refine pcalls_of (by simp [free.frees, free, free_mdV, frees_strs]) (free_tupB _ _) (acalls_of mixed J_ref14_Speaks_ok (Nat.le_of_ble_eq_true rfl) ?_); simp only [J_ref14_Speaks, mdV, wk,if_true,if_false,forall_const,implies_true,ne_eq,eq_self,Nat.reduceEqDiff,Nat.reduceAdd,Nat.reduceMul,Nat.reduceSub,Nat.reduceLeDiff,Nat.reduceLT,Int.reduceEq,Int.reduceLT,Int.reduceLE,Int.reduceAdd,Int.reduceSub,Int.reduceMul,Int.reduceNeg,Int.reduceNe,reduceCtorEq,Int.reduceToNat,↓reduceIte]
  have qm := p_may14 m hm.1 hm.2
  have qa := p_rsmay a (by omega) (fun x hx => by have := ha.2 x hx; omega)
  have qb := p_rsmay b (by omega) (fun x hx => by have := hb.2 x hx; omega)
  simp only [mdV] at qm
  refine PCalls.use (qm) ?_; simp only [wk,if_true,if_false,forall_const,implies_true,ne_eq,eq_self,Nat.reduceEqDiff,Nat.reduceAdd,Nat.reduceMul,Nat.reduceSub,Nat.reduceLeDiff,Nat.reduceLT,Int.reduceEq,Int.reduceLT,Int.reduceLE,Int.reduceAdd,Int.reduceSub,Int.reduceMul,Int.reduceNeg,Int.reduceNe,reduceCtorEq,Int.reduceToNat,↓reduceIte]
  cases hmm : mdMay m with
  | false => (try simp only [hmm, wk,if_true,if_false,forall_const,implies_true,ne_eq,eq_self,Nat.reduceEqDiff,Nat.reduceAdd,Nat.reduceMul,Nat.reduceSub,Nat.reduceLeDiff,Nat.reduceLT,Int.reduceEq,Int.reduceLT,Int.reduceLE,Int.reduceAdd,Int.reduceSub,Int.reduceMul,Int.reduceNeg,Int.reduceNe,reduceCtorEq,Int.reduceToNat,↓reduceIte]); simp [tupB, hmm]
  | true =>
    try simp only [hmm, wk,if_true,if_false,forall_const,implies_true,ne_eq,eq_self,Nat.reduceEqDiff,Nat.reduceAdd,Nat.reduceMul,Nat.reduceSub,Nat.reduceLeDiff,Nat.reduceLT,Int.reduceEq,Int.reduceLT,Int.reduceLE,Int.reduceAdd,Int.reduceSub,Int.reduceMul,Int.reduceNeg,Int.reduceNe,reduceCtorEq,Int.reduceToNat,↓reduceIte]
    refine PCalls.use (qa) ?_; simp only [wk,if_true,if_false,forall_const,implies_true,ne_eq,eq_self,Nat.reduceEqDiff,Nat.reduceAdd,Nat.reduceMul,Nat.reduceSub,Nat.reduceLeDiff,Nat.reduceLT,Int.reduceEq,Int.reduceLT,Int.reduceLE,Int.reduceAdd,Int.reduceSub,Int.reduceMul,Int.reduceNeg,Int.reduceNe,reduceCtorEq,Int.reduceToNat,↓reduceIte]
    cases haa : setMay a with
    | false => (try simp only [haa, wk,if_true,if_false,forall_const,implies_true,ne_eq,eq_self,Nat.reduceEqDiff,Nat.reduceAdd,Nat.reduceMul,Nat.reduceSub,Nat.reduceLeDiff,Nat.reduceLT,Int.reduceEq,Int.reduceLT,Int.reduceLE,Int.reduceAdd,Int.reduceSub,Int.reduceMul,Int.reduceNeg,Int.reduceNe,reduceCtorEq,Int.reduceToNat,↓reduceIte]); simp [tupB, hmm, haa]
    | true =>
      try simp only [haa, wk,if_true,if_false,forall_const,implies_true,ne_eq,eq_self,Nat.reduceEqDiff,Nat.reduceAdd,Nat.reduceMul,Nat.reduceSub,Nat.reduceLeDiff,Nat.reduceLT,Int.reduceEq,Int.reduceLT,Int.reduceLE,Int.reduceAdd,Int.reduceSub,Int.reduceMul,Int.reduceNeg,Int.reduceNe,reduceCtorEq,Int.reduceToNat,↓reduceIte]
      refine PCalls.use (qb) ?_; simp only [wk,if_true,if_false,forall_const,implies_true,ne_eq,eq_self,Nat.reduceEqDiff,Nat.reduceAdd,Nat.reduceMul,Nat.reduceSub,Nat.reduceLeDiff,Nat.reduceLT,Int.reduceEq,Int.reduceLT,Int.reduceLE,Int.reduceAdd,Int.reduceSub,Int.reduceMul,Int.reduceNeg,Int.reduceNe,reduceCtorEq,Int.reduceToNat,↓reduceIte]
      cases hbb : setMay b with
      | false => (try simp only [hbb, wk,if_true,if_false,forall_const,implies_true,ne_eq,eq_self,Nat.reduceEqDiff,Nat.reduceAdd,Nat.reduceMul,Nat.reduceSub,Nat.reduceLeDiff,Nat.reduceLT,Int.reduceEq,Int.reduceLT,Int.reduceLE,Int.reduceAdd,Int.reduceSub,Int.reduceMul,Int.reduceNeg,Int.reduceNe,reduceCtorEq,Int.reduceToNat,↓reduceIte]); simp [tupB, hmm, haa, hbb]
      | true =>
        try simp only [hbb, wk,if_true,if_false,forall_const,implies_true,ne_eq,eq_self,Nat.reduceEqDiff,Nat.reduceAdd,Nat.reduceMul,Nat.reduceSub,Nat.reduceLeDiff,Nat.reduceLT,Int.reduceEq,Int.reduceLT,Int.reduceLE,Int.reduceAdd,Int.reduceSub,Int.reduceMul,Int.reduceNeg,Int.reduceNe,reduceCtorEq,Int.reduceToNat,↓reduceIte]
        have qd := p_all14 m a hmm hm.1 ha.1 (fun w hx => ⟨(setMay_words haa).2 w hx, ha.2 w hx⟩)
        have qe := p_all14 m b hmm hm.1 hb.1 (fun w hx => ⟨(setMay_words hbb).2 w hx, hb.2 w hx⟩)
        have qt := p_within14 (setN m.rows b) (setN m.rows a)
        simp only [mdV] at qd qe
        refine ⟨_, qe, ?_⟩; try simp only [wk,if_true,if_false,forall_const,implies_true,ne_eq,eq_self,Nat.reduceEqDiff,Nat.reduceAdd,Nat.reduceMul,Nat.reduceSub,Nat.reduceLeDiff,Nat.reduceLT,Int.reduceEq,Int.reduceLT,Int.reduceLE,Int.reduceAdd,Int.reduceSub,Int.reduceMul,Int.reduceNeg,Int.reduceNe,reduceCtorEq,Int.reduceToNat,↓reduceIte]
        refine ⟨_, qd, ?_⟩; try simp only [wk,if_true,if_false,forall_const,implies_true,ne_eq,eq_self,Nat.reduceEqDiff,Nat.reduceAdd,Nat.reduceMul,Nat.reduceSub,Nat.reduceLeDiff,Nat.reduceLT,Int.reduceEq,Int.reduceLT,Int.reduceLE,Int.reduceAdd,Int.reduceSub,Int.reduceMul,Int.reduceNeg,Int.reduceNe,reduceCtorEq,Int.reduceToNat,↓reduceIte]
        refine ⟨_, qt, ?_⟩; try simp only [wk,if_true,if_false,forall_const,implies_true,ne_eq,eq_self,Nat.reduceEqDiff,Nat.reduceAdd,Nat.reduceMul,Nat.reduceSub,Nat.reduceLeDiff,Nat.reduceLT,Int.reduceEq,Int.reduceLT,Int.reduceLE,Int.reduceAdd,Int.reduceSub,Int.reduceMul,Int.reduceNeg,Int.reduceNe,reduceCtorEq,Int.reduceToNat,↓reduceIte]
        simp [tupB, hmm, haa, hbb]
end Go.Proofs.Ytlfnepcglnjogaa

/- What the program tells as new bytes, that may be written into (ModelTells). -/
-- fast
namespace Go.Proofs.Ytlfnepcglnjogaa
set_option linter.unusedSimpArgs false
set_option linter.unusedVariables false
open Go.RowKit Go.Lib

def toldO (m : Mdl) (r : Rl) (k : Nat) : List AV := rlC (r.take m.n.toNat) ++ zrow [.int .u8 0] 1 k
theorem free_toldO (m : Mdl) (r : Rl) (k : Nat) : free.frees (toldO m r k) = true := by
  have hz : ∀ l : List Nat, free.frees (l.map fun j => ([AV.int .u8 0] : List AV).getD (j % 1) .nilp) = true := by
    intro l; induction l with
    | nil => rfl
    | cons a l ih => simp only [List.map_cons, free.frees, ih, Bool.and_true]; rw [Nat.mod_one]; rfl
  have happ : ∀ a b : List AV, free.frees a = true → free.frees b = true → free.frees (a ++ b) = true := by
    intro a b ha hb
    induction a with
    | nil => exact hb
    | cons x a ih =>
      simp only [free.frees, Bool.and_eq_true] at ha
      simp only [List.cons_append, free.frees, Bool.and_eq_true]
      exact ⟨ha.1, ih ha.2⟩
  exact happ _ _ (frees_rlC _) (hz _)
theorem plains_toldO (m : Mdl) (r : Rl) (k : Nat) : plains (toldO m r k) := by
  intro u hu
  simp only [toldO, List.mem_append] at hu
  rcases hu with hu | hu
  · obtain ⟨b, _, rfl⟩ := List.mem_map.1 hu; rfl
  · obtain ⟨j, _, rfl⟩ := List.mem_map.1 hu; rw [Nat.mod_one]; rfl
theorem shs_ints {n : Nat} : ∀ {l : List AV}, (∀ u ∈ l, ∃ k i, u = .int k i) → shs n l = l
  | [], _ => by simp only [shs]
  | a :: l, h => by
    obtain ⟨k, i, rfl⟩ := h a (by simp)
    simp only [shs, sh]; rw [shs_ints fun u hu => h u (by simp [hu])]
theorem ints_toldO (m : Mdl) (r : Rl) (k : Nat) : ∀ u ∈ toldO m r k, ∃ k i, u = .int k i := by
  intro u hu
  simp only [toldO, List.mem_append] at hu
  rcases hu with hu | hu
  · obtain ⟨b, _, rfl⟩ := List.mem_map.1 hu; exact ⟨_, _, rfl⟩
  · obtain ⟨j, _, rfl⟩ := List.mem_map.1 hu; rw [Nat.mod_one]; exact ⟨_, _, rfl⟩
def ToldP (m : Mdl) (r : Rl) (h : Hp) (a : AV) (h' : Hp) : Prop := ∃ k, a = .hsc h.length m.n.toNat (m.n.toNat + k) ∧ h' = h ++ [some (false, toldO m r k)]
set_option maxRecDepth 100000 in
theorem a_told (m : Mdl) (r : Rl) (hr : r.length = 8) (h0 : 1 ≤ m.n) (h8 : m.n ≤ 8) (h : Hp) : ACalls Try.prog 25 [mdV m, rlV r] h (ToldP m r h) := by
  have hc : ACalls Try.prog 25 [mdV m, rlV r] [] (ToldP m r []) := by
    refine ACalls.one ?_
    refine acalls_of mixed J_model_told_ok (Nat.le_of_ble_eq_true rfl) ?_; simp only [J_model_told, mdV, rlV, wk,if_true,if_false,forall_const,implies_true,ne_eq,eq_self,Nat.reduceEqDiff,Nat.reduceAdd,Nat.reduceMul,Nat.reduceSub,Nat.reduceLeDiff,Nat.reduceLT,Int.reduceEq,Int.reduceLT,Int.reduceLE,Int.reduceAdd,Int.reduceSub,Int.reduceMul,Int.reduceNeg,Int.reduceNe,reduceCtorEq,Int.reduceToNat,↓reduceIte]
    have hin : (0 ≤ m.n ∧ m.n ≤ ((8 : Nat) : Int)) = True := by simp; omega
    simp only [slaF, hin, wk,if_true,if_false,forall_const,implies_true,ne_eq,eq_self,Nat.reduceEqDiff,Nat.reduceAdd,Nat.reduceMul,Nat.reduceSub,Nat.reduceLeDiff,Nat.reduceLT,Int.reduceEq,Int.reduceLT,Int.reduceLE,Int.reduceAdd,Int.reduceSub,Int.reduceMul,Int.reduceNeg,Int.reduceNe,reduceCtorEq,Int.reduceToNat,↓reduceIte]
    have hle : (m.n.toNat ≤ (rlC r).length) = True := by simp [len_rlC]; omega
    simp only [hle, wk,if_true,if_false,forall_const,implies_true,ne_eq,eq_self,Nat.reduceEqDiff,Nat.reduceAdd,Nat.reduceMul,Nat.reduceSub,Nat.reduceLeDiff,Nat.reduceLT,Int.reduceEq,Int.reduceLT,Int.reduceLE,Int.reduceAdd,Int.reduceSub,Int.reduceMul,Int.reduceNeg,Int.reduceNe,reduceCtorEq,Int.reduceToNat,↓reduceIte]
    rw [← rlC_take, deg_rlC]
    have hln : (rlC (r.take m.n.toNat)).length = m.n.toNat := by rw [len_rlC, List.length_take]; omega
    refine ⟨⟨hln, by omega, by omega⟩, fun e => by omega, fun _ k => ⟨2, toldO m r k, by simp [toldO], by simp [only], free_toldO m r k, plains_toldO m r k, k, by simp [rn], rfl⟩⟩
  refine (ACalls.shift (by simp [free.frees, free_mdV, free_rlV]) hc h).mono ?_
  rintro a h' ⟨a0, h1, ⟨k, rfl, rfl⟩, rfl, rfl⟩
  exact ⟨k, by simp [sh], by simp [shH, shs_ints (ints_toldO m r k)]⟩
def WordP (m : Mdl) (ok : Bool) (r : Rl) (h : Hp) (a : AV) (h' : Hp) : Prop := (ok = false ∧ a = .tup [.lst .clip 0 [], .int .i64 2] ∧ h' = h) ∨ (ok = true ∧ ∃ k, a = .tup [.hsc h.length m.n.toNat (m.n.toNat + k), .int .i64 0] ∧ h' = h ++ [some (false, toldO m r k)])
set_option maxRecDepth 100000 in
set_option maxHeartbeats 4000000 in
theorem a_mWord (m : Mdl) (w : ByteArray) (hm : smallMd m) (hw : w.size ≤ 1000) (h : Hp) : ACalls Try.prog 10 [mdV m, .str w] h (WordP m (mdMay m && wordMay w) (wordR m.rows w) h) := by
  cases hok : mdMay m && wordMay w with
  | false =>
    have q := p_mWord m w hm hw
    simp only [mWordV, hok] at q
    exact (q.acalls h).mono fun a h' hq => by obtain ⟨rfl, rfl⟩ := hq; exact .inl ⟨rfl, rfl, rfl⟩
  | true =>
    have hc : ACalls Try.prog 10 [mdV m, .str w] [] (WordP m true (wordR m.rows w) []) := by
      refine ACalls.one ?_
      refine acalls_of mixed J_model_Word_ok (Nat.le_of_ble_eq_true rfl) ?_; simp only [J_model_Word, mdV, wk,if_true,if_false,forall_const,implies_true,ne_eq,eq_self,Nat.reduceEqDiff,Nat.reduceAdd,Nat.reduceMul,Nat.reduceSub,Nat.reduceLeDiff,Nat.reduceLT,Int.reduceEq,Int.reduceLT,Int.reduceLE,Int.reduceAdd,Int.reduceSub,Int.reduceMul,Int.reduceNeg,Int.reduceNe,reduceCtorEq,Int.reduceToNat,↓reduceIte]
      have qm := p_mmay m hm.1 hm.2
      have qw := p_wmay w (by omega)
      have qr := p_mread m hm.1 hm.2
      simp only [mdV] at qm qr
      simp only [Bool.and_eq_true] at hok
      rw [hok.1] at qm
      rw [hok.2] at qw
      refine PCalls.use (qm) ?_; simp only [wk,if_true,if_false,forall_const,implies_true,ne_eq,eq_self,Nat.reduceEqDiff,Nat.reduceAdd,Nat.reduceMul,Nat.reduceSub,Nat.reduceLeDiff,Nat.reduceLT,Int.reduceEq,Int.reduceLT,Int.reduceLE,Int.reduceAdd,Int.reduceSub,Int.reduceMul,Int.reduceNeg,Int.reduceNe,reduceCtorEq,Int.reduceToNat,↓reduceIte]
      refine PCalls.use (qw) ?_; simp only [wk,if_true,if_false,forall_const,implies_true,ne_eq,eq_self,Nat.reduceEqDiff,Nat.reduceAdd,Nat.reduceMul,Nat.reduceSub,Nat.reduceLeDiff,Nat.reduceLT,Int.reduceEq,Int.reduceLT,Int.reduceLE,Int.reduceAdd,Int.reduceSub,Int.reduceMul,Int.reduceNeg,Int.reduceNe,reduceCtorEq,Int.reduceToNat,↓reduceIte]
      have hn := mdMay_n hok.1
      have qd := p_mword m.rows w hok.2 hw
      have qt := fun h => a_told m (wordR m.rows w) (wordR_length _ _) hn.1 hn.2 h
      simp only [mpV, mdV] at qd qt
      refine ⟨_, qr, ?_⟩; simp only [wk,if_true,if_false,forall_const,implies_true,ne_eq,eq_self,Nat.reduceEqDiff,Nat.reduceAdd,Nat.reduceMul,Nat.reduceSub,Nat.reduceLeDiff,Nat.reduceLT,Int.reduceEq,Int.reduceLT,Int.reduceLE,Int.reduceAdd,Int.reduceSub,Int.reduceMul,Int.reduceNeg,Int.reduceNe,reduceCtorEq,Int.reduceToNat,↓reduceIte]
      refine ⟨_, qd, ?_⟩; try simp only [wk,if_true,if_false,forall_const,implies_true,ne_eq,eq_self,Nat.reduceEqDiff,Nat.reduceAdd,Nat.reduceMul,Nat.reduceSub,Nat.reduceLeDiff,Nat.reduceLT,Int.reduceEq,Int.reduceLT,Int.reduceLE,Int.reduceAdd,Int.reduceSub,Int.reduceMul,Int.reduceNeg,Int.reduceNe,reduceCtorEq,Int.reduceToNat,↓reduceIte]
      refine ACalls.use (qt _) ?_
      rintro a h' ⟨k, rfl, rfl⟩
      simp only [wk,if_true,if_false,forall_const,implies_true,ne_eq,eq_self,Nat.reduceEqDiff,Nat.reduceAdd,Nat.reduceMul,Nat.reduceSub,Nat.reduceLeDiff,Nat.reduceLT,Int.reduceEq,Int.reduceLT,Int.reduceLE,Int.reduceAdd,Int.reduceSub,Int.reduceMul,Int.reduceNeg,Int.reduceNe,reduceCtorEq,Int.reduceToNat,↓reduceIte]
      exact ⟨1, toldO m (wordR m.rows w) k, by simp, by simp [only, only.onlys], free_toldO m _ k, plains_toldO m _ k, .inr ⟨rfl, k, by simp [rn, rns], rfl⟩⟩
    refine (ACalls.shift (by simp [free.frees, free, free_mdV]) hc h).mono ?_
    rintro a h' ⟨a0, h1, ⟨hf, _⟩ | ⟨_, k, rfl, rfl⟩, rfl, rfl⟩
    · cases hf
    · exact .inr ⟨rfl, k, by simp [sh, shs], by simp [shH, shs_ints (ints_toldO m _ k)]⟩
set_option maxRecDepth 100000 in
set_option maxHeartbeats 4000000 in
theorem a_mSet (m : Mdl) (s : List ByteArray) (hm : smallMd m) (hn : s.length ≤ 1000) (hs : ∀ w ∈ s, w.size ≤ 1000) (h : Hp) : ACalls Try.prog 12 [mdV m, .lst .ro s.length (s.map .str)] h (WordP m (mdMay m && setMay s) (setN m.rows s) h) := by
  cases hok : mdMay m && setMay s with
  | false =>
    have q := p_mSet m s hm hn hs
    simp only [mSetV, hok] at q
    exact (q.acalls h).mono fun a h' hq => by obtain ⟨rfl, rfl⟩ := hq; exact .inl ⟨rfl, rfl, rfl⟩
  | true =>
    have hc : ACalls Try.prog 12 [mdV m, .lst .ro s.length (s.map .str)] [] (WordP m true (setN m.rows s) []) := by
      refine ACalls.one ?_
      refine acalls_of mixed J_model_Set_ok (Nat.le_of_ble_eq_true rfl) ?_; simp only [J_model_Set, mdV, wk,if_true,if_false,forall_const,implies_true,ne_eq,eq_self,Nat.reduceEqDiff,Nat.reduceAdd,Nat.reduceMul,Nat.reduceSub,Nat.reduceLeDiff,Nat.reduceLT,Int.reduceEq,Int.reduceLT,Int.reduceLE,Int.reduceAdd,Int.reduceSub,Int.reduceMul,Int.reduceNeg,Int.reduceNe,reduceCtorEq,Int.reduceToNat,↓reduceIte]
      have qm := p_mmay m hm.1 hm.2
      have qw := p_smay s (by omega) (fun x hx => by have := hs x hx; omega)
      have qr := p_mread m hm.1 hm.2
      simp only [mdV] at qm qr
      simp only [Bool.and_eq_true] at hok
      rw [hok.1] at qm
      rw [hok.2] at qw
      refine PCalls.use (qm) ?_; simp only [wk,if_true,if_false,forall_const,implies_true,ne_eq,eq_self,Nat.reduceEqDiff,Nat.reduceAdd,Nat.reduceMul,Nat.reduceSub,Nat.reduceLeDiff,Nat.reduceLT,Int.reduceEq,Int.reduceLT,Int.reduceLE,Int.reduceAdd,Int.reduceSub,Int.reduceMul,Int.reduceNeg,Int.reduceNe,reduceCtorEq,Int.reduceToNat,↓reduceIte]
      refine PCalls.use (qw) ?_; simp only [wk,if_true,if_false,forall_const,implies_true,ne_eq,eq_self,Nat.reduceEqDiff,Nat.reduceAdd,Nat.reduceMul,Nat.reduceSub,Nat.reduceLeDiff,Nat.reduceLT,Int.reduceEq,Int.reduceLT,Int.reduceLE,Int.reduceAdd,Int.reduceSub,Int.reduceMul,Int.reduceNeg,Int.reduceNe,reduceCtorEq,Int.reduceToNat,↓reduceIte]
      have hn1 := mdMay_n hok.1
      have qd := p_mset m.rows s hn (fun w hx => ⟨(setMay_words hok.2).2 w hx, hs w hx⟩)
      have qt := fun h => a_told m (setN m.rows s) (setN_length _ _) hn1.1 hn1.2 h
      simp only [mpV, mdV] at qd qt
      refine ⟨_, qr, ?_⟩; simp only [wk,if_true,if_false,forall_const,implies_true,ne_eq,eq_self,Nat.reduceEqDiff,Nat.reduceAdd,Nat.reduceMul,Nat.reduceSub,Nat.reduceLeDiff,Nat.reduceLT,Int.reduceEq,Int.reduceLT,Int.reduceLE,Int.reduceAdd,Int.reduceSub,Int.reduceMul,Int.reduceNeg,Int.reduceNe,reduceCtorEq,Int.reduceToNat,↓reduceIte]
      refine ⟨_, qd, ?_⟩; try simp only [wk,if_true,if_false,forall_const,implies_true,ne_eq,eq_self,Nat.reduceEqDiff,Nat.reduceAdd,Nat.reduceMul,Nat.reduceSub,Nat.reduceLeDiff,Nat.reduceLT,Int.reduceEq,Int.reduceLT,Int.reduceLE,Int.reduceAdd,Int.reduceSub,Int.reduceMul,Int.reduceNeg,Int.reduceNe,reduceCtorEq,Int.reduceToNat,↓reduceIte]
      refine ACalls.use (qt _) ?_
      rintro a h' ⟨k, rfl, rfl⟩
      simp only [wk,if_true,if_false,forall_const,implies_true,ne_eq,eq_self,Nat.reduceEqDiff,Nat.reduceAdd,Nat.reduceMul,Nat.reduceSub,Nat.reduceLeDiff,Nat.reduceLT,Int.reduceEq,Int.reduceLT,Int.reduceLE,Int.reduceAdd,Int.reduceSub,Int.reduceMul,Int.reduceNeg,Int.reduceNe,reduceCtorEq,Int.reduceToNat,↓reduceIte]
      exact ⟨1, toldO m (setN m.rows s) k, by simp, by simp [only, only.onlys], free_toldO m _ k, plains_toldO m _ k, .inr ⟨rfl, k, by simp [rn, rns], rfl⟩⟩
    refine (ACalls.shift (by simp [free.frees, free, free_mdV, frees_strs]) hc h).mono ?_
    rintro a h' ⟨a0, h1, ⟨hf, _⟩ | ⟨_, k, rfl, rfl⟩, rfl, rfl⟩
    · cases hf
    · exact .inr ⟨rfl, k, by simp [sh, shs], by simp [shH, shs_ints (ints_toldO m _ k)]⟩
end Go.Proofs.Ytlfnepcglnjogaa

/- ModelTells, over the abstract code. -/
-- fast
namespace Go.Proofs.Ytlfnepcglnjogaa
set_option linter.unusedSimpArgs false
set_option linter.unusedVariables false
open Go.RowKit Go.Lib

theorem toldO_len (m : Mdl) (r : Rl) (k : Nat) (hr : r.length = 8) (h8 : m.n ≤ 8) : (toldO m r k).length = m.n.toNat + k := by
  simp only [toldO, List.length_append, len_rlC, List.length_take, zrow, List.length_map, List.length_range]; omega
theorem u8_toldO (m : Mdl) (r : Rl) (k : Nat) : ∀ u ∈ toldO m r k, ∃ z, u = .int .u8 z := by
  intro u hu
  simp only [toldO, List.mem_append] at hu
  rcases hu with hu | hu
  · obtain ⟨b, _, rfl⟩ := List.mem_map.1 hu; exact ⟨_, rfl⟩
  · obtain ⟨j, _, rfl⟩ := List.mem_map.1 hu; rw [Nat.mod_one]; exact ⟨_, rfl⟩
theorem toldO_take (m : Mdl) (r : Rl) (k : Nat) (hr : r.length = 8) (h8 : m.n ≤ 8) : (toldO m r k).take m.n.toNat = (r.take m.n.toNat).map (fun b => AV.int .u8 b.toNat) := by
  have : (rlC (r.take m.n.toNat)).length = m.n.toNat := by rw [len_rlC, List.length_take]; omega
  simp only [toldO]
  rw [List.take_append_of_le_length (by omega), List.take_of_length_le (by omega)]; rfl
set_option maxRecDepth 100000 in
set_option maxHeartbeats 8000000 in
theorem tells_j3 (m : Mdl) (a b : List ByteArray) (x y : ByteArray) (hm : smallMd m) (ha : a.length ≤ 30 ∧ ∀ w ∈ a, w.size ≤ 100) (hb : b.length ≤ 30 ∧ ∀ w ∈ b, w.size ≤ 100) (hx : x.size ≤ 100) (hy : y.size ≤ 100) (h : Hp)
    (g0 : h[0]? = some (some (false, [.int .i64 m.n, .lst .ro m.rows.length (rowsC m.rows)]))) (g1 : h[1]? = some (some (false, [.str x, .str y]))) (g2 : h[2]? = some (some (true, [.int .i64 m.n, .lst .ro m.rows.length (rowsC m.rows)]))) :
    W Try.prog J_law14_ModelTells_j3 [(1, .lst .ro a.length (a.map .str)), (2, .lst .ro b.length (b.map .str)), (4, .ptr 0 0), (7, .ptr 1 0), (9, .ptr 2 0)] h (kret [.t 8] fun a _ => a = .bool true) := by
  have hrl := hm.1
  have q1 := p_mHolds m x y hm (by omega) (by omega)
  have q2 := p_rmHolds m x y hm (by omega) (by omega)
  have ha' : a.length ≤ 1000 ∧ ∀ w ∈ a, w.size ≤ 1000 := ⟨by omega, fun w hw => by have := ha.2 w hw; omega⟩
  have hb' : b.length ≤ 1000 ∧ ∀ w ∈ b, w.size ≤ 1000 := ⟨by omega, fun w hw => by have := hb.2 w hw; omega⟩
  have q3 := p_mSpeaks m a b hm ha' hb'
  have q4 := p_rmSpeaks m a b hm ha' hb'
  simp only [mdV] at q1 q2 q3 q4
  have ht : ∀ p q : Bool, ∃ c e, tupB p q = .tup [.bool c, .int .i64 e] := fun p q => by
    cases p <;> cases q <;> exact ⟨_, _, rfl⟩
  obtain ⟨c1, e1, r1⟩ := ht (mdMay m && (wordMay x && wordMay y)) (withinR (wordR m.rows x) (wordR m.rows y))
  obtain ⟨c2, e2, r2⟩ := ht (mdMay m && (setMay a && setMay b)) (withinR (setN m.rows b) (setN m.rows a))
  rw [r1] at q1 q2
  rw [r2] at q3 q4
  simp only [J_law14_ModelTells_j3, g0, g1, g2, wk,if_true,if_false,forall_const,implies_true,ne_eq,eq_self,Nat.reduceEqDiff,Nat.reduceAdd,Nat.reduceMul,Nat.reduceSub,Nat.reduceLeDiff,Nat.reduceLT,Int.reduceEq,Int.reduceLT,Int.reduceLE,Int.reduceAdd,Int.reduceSub,Int.reduceMul,Int.reduceNeg,Int.reduceNe,reduceCtorEq,Int.reduceToNat,↓reduceIte]
  refine PCalls.use q1 ?_; simp only [g0, g1, g2, wk,if_true,if_false,forall_const,implies_true,ne_eq,eq_self,Nat.reduceEqDiff,Nat.reduceAdd,Nat.reduceMul,Nat.reduceSub,Nat.reduceLeDiff,Nat.reduceLT,Int.reduceEq,Int.reduceLT,Int.reduceLE,Int.reduceAdd,Int.reduceSub,Int.reduceMul,Int.reduceNeg,Int.reduceNe,reduceCtorEq,Int.reduceToNat,↓reduceIte]
  refine PCalls.use q2 ?_; simp only [g0, g1, g2, wk,if_true,if_false,forall_const,implies_true,ne_eq,eq_self,Nat.reduceEqDiff,Nat.reduceAdd,Nat.reduceMul,Nat.reduceSub,Nat.reduceLeDiff,Nat.reduceLT,Int.reduceEq,Int.reduceLT,Int.reduceLE,Int.reduceAdd,Int.reduceSub,Int.reduceMul,Int.reduceNeg,Int.reduceNe,reduceCtorEq,Int.reduceToNat,↓reduceIte]
  refine PCalls.use q3 ?_; simp only [g0, g1, g2, wk,if_true,if_false,forall_const,implies_true,ne_eq,eq_self,Nat.reduceEqDiff,Nat.reduceAdd,Nat.reduceMul,Nat.reduceSub,Nat.reduceLeDiff,Nat.reduceLT,Int.reduceEq,Int.reduceLT,Int.reduceLE,Int.reduceAdd,Int.reduceSub,Int.reduceMul,Int.reduceNeg,Int.reduceNe,reduceCtorEq,Int.reduceToNat,↓reduceIte]
  refine PCalls.use q4 ?_; simp only [g0, g1, g2, wk,if_true,if_false,forall_const,implies_true,ne_eq,eq_self,Nat.reduceEqDiff,Nat.reduceAdd,Nat.reduceMul,Nat.reduceSub,Nat.reduceLeDiff,Nat.reduceLT,Int.reduceEq,Int.reduceLT,Int.reduceLE,Int.reduceAdd,Int.reduceSub,Int.reduceMul,Int.reduceNeg,Int.reduceNe,reduceCtorEq,Int.reduceToNat,↓reduceIte]
  refine W_loop (fun n fr h' => ∃ i : Nat, i ≤ m.rows.length ∧ n = m.rows.length - i ∧ fr = [(4, .ptr 0 0), (9, .ptr 2 0), (150, .int .i64 m.rows.length), (151, .int .i64 i)] ∧ h' = h) m.rows.length ⟨0, by omega, by omega, rfl, rfl⟩ ?_
  rintro n fr h' ⟨i, hi, rfl, rfl, rfl⟩
  simp only [J_law14_ModelTells_j2, wk,if_true,if_false,forall_const,implies_true,ne_eq,eq_self,Nat.reduceEqDiff,Nat.reduceAdd,Nat.reduceMul,Nat.reduceSub,Nat.reduceLeDiff,Nat.reduceLT,Int.reduceEq,Int.reduceLT,Int.reduceLE,Int.reduceAdd,Int.reduceSub,Int.reduceMul,Int.reduceNeg,Int.reduceNe,reduceCtorEq,Int.reduceToNat,↓reduceIte]
  refine ⟨fun hlt => ?_, fun hge => ?_⟩
  · have hil : i < m.rows.length := by omega
    have hin : ((0 ≤ (i : Int)) ∧ (i : Int) < (m.rows.length : Int)) = True := by simp; omega
    have hd := rowsC_at hil
    simp only [rowC, kA, List.cons_append, List.nil_append] at hd
    simp only [g0, g2, hin, Int.toNat_natCast, hd, wk,if_true,if_false,forall_const,implies_true,ne_eq,eq_self,Nat.reduceEqDiff,Nat.reduceAdd,Nat.reduceMul,Nat.reduceSub,Nat.reduceLeDiff,Nat.reduceLT,Int.reduceEq,Int.reduceLT,Int.reduceLE,Int.reduceAdd,Int.reduceSub,Int.reduceMul,Int.reduceNeg,Int.reduceNe,reduceCtorEq,Int.reduceToNat,↓reduceIte]
    exact ⟨m.rows[i].to, rfl, rfl, m.rows[i].to, rfl, rfl, fun hne => absurd rfl hne, fun _ => ⟨inR_of (by omega) (by omega), m.rows.length - (i + 1), by omega, i + 1, by omega, rfl, by simp⟩⟩
  · obtain rfl : i = m.rows.length := by omega
    simp only [J_law14_ModelTells_j1, wk,if_true,if_false,forall_const,implies_true,ne_eq,eq_self,Nat.reduceEqDiff,Nat.reduceAdd,Nat.reduceMul,Nat.reduceSub,Nat.reduceLeDiff,Nat.reduceLT,Int.reduceEq,Int.reduceLT,Int.reduceLE,Int.reduceAdd,Int.reduceSub,Int.reduceMul,Int.reduceNeg,Int.reduceNe,reduceCtorEq,Int.reduceToNat,↓reduceIte]
def BytesAt (h : Hp) (v : AV) (n : Nat) : Prop := n = 0 ∨ ∃ id c cells, v = .hsc id n c ∧ 3 ≤ id ∧ h[id]? = some (some (false, cells)) ∧ n ≤ cells.length ∧ ∀ u ∈ cells, ∃ z, u = .int .u8 z
set_option maxRecDepth 100000 in
set_option maxHeartbeats 8000000 in
theorem tells_loop (m : Mdl) (a b : List ByteArray) (x y : ByteArray) (hm : smallMd m) (ha : a.length ≤ 30 ∧ ∀ w ∈ a, w.size ≤ 100) (hb : b.length ≤ 30 ∧ ∀ w ∈ b, w.size ≤ 100) (hx : x.size ≤ 100) (hy : y.size ≤ 100) (h : Hp) (n : Nat) (hn : n ≤ 8) (v : AV) (hv : BytesAt h v n)
    (g0 : h[0]? = some (some (false, [.int .i64 m.n, .lst .ro m.rows.length (rowsC m.rows)]))) (g1 : h[1]? = some (some (false, [.str x, .str y]))) (g2 : h[2]? = some (some (true, [.int .i64 m.n, .lst .ro m.rows.length (rowsC m.rows)]))) :
    W Try.prog (.loop [1, 2, 4, 7, 9, 10, 86, 87] J_law14_ModelTells_j4) [(1, .lst .ro a.length (a.map .str)), (2, .lst .ro b.length (b.map .str)), (4, .ptr 0 0), (7, .ptr 1 0), (9, .ptr 2 0), (10, v), (86, .int .i64 n), (87, .int .i64 0)] h (kblock 0 (kseq Try.prog J_law14_ModelTells_j3 (kret [.t 8] fun a _ => a = .bool true))) := by
  refine W_loop (fun q fr h' => ∃ i : Nat, i ≤ n ∧ q = n - i ∧ fr = [(1, .lst .ro a.length (a.map .str)), (2, .lst .ro b.length (b.map .str)), (4, .ptr 0 0), (7, .ptr 1 0), (9, .ptr 2 0), (10, v), (86, .int .i64 n), (87, .int .i64 i)] ∧ BytesAt h' v n ∧ h'[0]? = some (some (false, [.int .i64 m.n, .lst .ro m.rows.length (rowsC m.rows)])) ∧ h'[1]? = some (some (false, [.str x, .str y])) ∧ h'[2]? = some (some (true, [.int .i64 m.n, .lst .ro m.rows.length (rowsC m.rows)]))) n ⟨0, by omega, by omega, rfl, hv, g0, g1, g2⟩ ?_
  rintro q fr h' ⟨i, hi, rfl, rfl, hv, g0, g1, g2⟩
  simp only [J_law14_ModelTells_j4, wk,if_true,if_false,forall_const,implies_true,ne_eq,eq_self,Nat.reduceEqDiff,Nat.reduceAdd,Nat.reduceMul,Nat.reduceSub,Nat.reduceLeDiff,Nat.reduceLT,Int.reduceEq,Int.reduceLT,Int.reduceLE,Int.reduceAdd,Int.reduceSub,Int.reduceMul,Int.reduceNeg,Int.reduceNe,reduceCtorEq,Int.reduceToNat,↓reduceIte]
  refine ⟨fun hlt => ?_, fun hge => ?_⟩
  · have hil : i < n := by omega
    rcases hv with rfl | ⟨id, c, cells, rfl, h3, ho, hc, hu⟩
    · omega
    have hin : ((0 ≤ (i : Int)) ∧ (i : Int) < (n : Int)) = True := by simp; omega
    have hlc : i < cells.length := by omega
    obtain ⟨z, hz⟩ := hu cells[i] (List.getElem_mem hlc)
    have hd : cells.drop i = .int .u8 z :: cells.drop (i + 1) := by rw [List.drop_eq_getElem_cons hlc, hz]
    simp only [hin, ho, Int.toNat_natCast, hd, wk,if_true,if_false,forall_const,implies_true,ne_eq,eq_self,Nat.reduceEqDiff,Nat.reduceAdd,Nat.reduceMul,Nat.reduceSub,Nat.reduceLeDiff,Nat.reduceLT,Int.reduceEq,Int.reduceLT,Int.reduceLE,Int.reduceAdd,Int.reduceSub,Int.reduceMul,Int.reduceNeg,Int.reduceNe,reduceCtorEq,Int.reduceToNat,↓reduceIte]
    have hidl : id < h'.length := by
      rcases Nat.lt_or_ge id h'.length with hh | hh
      · exact hh
      · rw [List.getElem?_eq_none hh] at ho; cases ho
    have hu' : ∀ w : Int, ∀ u ∈ cells.set i (.int .u8 w), ∃ z, u = .int .u8 z := fun w u hmem => by
      rcases List.mem_or_eq_of_mem_set hmem with h1 | rfl
      · exact hu u h1
      · exact ⟨w, rfl⟩
    refine ⟨by omega, inR_of (by omega) (by omega), n - (i + 1), by omega, i + 1, by omega, rfl, by simp, .inr ⟨id, c, _, rfl, h3, List.getElem?_set_self hidl, by simpa using hc, hu' _⟩, ?_, ?_, ?_⟩
    · rw [List.getElem?_set_ne (by omega)]; exact g0
    · rw [List.getElem?_set_ne (by omega)]; exact g1
    · rw [List.getElem?_set_ne (by omega)]; exact g2
  · obtain rfl : i = n := by omega
    exact tells_j3 m a b x y hm ha hb hx hy h' g0 g1 g2
set_option maxRecDepth 100000 in
set_option maxHeartbeats 8000000 in
theorem a14_tells (m : Mdl) (a b : List ByteArray) (x y : ByteArray) (hat : ∀ x ∈ m.rows, x.atom < 65536) : ACalls Try.prog 3 [mdV m, .lst .ro a.length (a.map .str), .lst .ro b.length (b.map .str), .agg [.str x, .str y]] [] (fun a _ => a = .bool true) := by
  refine acalls_of mixed J_law14_ModelTells_ok (Nat.le_of_ble_eq_true rfl) ?_; simp only [J_law14_ModelTells, mdV, wk,if_true,if_false,forall_const,implies_true,ne_eq,eq_self,Nat.reduceEqDiff,Nat.reduceAdd,Nat.reduceMul,Nat.reduceSub,Nat.reduceLeDiff,Nat.reduceLT,Int.reduceEq,Int.reduceLT,Int.reduceLE,Int.reduceAdd,Int.reduceSub,Int.reduceMul,Int.reduceNeg,Int.reduceNe,reduceCtorEq,Int.reduceToNat,↓reduceIte]
  refine PCalls.use (p14_awake) ?_; simp only [wk,if_true,if_false,forall_const,implies_true,ne_eq,eq_self,Nat.reduceEqDiff,Nat.reduceAdd,Nat.reduceMul,Nat.reduceSub,Nat.reduceLeDiff,Nat.reduceLT,Int.reduceEq,Int.reduceLT,Int.reduceLE,Int.reduceAdd,Int.reduceSub,Int.reduceMul,Int.reduceNeg,Int.reduceNe,reduceCtorEq,Int.reduceToNat,↓reduceIte]
  have ql := p14_large m [a, b, [x, y]] (by simp)
  simp only [mdV, setsC, List.map_cons, List.map_nil, List.length_cons, List.length_nil] at ql
  refine PCalls.use (ql) ?_; simp only [wk,if_true,if_false,forall_const,implies_true,ne_eq,eq_self,Nat.reduceEqDiff,Nat.reduceAdd,Nat.reduceMul,Nat.reduceSub,Nat.reduceLeDiff,Nat.reduceLT,Int.reduceEq,Int.reduceLT,Int.reduceLE,Int.reduceAdd,Int.reduceSub,Int.reduceMul,Int.reduceNeg,Int.reduceNe,reduceCtorEq,Int.reduceToNat,↓reduceIte]
  cases hlg : largeM m [a, b, [x, y]] with
  | true => try simp only [wk,if_true,if_false,forall_const,implies_true,ne_eq,eq_self,Nat.reduceEqDiff,Nat.reduceAdd,Nat.reduceMul,Nat.reduceSub,Nat.reduceLeDiff,Nat.reduceLT,Int.reduceEq,Int.reduceLT,Int.reduceLE,Int.reduceAdd,Int.reduceSub,Int.reduceMul,Int.reduceNeg,Int.reduceNe,reduceCtorEq,Int.reduceToNat,↓reduceIte]
  | false =>
    try simp only [wk,if_true,if_false,forall_const,implies_true,ne_eq,eq_self,Nat.reduceEqDiff,Nat.reduceAdd,Nat.reduceMul,Nat.reduceSub,Nat.reduceLeDiff,Nat.reduceLT,Int.reduceEq,Int.reduceLT,Int.reduceLE,Int.reduceAdd,Int.reduceSub,Int.reduceMul,Int.reduceNeg,Int.reduceNe,reduceCtorEq,Int.reduceToNat,↓reduceIte]
    obtain ⟨hm, hsz⟩ := not_large hlg hat
    have ha := hsz a (by simp)
    have hb := hsz b (by simp)
    have hxy := hsz [x, y] (by simp)
    have hx : x.size ≤ 100 := hxy.2 x (by simp)
    have hy : y.size ≤ 100 := hxy.2 y (by simp)
    have qo := p_own14 m hm
    have qm := p_mmay m hm.1 hm.2
    have qn := p_may14 m hm.1 hm.2
    have qw := fun h => a_mWord m x hm (by omega) h
    have qw2 := p_rmWord m x hm (by omega)
    have qs := fun h => a_mSet m a hm (by omega) (fun w hw => by have := ha.2 w hw; omega) h
    have qs2 := p_rmSet m a hm (by omega) (fun w hw => by have := ha.2 w hw; omega)
    simp only [mdV] at qo qm qn qw qw2 qs qs2
    refine PCalls.use (qo) ?_; simp only [wk,if_true,if_false,forall_const,implies_true,ne_eq,eq_self,Nat.reduceEqDiff,Nat.reduceAdd,Nat.reduceMul,Nat.reduceSub,Nat.reduceLeDiff,Nat.reduceLT,Int.reduceEq,Int.reduceLT,Int.reduceLE,Int.reduceAdd,Int.reduceSub,Int.reduceMul,Int.reduceNeg,Int.reduceNe,reduceCtorEq,Int.reduceToNat,↓reduceIte]
    refine ⟨_, qm, ?_⟩; try simp only [wk,if_true,if_false,forall_const,implies_true,ne_eq,eq_self,Nat.reduceEqDiff,Nat.reduceAdd,Nat.reduceMul,Nat.reduceSub,Nat.reduceLeDiff,Nat.reduceLT,Int.reduceEq,Int.reduceLT,Int.reduceLE,Int.reduceAdd,Int.reduceSub,Int.reduceMul,Int.reduceNeg,Int.reduceNe,reduceCtorEq,Int.reduceToNat,↓reduceIte]
    refine ⟨_, qn, ?_⟩; try simp only [wk,if_true,if_false,forall_const,implies_true,ne_eq,eq_self,Nat.reduceEqDiff,Nat.reduceAdd,Nat.reduceMul,Nat.reduceSub,Nat.reduceLeDiff,Nat.reduceLT,Int.reduceEq,Int.reduceLT,Int.reduceLE,Int.reduceAdd,Int.reduceSub,Int.reduceMul,Int.reduceNeg,Int.reduceNe,reduceCtorEq,Int.reduceToNat,↓reduceIte]
    have h8 : mdMay m = true → m.n ≤ 8 := fun h => (mdMay_n h).2
    have hlx : (wordR m.rows x).length = 8 := wordR_length _ _
    have hla : (setN m.rows a).length = 8 := setN_length _ _
    refine ACalls.use (qw _) ?_
    rintro v h' (⟨h1, rfl, rfl⟩ | ⟨h1, k, rfl, rfl⟩)
    · simp only [mWordV, h1, Bool.false_eq_true, if_false] at qw2
      try simp only [wk,if_true,if_false,forall_const,implies_true,ne_eq,eq_self,Nat.reduceEqDiff,Nat.reduceAdd,Nat.reduceMul,Nat.reduceSub,Nat.reduceLeDiff,Nat.reduceLT,Int.reduceEq,Int.reduceLT,Int.reduceLE,Int.reduceAdd,Int.reduceSub,Int.reduceMul,Int.reduceNeg,Int.reduceNe,reduceCtorEq,Int.reduceToNat,↓reduceIte]
      refine PCalls.use (qw2) ?_; simp only [wk,if_true,if_false,forall_const,implies_true,ne_eq,eq_self,Nat.reduceEqDiff,Nat.reduceAdd,Nat.reduceMul,Nat.reduceSub,Nat.reduceLeDiff,Nat.reduceLT,Int.reduceEq,Int.reduceLT,Int.reduceLE,Int.reduceAdd,Int.reduceSub,Int.reduceMul,Int.reduceNeg,Int.reduceNe,reduceCtorEq,Int.reduceToNat,↓reduceIte]
      refine ⟨[], rfl, rfl, [], rfl, rfl, ?_⟩
      try simp only [wk,if_true,if_false,forall_const,implies_true,ne_eq,eq_self,Nat.reduceEqDiff,Nat.reduceAdd,Nat.reduceMul,Nat.reduceSub,Nat.reduceLeDiff,Nat.reduceLT,Int.reduceEq,Int.reduceLT,Int.reduceLE,Int.reduceAdd,Int.reduceSub,Int.reduceMul,Int.reduceNeg,Int.reduceNe,reduceCtorEq,Int.reduceToNat,↓reduceIte]
      refine ACalls.use (qs _) ?_
      rintro v h' (⟨h2, rfl, rfl⟩ | ⟨h2, k2, rfl, rfl⟩)
      · simp only [mSetV, h2, Bool.false_eq_true, if_false] at qs2
        try simp only [wk,if_true,if_false,forall_const,implies_true,ne_eq,eq_self,Nat.reduceEqDiff,Nat.reduceAdd,Nat.reduceMul,Nat.reduceSub,Nat.reduceLeDiff,Nat.reduceLT,Int.reduceEq,Int.reduceLT,Int.reduceLE,Int.reduceAdd,Int.reduceSub,Int.reduceMul,Int.reduceNeg,Int.reduceNe,reduceCtorEq,Int.reduceToNat,↓reduceIte]
        refine PCalls.use (qs2) ?_; simp only [wk,if_true,if_false,forall_const,implies_true,ne_eq,eq_self,Nat.reduceEqDiff,Nat.reduceAdd,Nat.reduceMul,Nat.reduceSub,Nat.reduceLeDiff,Nat.reduceLT,Int.reduceEq,Int.reduceLT,Int.reduceLE,Int.reduceAdd,Int.reduceSub,Int.reduceMul,Int.reduceNeg,Int.reduceNe,reduceCtorEq,Int.reduceToNat,↓reduceIte]
        refine ⟨[], rfl, rfl, [], rfl, rfl, ?_⟩
        try simp only [wk,if_true,if_false,forall_const,implies_true,ne_eq,eq_self,Nat.reduceEqDiff,Nat.reduceAdd,Nat.reduceMul,Nat.reduceSub,Nat.reduceLeDiff,Nat.reduceLT,Int.reduceEq,Int.reduceLT,Int.reduceLE,Int.reduceAdd,Int.reduceSub,Int.reduceMul,Int.reduceNeg,Int.reduceNe,reduceCtorEq,Int.reduceToNat,↓reduceIte]
        exact tells_loop m a b x y hm ha hb hx hy _ 0 (by omega) _ (.inl rfl) rfl rfl rfl
      · simp only [mSetV, h2, if_true, toldV] at qs2
        simp only [Bool.and_eq_true] at h2
        have hn8 := h8 h2.1
        have hle : (m.n.toNat ≤ (toldO m (setN m.rows a) k2).length) = True := by simp [toldO_len m _ k2 hla hn8]
        have htk := toldO_take m _ k2 hla hn8
        try simp only [wk,if_true,if_false,forall_const,implies_true,ne_eq,eq_self,Nat.reduceEqDiff,Nat.reduceAdd,Nat.reduceMul,Nat.reduceSub,Nat.reduceLeDiff,Nat.reduceLT,Int.reduceEq,Int.reduceLT,Int.reduceLE,Int.reduceAdd,Int.reduceSub,Int.reduceMul,Int.reduceNeg,Int.reduceNe,reduceCtorEq,Int.reduceToNat,↓reduceIte]
        refine PCalls.use qs2 ?_; simp only [hle, htk, wk,if_true,if_false,forall_const,implies_true,ne_eq,eq_self,Nat.reduceEqDiff,Nat.reduceAdd,Nat.reduceMul,Nat.reduceSub,Nat.reduceLeDiff,Nat.reduceLT,Int.reduceEq,Int.reduceLT,Int.reduceLE,Int.reduceAdd,Int.reduceSub,Int.reduceMul,Int.reduceNeg,Int.reduceNe,reduceCtorEq,Int.reduceToNat,↓reduceIte]
        refine ⟨_, rfl, by rw [List.length_take]; omega, _, rfl, by rw [List.length_take]; omega, ?_⟩
        try simp only [wk,if_true,if_false,forall_const,implies_true,ne_eq,eq_self,Nat.reduceEqDiff,Nat.reduceAdd,Nat.reduceMul,Nat.reduceSub,Nat.reduceLeDiff,Nat.reduceLT,Int.reduceEq,Int.reduceLT,Int.reduceLE,Int.reduceAdd,Int.reduceSub,Int.reduceMul,Int.reduceNeg,Int.reduceNe,reduceCtorEq,Int.reduceToNat,↓reduceIte]
        exact tells_loop m a b x y hm ha hb hx hy _ _ (by omega) _ (.inr ⟨3, _, _, rfl, by omega, rfl, by rw [toldO_len m _ k2 hla hn8]; omega, u8_toldO m _ k2⟩) rfl rfl rfl
    · simp only [mWordV, h1, if_true, toldV] at qw2
      simp only [Bool.and_eq_true] at h1
      have hn8 := h8 h1.1
      have hle : (m.n.toNat ≤ (toldO m (wordR m.rows x) k).length) = True := by simp [toldO_len m _ k hlx hn8]
      have htk := toldO_take m _ k hlx hn8
      try simp only [wk,if_true,if_false,forall_const,implies_true,ne_eq,eq_self,Nat.reduceEqDiff,Nat.reduceAdd,Nat.reduceMul,Nat.reduceSub,Nat.reduceLeDiff,Nat.reduceLT,Int.reduceEq,Int.reduceLT,Int.reduceLE,Int.reduceAdd,Int.reduceSub,Int.reduceMul,Int.reduceNeg,Int.reduceNe,reduceCtorEq,Int.reduceToNat,↓reduceIte]
      refine PCalls.use qw2 ?_; simp only [hle, htk, wk,if_true,if_false,forall_const,implies_true,ne_eq,eq_self,Nat.reduceEqDiff,Nat.reduceAdd,Nat.reduceMul,Nat.reduceSub,Nat.reduceLeDiff,Nat.reduceLT,Int.reduceEq,Int.reduceLT,Int.reduceLE,Int.reduceAdd,Int.reduceSub,Int.reduceMul,Int.reduceNeg,Int.reduceNe,reduceCtorEq,Int.reduceToNat,↓reduceIte]
      refine ⟨_, rfl, by rw [List.length_take]; omega, _, rfl, by rw [List.length_take]; omega, ?_⟩
      try simp only [wk,if_true,if_false,forall_const,implies_true,ne_eq,eq_self,Nat.reduceEqDiff,Nat.reduceAdd,Nat.reduceMul,Nat.reduceSub,Nat.reduceLeDiff,Nat.reduceLT,Int.reduceEq,Int.reduceLT,Int.reduceLE,Int.reduceAdd,Int.reduceSub,Int.reduceMul,Int.reduceNeg,Int.reduceNe,reduceCtorEq,Int.reduceToNat,↓reduceIte]
      refine ACalls.use (qs _) ?_
      rintro v h' (⟨h2, rfl, rfl⟩ | ⟨h2, k2, rfl, rfl⟩)
      · simp only [mSetV, h2, Bool.false_eq_true, if_false] at qs2
        try simp only [wk,if_true,if_false,forall_const,implies_true,ne_eq,eq_self,Nat.reduceEqDiff,Nat.reduceAdd,Nat.reduceMul,Nat.reduceSub,Nat.reduceLeDiff,Nat.reduceLT,Int.reduceEq,Int.reduceLT,Int.reduceLE,Int.reduceAdd,Int.reduceSub,Int.reduceMul,Int.reduceNeg,Int.reduceNe,reduceCtorEq,Int.reduceToNat,↓reduceIte]
        refine PCalls.use (qs2) ?_; simp only [wk,if_true,if_false,forall_const,implies_true,ne_eq,eq_self,Nat.reduceEqDiff,Nat.reduceAdd,Nat.reduceMul,Nat.reduceSub,Nat.reduceLeDiff,Nat.reduceLT,Int.reduceEq,Int.reduceLT,Int.reduceLE,Int.reduceAdd,Int.reduceSub,Int.reduceMul,Int.reduceNeg,Int.reduceNe,reduceCtorEq,Int.reduceToNat,↓reduceIte]
        refine ⟨[], rfl, rfl, [], rfl, rfl, ?_⟩
        try simp only [wk,if_true,if_false,forall_const,implies_true,ne_eq,eq_self,Nat.reduceEqDiff,Nat.reduceAdd,Nat.reduceMul,Nat.reduceSub,Nat.reduceLeDiff,Nat.reduceLT,Int.reduceEq,Int.reduceLT,Int.reduceLE,Int.reduceAdd,Int.reduceSub,Int.reduceMul,Int.reduceNeg,Int.reduceNe,reduceCtorEq,Int.reduceToNat,↓reduceIte]
        exact tells_loop m a b x y hm ha hb hx hy _ 0 (by omega) _ (.inl rfl) rfl rfl rfl
      · simp only [mSetV, h2, if_true, toldV] at qs2
        simp only [Bool.and_eq_true] at h2
        have hn8 := h8 h2.1
        have hle : (m.n.toNat ≤ (toldO m (setN m.rows a) k2).length) = True := by simp [toldO_len m _ k2 hla hn8]
        have htk := toldO_take m _ k2 hla hn8
        try simp only [wk,if_true,if_false,forall_const,implies_true,ne_eq,eq_self,Nat.reduceEqDiff,Nat.reduceAdd,Nat.reduceMul,Nat.reduceSub,Nat.reduceLeDiff,Nat.reduceLT,Int.reduceEq,Int.reduceLT,Int.reduceLE,Int.reduceAdd,Int.reduceSub,Int.reduceMul,Int.reduceNeg,Int.reduceNe,reduceCtorEq,Int.reduceToNat,↓reduceIte]
        refine PCalls.use qs2 ?_; simp only [hle, htk, wk,if_true,if_false,forall_const,implies_true,ne_eq,eq_self,Nat.reduceEqDiff,Nat.reduceAdd,Nat.reduceMul,Nat.reduceSub,Nat.reduceLeDiff,Nat.reduceLT,Int.reduceEq,Int.reduceLT,Int.reduceLE,Int.reduceAdd,Int.reduceSub,Int.reduceMul,Int.reduceNeg,Int.reduceNe,reduceCtorEq,Int.reduceToNat,↓reduceIte]
        refine ⟨_, rfl, by rw [List.length_take]; omega, _, rfl, by rw [List.length_take]; omega, ?_⟩
        try simp only [wk,if_true,if_false,forall_const,implies_true,ne_eq,eq_self,Nat.reduceEqDiff,Nat.reduceAdd,Nat.reduceMul,Nat.reduceSub,Nat.reduceLeDiff,Nat.reduceLT,Int.reduceEq,Int.reduceLT,Int.reduceLE,Int.reduceAdd,Int.reduceSub,Int.reduceMul,Int.reduceNeg,Int.reduceNe,reduceCtorEq,Int.reduceToNat,↓reduceIte]
        exact tells_loop m a b x y hm ha hb hx hy _ _ (by omega) _ (.inr ⟨4, _, _, rfl, by omega, rfl, by rw [toldO_len m _ k2 hla hn8]; omega, u8_toldO m _ k2⟩) rfl rfl rfl
end Go.Proofs.Ytlfnepcglnjogaa
