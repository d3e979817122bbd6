/- Texts of one proof, laid together: Sk Sl Sn Sw Su Sv Sx Sy Ca Sz Cb Cd Ce Cf Cg Ch Oe Of Og Oj Ok Om Ox Ow Oy Oz. -/
import Derived.Test.YtnmikopkjdekaaaMC5
import Derived.Test.YtnmikopkjdekaaaMC10
import Derived.Test.YtnmikopkjdekaaaMC1
import Derived.Test.YtnmikopkjdekaaaMC15
import Derived.Test.YtnmikopkjdekaaaMC14
import Derived.Maps.OwnSet

/- What set.Of does, by the library's contracts. -/
namespace Go.Proofs.Ytnmikopkjdekaaa
set_option linter.unusedSimpArgs false
set_option linter.unusedVariables false
open Go.RowKit Go.Lib Go.Sort Go.Shelf

set_option maxHeartbeats 400000 in
theorem cmp_any (x y : ByteArray) (w : World) :
    Calls Try.prog 78 #[.string x, .string y] w fun e w' => e = .returned (.int .i64 (cmpW x y)) ∧ ∃ q, w' = w.drewN q := by
  cases h1 : wless x y with
  | true =>
    have H1 := Lib.hid h1
    have e : Hid (cmpW x y = -1) := by show _ = _; unfold cmpW; rw [h1]; rfl
    clear h1
    go_enter Try.func78, Try.ntmps78
    go_wp2_with (go_at_call 58; refine (wless_any _ _ _).mono ?_; rintro e w' ⟨rfl, rfl⟩; rw [H1.out])
    go_ret
    exact ⟨by rw [e.out]; rfl, 0, rfl⟩
  | false =>
    have H1 := Lib.hid h1
    cases h2 : wless y x with
    | true =>
      have H2 := Lib.hid h2
      have e : Hid (cmpW x y = 1) := by show _ = _; unfold cmpW; rw [h1, h2]; rfl
      clear h1 h2
      go_enter Try.func78, Try.ntmps78
      go_wp2_with (go_at_call 58; refine (wless_any _ _ _).mono ?_; rintro e w' ⟨rfl, rfl⟩; first | rw [H1.out] | rw [H2.out])
      go_ret
      exact ⟨by rw [e.out]; rfl, 0, rfl⟩
    | false =>
      have H2 := Lib.hid h2
      have e : Hid (cmpW x y = 0) := by show _ = _; unfold cmpW; rw [h1, h2]; rfl
      clear h1 h2
      go_enter Try.func78, Try.ntmps78
      go_wp2_with (go_at_call 58; refine (wless_any _ _ _).mono ?_; rintro e w' ⟨rfl, rfl⟩; first | rw [H1.out] | rw [H2.out])
      go_ret
      exact ⟨by rw [e.out]; rfl, 0, rfl⟩
theorem holds_row {w : World} {b : Nat} {cur : Array Value} {e : TypeId} {l : List ByteArray} (hb : w.heap[b]? = some (.cells cur e (0, 0))) (ht : cur.toList.take l.length = l.map .string) : Holds Value.string w b 0 l.toArray := by
  intro j hj
  have hj' : j < l.length := by simpa using hj
  refine ⟨?_, by simp [World.frozen?, hb]⟩
  have h1 : (cur.toList.take l.length)[j]? = (l.map Value.string)[j]? := by rw [ht]
  rw [List.getElem?_take_of_lt hj'] at h1
  simp only [World.cell?, hb, Nat.zero_add]
  simp only [Option.isSome_none, Bool.false_eq_true, if_false]
  rw [← Array.getElem?_toList, h1]
  simp [hj']
theorem eql_word (T : TypeId) : EqlAt Try.prog T Value.string (fun x y => decide (x = y)) := ⟨fun x y w => by rw [(EqlAt.string Try.prog T).1 x y w]; simp only [str_iff], (EqlAt.string Try.prog T).2⟩
theorem neq_word (T : TypeId) : NeqAt Try.prog T Value.string (fun x y => decide (x = y)) := ⟨fun x y w => by rw [(NeqAt.string Try.prog T).1 x y w]; simp only [str_iff], (NeqAt.string Try.prog T).2⟩
theorem cmp_lays (blk off size : Nat) (w : World) : CmpLays1 Try.prog 78 #[] Value.string cmpW blk off size w :=
  CmpReads.lays fun _ _ _ _ x y => cmp_any x y _
theorem holds_grow {w : World} {blk off : Nat} {d : Array ByteArray} (os : Array Obj) (hb : blk < w.heap.size) (h : Holds Value.string w blk off d) : Holds Value.string (grow w os) blk off d := by
  have e : (grow w os).heap[blk]? = w.heap[blk]? := by simp only [grow]; rw [Array.getElem?_append_left hb]
  intro j hj
  obtain ⟨h1, h2⟩ := h j hj
  refine ⟨?_, ?_⟩
  · rw [World.cell?_of_block (w := w) e]; exact h1
  · simp only [World.frozen?] at h2 ⊢
    rw [e]; exact h2
theorem below_put {w : World} {B blk off q : Nat} {d : Array ByteArray} (hb : B ≤ blk) : RowKit.Below B w (putRow Value.string (Sort.ahead w q) blk off d) :=
  ⟨rfl, rfl, rfl, by simp [putRow, mapBlock, Sort.ahead], fun k hk => by
    simp only [putRow, mapBlock, Sort.ahead, Array.getElem?_modify]
    rw [if_neg (by omega)]⟩
theorem below_grow {w w' : World} {B : Nat} (os : Array Obj) (hs : B ≤ w.heap.size) (h : RowKit.Below B w w') : RowKit.Below B w (grow w' os) :=
  ⟨h.os, h.tape, h.output, by simp only [grow, Array.size_append]; have := h.size; omega, fun k hk => by
    simp only [grow]
    rw [Array.getElem?_append_left (by have := h.size; omega)]
    exact h.block k hk⟩
set_option maxHeartbeats 400000 in
theorem clip_any (b n c : Nat) (w : World) (hn : 0 < n) (hc : n ≤ c) (hm : n ≤ 9223372036854775807) :
    Calls Try.prog 80 #[.slice (some ⟨b, 0, none⟩) n c] w fun e w' => e = .returned (.slice (some ⟨b, 0, none⟩) n n) ∧ w = w' := by
  go_enter Try.func80, Try.ntmps80
  go_wp2
  go_ret
  exact ⟨rfl, rfl⟩
structure Made (w w' : World) (e : Ending) (r : List ByteArray × Int) : Prop where
  below : Below w.heap.size w w'
  res : (r.2 ≠ 0 ∧ e = .returned (.tuple #[.slice none 0 0, .int .i64 r.2])) ∨ (r.2 = 0 ∧ ∃ b c, w.heap.size ≤ b ∧ e = .returned (.tuple #[.slice (some ⟨b, 0, none⟩) r.1.length c, .int .i64 0]) ∧ r.1.length ≤ c ∧ ∀ i s, r.1[i]? = some s → w'.cell? ⟨b, i, none⟩ = some (.string s))
set_option maxRecDepth 100000 in
set_option maxHeartbeats 2000000 in
theorem sof_any (rb off cap n : Nat) (l : List ByteArray) (w : World) (hl : Hid (l.length = n)) (h0 : 0 < n) (hn : n ≤ 1000000) (hr : Hid (∀ j u, (l.map Value.string)[j]? = some u → w.cell? ⟨rb, off + j, none⟩ = some u)) (hs : Hid (∀ x ∈ l, x.size ≤ 9223372036854775807)) :
    Calls Try.prog 73 #[.slice (some ⟨rb, off, none⟩) n cap] w fun e w' => Made w w' e (ofE l) := by
  go_enter Try.func73, Try.ntmps73
  go_wp2_with fail
  go_loopw [9] (fun t wr => ∃ i : Nat, i ≤ n ∧ t = .int .i64 i ∧ Hid (∀ x ∈ l.take i, wordMay x = true) ∧ Drawn w wr) (fun t _ => n - (intOf t).toNat)
  case atStart => exact ⟨0, by omega, rfl, by intro x hx; simp at hx, 0, rfl⟩
  case round =>
    obtain ⟨i, hi, rfl, hall, q, rfl⟩ := hrel
    by_cases hlt : i < n
    · have hil : i < l.length := by have := hl.out; omega
      have ci : w.cell? ⟨rb, off + i, none⟩ = some (.string l[i]) := hr.out i _ (by simp [hil])
      have hsz := hs.out l[i] (List.getElem_mem hil)
      have hmem := Lib.hid (List.getElem_mem hil)
      have hnext : Hid (wordMay l[i] = true → ∀ x ∈ l.take (i + 1), wordMay x = true) := by
        intro hw x hx
        rw [List.take_succ_eq_append_getElem hil, List.mem_append] at hx
        rcases hx with hx | hx
        · exact hall.out x hx
        · simp at hx; subst hx; exact hw
      generalize l[i] = y at ci hsz hmem hnext
      cases hwy : wordMay y with
      | false =>
        have e : Hid (ofE l = ([], 2)) := by
          show _ = _
          unfold ofE
          rw [if_pos]
          cases hb : l.all wordMay with
          | false => rfl
          | true => rw [List.all_eq_true.1 hb y hmem.out] at hwy; cases hwy
        have HWY := Lib.hid hwy
        clear hwy
        go_wp2_with fail
        refine (wmay_any y _ hsz).mono ?_
        rintro e w' ⟨rfl, m, rfl⟩
        rw [HWY.out]
        go_wp2_with fail
        go_ret2
        rw [e.out]
        exact ⟨⟨rfl, rfl, rfl, Nat.le_refl _, fun _ _ => rfl⟩, .inl ⟨by decide, rfl⟩⟩
      | true =>
        have HWY := Lib.hid hwy
        clear hwy
        go_wp2_with fail
        refine (wmay_any y _ hsz).mono ?_
        rintro e w' ⟨rfl, m, rfl⟩
        rw [HWY.out]
        go_wp2_with fail
        go_roundw
        case rel => exact ⟨i + 1, by omega, by go_num, hnext.out HWY.out, q + m, rfl⟩
        case measure => simp [intOf]; omega
    · have hin : i = n := by omega
      subst hin
      go_wp2_with fail
      obtain ⟨i0, z, hi0, hz, hz1, hz2, hzs, _⟩ := elem_of (P := Try.prog) (e := 27) (sz := 1) (bytes := 16) (by kernel_rfl)
      refine (AnyE.slices_Clone lClone i0 z 1 16 hi0 hz hz1 hz2 hzs (by decide) Try.sizeOf27 rb off i cap (l.map .string) (w.drewN q) (by rw [List.length_map, hl.out, Nat.mul_one]) (by unfold maxLen; omega) (by omega) hr.out (fun u hu => by obtain ⟨s, _, rfl⟩ := List.mem_map.1 hu; rfl)).mono ?_
      rintro e w2 ⟨v', rfl, hown, hnn, hbel⟩
      rcases hown.2 with ⟨rfl, _⟩ | ⟨b, c, cur, rfl, hb, hblk, hnc, hcm, hcs, htake⟩
      · exact absurd rfl hnn
      have hH : Holds Value.string w2 b 0 l.toArray := holds_row hblk (by rw [hl.out]; simpa using htake)
      have hbs : b < w2.heap.size := lt_of_block hblk
      have hd : l.toArray.size = i := by simpa using hl.out
      have hsort := Any.slices_SortFunc lSort Value.string (fun _ => rfl) cmpW swo_cmp 78 #[] b 0 c l.toArray w2 (enters_of Try.func78 (by kernel_rfl) rfl) (cmp_lays b 0 _ w2) hH hbs (by rw [hd]; omega)
      rw [hd] at hsort
      have HH := Lib.hid hH
      have HB := Lib.hid hbel
      clear hH hbel htake hcs hown
      go_wp2_with fail
      refine hsort.mono ?_
      rintro e w3 ⟨rfl, d', q2, os, hperm, hsorted, hw3⟩
      have hd' : d'.size = i := by rw [hperm.1, hd]
      have hH3 : Holds Value.string w3 b 0 d' := by
        rw [hw3]
        unfold sortWorld
        exact holds_grow os (by simpa [putRow, mapBlock, Sort.ahead] using hbs) (holds_putRow _ _ b 0 l.toArray d' (holds_ahead _ _ _ _ _ _ HH.out) (by rw [hd', hd]))
      have hB3 : Hid (RowKit.Below w.heap.size w w3) := by
        have h1 : RowKit.Below w.heap.size w w2 := ⟨HB.out.os, HB.out.tape, HB.out.output, HB.out.size, HB.out.block⟩
        refine h1.trans ?_
        rw [hw3]
        unfold sortWorld
        exact below_grow os h1.size (below_put hb)
      have hcomp : Hid (compactUpTo d' d'.size = nrm l) := by
        refine compact_nrm (fun a b' hab hb' => ?_) (fun x => ?_)
        · have := hsorted a b' (Nat.zero_le _) hab (by omega)
          rwa [ltOf_cmp] at this
        · have hp := hperm.2.2.mem_iff (a := x)
          have e1 : (d'.extract 0 i).toList = d'.toList := by simp [← hd']
          have e2 : (l.toArray.extract 0 i).toList = l := by simp; exact List.take_of_length_le (by rw [hl.out]; exact Nat.le_refl _)
          rw [e1, e2] at hp
          exact hp
      have hsize3 : Hid (b < w3.heap.size) := by
        show _ < _
        rw [hw3]
        simp only [sortWorld, grow, Array.size_append, putRow, mapBlock, Sort.ahead, Array.size_modify]
        omega
      have hcompact := AnyE.slices_Compact lCompact Value.string (fun _ => rfl) (eql_word _) (neq_word _) ByteArray.empty Try.zeroValue27 b 0 c d' w3 hH3 (by rw [hd']; omega) (by rw [hd']; exact hnc)
      rw [hcomp.out, hd'] at hcompact
      have HH3 := Lib.hid hH3
      have hlen : Hid ((nrm l).length ≤ i ∧ 0 < (nrm l).length) := by
        have h1 : ∀ l : List ByteArray, (nrm l).length ≤ l.length := by
          have h : ∀ (x : ByteArray) (l : List ByteArray), (ins x l).length ≤ l.length + 1 := by
            intro x l
            induction l with
            | nil => simp [ins]
            | cons y l ih => simp only [ins]; split; simp; split <;> simp only [List.length_cons] <;> omega
          intro l
          induction l with
          | nil => simp [nrm]
          | cons x l ih => simp only [nrm, List.length_cons]; have := h x (nrm l); omega
        refine ⟨by have := h1 l; rw [hl.out] at this; exact this, ?_⟩
        have hne : 0 < l.length := by rw [hl.out]; exact h0
        exact List.length_pos_of_mem (mem_nrm.2 (List.getElem_mem hne))
      have hmay : Hid (∀ x ∈ l, wordMay x = true) := by
        have := hall.out
        rwa [List.take_of_length_le (by rw [hl.out]; exact Nat.le_refl _)] at this
      have hof : Hid (ofE l = if 1 ≤ (nrm l).length ∧ (nrm l).length ≤ 16 then (nrm l, 0) else ([], 3)) := by
        show _ = _
        unfold ofE
        rw [if_neg (by rw [List.all_eq_true.2 hmay.out]; simp)]
      have hdd := hd'
      clear hsort hH3 hsorted hperm hw3 hd'
      obtain ⟨m, hm⟩ : ∃ m, m = (nrm l).length := ⟨_, rfl⟩
      rw [← hm] at hcompact
      have HM := Lib.hid hm
      have hmi : m ≤ i ∧ 0 < m := by rw [hm]; exact hlen.out
      clear hm
      go_wp2_with fail
      refine hcompact.mono ?_
      rintro e w4 ⟨rfl, q3, hw4⟩
      have HB4 : Hid (RowKit.Below w.heap.size w w4) := by
        show RowKit.Below _ _ _
        rw [hw4]
        exact hB3.out.trans (below_put hb)
      have HC4 : Hid (∀ j s, (nrm l)[j]? = some s → w4.cell? ⟨b, j, none⟩ = some (.string s)) := by
        intro j s hj
        have hjl : j < (nrm l).length := (List.getElem?_eq_some_iff.1 hj).1
        have hsz : (nrm l ++ List.replicate (i - m) ByteArray.empty).toArray.size = d'.size := by
          have e1 : d'.size = i := by have := hcomp; exact hdd
          rw [e1, List.size_toArray, List.length_append, List.length_replicate, ← HM.out]; omega
        have hh := holds_putRow Value.string (Sort.ahead w3 q3) b 0 d' (nrm l ++ List.replicate (i - m) ByteArray.empty).toArray (holds_ahead _ _ _ _ _ _ HH3.out) hsz
        rw [← hw4] at hh
        have := (hh j (by simp; omega)).1
        rw [Nat.zero_add] at this
        rw [this]
        congr 2
        rw [getElem!_pos _ j (by simp; omega)]
        simp only [List.getElem_toArray]
        rw [List.getElem_append_left hjl]
        exact (List.getElem?_eq_some_iff.1 hj).2
      clear hw4 hcompact
      have g1 : decide ((m : Int) < 1) = false := by simp; omega
      by_cases h16 : 16 < m
      · have g2 : decide (16 < (m : Int)) = true := by simp; omega
        go_wp2_with fail
        go_ret2
        rw [hof.out, if_neg (by rw [← HM.out]; omega)]
        exact ⟨HB4.out, .inl ⟨by decide, rfl⟩⟩
      · have g2 : decide (16 < (m : Int)) = false := by simp; omega
        go_wp2_with fail
        refine (clip_any b m c w4 (by omega) (by omega) (by omega)).mono ?_
        rintro e w' ⟨rfl, rfl⟩
        go_wp2_with fail
        go_ret2
        rw [hof.out, if_pos (by rw [← HM.out]; omega)]
        exact ⟨HB4.out, .inr ⟨rfl, b, m, hb, by rw [← HM.out]; rfl, by rw [← HM.out]; exact Nat.le_refl _, HC4.out⟩⟩
set_option maxRecDepth 100000 in
set_option maxHeartbeats 2000000 in
theorem clone_none (ad : Addr) (c : Nat) (w : World) :
    Calls Try.prog 76 #[.slice (some ad) 0 c] w fun e w' => ∃ a' cap', e = .returned (.slice a' 0 cap') ∧ Below w.heap.size w w' := by
  obtain ⟨i0, z, hi, hz0, hz1, hz2, hzs, _⟩ := elem_of (P := Try.prog) (e := 27) (sz := 1) (bytes := 16) (by kernel_rfl)
  have q22 : ∀ (w : World) (a : Option Addr) (n c n' c' : Nat), (binOp .eql 25 (.slice a n c) (.slice none n' c')).run Try.prog w = .ok (.bool a.isNone) w := fun w a n c n' c' => Lib.run_eql_slice_nil w _ _ a n c n' c' Try.underlying25
  go_enter Try.func76, Try.ntmps76
  go_wp2_with (at_builtin; refine wpList_append_row _ rfl _ _ 25 rfl w.heap.size 27 i0 z 1 16 Try.underlying25 hi hz0 hz1 hz2 hzs (by decide) (.slice (some ⟨w.heap.size, 0, none⟩) 0 0) 0 [] rfl (World.ownsRow_made w #[] 0 (Nat.le_refl _) (Nat.zero_le _) (by simp)) (some ad) 0 c [] rfl (by simp) (RowOf.nil _ _) (by intro h; cases h) (by simp) (by unfold maxLen; omega) (by omega) (by simp) ?_; intro a' cap' w1 hown hgrow _ _)
  go_ret
  exact ⟨a', cap', rfl, ((Below.refl _ w).alloc (Nat.le_refl _) _).grown hgrow (by simp) (by simp [Value.ownBlock])⟩
theorem clone_zero (a : Option Addr) (c : Nat) (w : World) :
    Calls Try.prog 76 #[.slice a 0 c] w fun e w' => ∃ a' cap', e = .returned (.slice a' 0 cap') ∧ Below w.heap.size w w' := by
  cases a with
  | none => exact (AnyE.slices_Clone_nil lClone 0 c w).mono (by rintro e w' ⟨rfl, rfl⟩; exact ⟨_, _, rfl, Below.refl _ _⟩)
  | some ad => exact clone_none ad c w
set_option maxRecDepth 100000 in
set_option maxHeartbeats 2000000 in
theorem compact_zero (a : Option Addr) (c : Nat) (w : World) :
    Calls Try.prog 79 #[.slice a 0 c] w fun e w' => e = .returned (.slice a 0 c) ∧ w = w' := by
  go_enter Try.func79, Try.ntmps79
  go_wp2
  go_ret
  exact ⟨rfl, rfl⟩
set_option maxRecDepth 100000 in
set_option maxHeartbeats 2000000 in
theorem sof_none (a : Option Addr) (c : Nat) (w : World) :
    Calls Try.prog 73 #[.slice a 0 c] w fun e w' => Made w w' e (ofE []) := by
  have hsort := fun (p : Option Addr) (cap : Nat) (fv : Value) (w : World) => AnyF.slices_SortFunc_none (P := Try.prog) { lSort with } p cap fv w
  go_enter Try.func73, Try.ntmps73
  go_wp2_with fail
  go_loopw [9] (fun t wr => t = .int .i64 0 ∧ wr = w) (fun _ _ => 0)
  case atStart => exact ⟨rfl, rfl⟩
  case round =>
    obtain ⟨rfl, rfl⟩ := hrel
    go_wp2_with fail
    refine (clone_zero a c _).mono ?_
    rintro e w1 ⟨a', cap', rfl, hb1⟩
    have HB := Lib.hid hb1
    clear hb1
    go_wp2_with fail
    refine (hsort a' cap' _ w1).mono ?_
    rintro e w2 ⟨rfl, rfl⟩
    go_wp2_with fail
    refine (compact_zero a' cap' w2).mono ?_
    rintro e w3 ⟨rfl, rfl⟩
    go_wp2_with fail
    go_ret2
    exact ⟨HB.out, .inl ⟨by decide, rfl⟩⟩
end Go.Proofs.Ytnmikopkjdekaaa

/- set.Of as a call that leaves all objects alone. -/
namespace Go.Proofs.Ytnmikopkjdekaaa
set_option linter.unusedSimpArgs false
set_option linter.unusedVariables false
open Go.RowKit Go.Lib

theorem ofE_snd (l : List ByteArray) (h : (ofE l).2 ≠ 0) : (ofE l).1 = [] := by
  unfold ofE at h ⊢
  split
  · rfl
  · next h1 =>
    rw [if_neg h1] at h
    split
    · next h2 => rw [if_pos h2] at h; exact absurd rfl h
    · rfl
theorem cells_news {g : Gh} {w w' : World} {b : Nat} {l : List ByteArray} (hb : w.heap.size ≤ b) (hc : ∀ i s, l[i]? = some s → w'.cell? ⟨b, i, none⟩ = some (.string s)) : CellsAt (g.news w w') b 0 (l.map .string) := by
  intro i v hv
  rw [List.getElem?_map] at hv
  cases hs : l[i]? with
  | none => rw [hs] at hv; cases hv
  | some s =>
    rw [hs] at hv
    cases hv
    rw [Nat.zero_add]
    exact news_new hb (hc i s hs) rfl
theorem repL_strs (g : Gh) : ∀ l : List ByteArray, RepL g (l.map .string) (l.map .str)
  | [] => .nil
  | s :: l => .cons (.str s) (repL_strs g l)
theorem plains_strs (l : List ByteArray) : plains (l.map .str) := by
  intro a ha
  obtain ⟨s, _, rfl⟩ := List.mem_map.1 ha
  rfl
theorem rep_new {g : Gh} {w w' : World} {b c : Nat} {f : Fl} {l : List ByteArray} (hb : w.heap.size ≤ b) (hn : l.length ≤ c) (hf : f = .clip → c = l.length) (hc : ∀ i s, l[i]? = some s → w'.cell? ⟨b, i, none⟩ = some (.string s)) : Rep (g.news w w') (.slice (some ⟨b, 0, none⟩) l.length c) (.lst f l.length (l.map .str)) :=
  .lst b 0 _ c f _ _ (cells_news hb hc) (plains_strs l) hn hf (repL_strs _ l)
theorem p_sof (l : List ByteArray) (hl : l.length ≤ 1000000) (hs : ∀ x ∈ l, x.size ≤ 9223372036854775807) : PCalls Try.prog 73 [.lst .ro l.length (l.map .str)] (vSet (ofE l)) := by
  refine pcalls_calls (by simp [free, free.frees, frees_str]) (free_vSet _) (by simp [vSet, plain]) (by kernel_rfl) ?_
  intro g w vargs hsim hr
  obtain ⟨v, vs, rfl, hv, hvs⟩ : ∃ v vs, vargs = v :: vs ∧ Rep g v (.lst .ro l.length (l.map .str)) ∧ RepL g vs [] := by
    cases hr with
    | cons h1 h2 => exact ⟨_, _, rfl, h1, h2⟩
  cases hvs
  obtain ⟨a, c, rfl, hrow⟩ := rep_strs hsim hv
  have hm : ∀ e w', Made w w' e (ofE l) → ∃ x, e = .returned x ∧ Below w.heap.size w w' ∧ Rep (g.news w w') x (vSet (ofE l)) := by
    rintro e w' ⟨hb, h | ⟨h0, b, c, hbb, rfl, hnc, hcell⟩⟩
    · obtain ⟨h1, rfl⟩ := h
      refine ⟨_, rfl, hb, ?_⟩
      unfold vSet
      rw [ofE_snd l h1]
      exact .tup [_, _] _ (by intro a ha; simp at ha; rcases ha with rfl | rfl <;> rfl) (.cons (.lst0 none 0 .ro (fun _ => rfl)) (.cons (.int .i64 _) .nil))
    · refine ⟨_, rfl, hb, ?_⟩
      unfold vSet
      rw [h0]
      exact .tup [_, _] _ (by intro a ha; simp at ha; rcases ha with rfl | rfl <;> rfl) (.cons (rep_new hbb hnc (fun h => nomatch h) hcell) (.cons (.int .i64 _) .nil))
  rcases hrow with h0 | ⟨b, off, rfl, hcells⟩
  · have hl0 : l = [] := by simpa using h0
    subst hl0
    exact (sof_none a c w).mono hm
  · by_cases h0 : l = []
    · subst h0
      exact (sof_none _ c w).mono hm
    · exact (sof_any b off c l.length l w rfl (List.length_pos_iff.2 h0) hl hcells hs).mono hm
end Go.Proofs.Ytnmikopkjdekaaa

/- slices.Concat of two sets. -/
namespace Go.Proofs.Ytnmikopkjdekaaa
set_option linter.unusedSimpArgs false
set_option linter.unusedVariables false
open Go.RowKit Go.Lib Go.Sort Go.Shelf

end Go.Proofs.Ytnmikopkjdekaaa

/- set.Within: a map that the call keeps to itself. -/
namespace Go.Proofs.Ytnmikopkjdekaaa
set_option linter.unusedSimpArgs false
set_option linter.unusedVariables false
open Go.RowKit Go.Lib Go.Maps Go.WideMaps

theorem lawW : Keyed Try.prog 27 := string_keyed Try.underlying27
theorem zeroU (w : World) : (zeroValue 123).run Try.prog w = .ok (.agg #[]) w := by kernel_rfl
def litW (s : ByteArray) : Lit := .string s.data.toList
def setW (l : List ByteArray) : DataW Unit := setOf (.agg []) (l.map litW)
theorem setW_snoc (l : List ByteArray) (s : ByteArray) : setW (l ++ [s]) = (setW l).put (litW s) (.agg []) := by
  unfold setW
  rw [List.map_append, List.map_cons, List.map_nil, setOf_snoc]
theorem has_setW (l : List ByteArray) (s : ByteArray) : Maps.has (setW l) (litW s) = hasW l s := by
  unfold setW
  rw [has_setOf]
  · unfold hasW
    rw [List.any_map]
    congr 1
    funext y
    simp only [Function.comp]
    by_cases h : s = y
    · subst h
      rw [decide_eq_true rfl, WideAt.sameKey_self (by exact trivial)]
    · rw [decide_eq_false h, sameKey_ne]
      intro e
      unfold litW at e
      injection e with e
      exact h (WideShapes.bytes_inj e.symm)
  · intro x hx
    obtain ⟨s, _, rfl⟩ := List.mem_map.1 hx
    exact trivial
theorem run_makeMap_hint (n : Int) (w : World) : (Instr.makeMap 122 (some (.int .i64 n))).run Try.prog w = .ok (.map (some w.heap.size)) (w.alloc (.map #[] 0)) := by
  simp only [Instr.makeMap, Sem.run_bind, run_underlying Try.underlying122, Result.andThen_ok, asInt, asIntOf]
  rfl
set_option maxRecDepth 100000 in
set_option maxHeartbeats 2000000 in
theorem within_any (a1 a2 : Option Addr) (n1 n2 c1 c2 : Nat) (l1 l2 : List ByteArray) (w : World) (h1 : n1 ≤ 1000000) (h2 : n2 ≤ 1000000) (hl1 : Hid (l1.length = n1)) (hl2 : Hid (l2.length = n2))
    (r1 : Hid (RowOf w a1 (l1.map .string))) (r2 : Hid (RowOf w a2 (l2.map .string))) (s1 : Hid (∀ x ∈ l1, x.size ≤ maxLen)) (s2 : Hid (∀ x ∈ l2, x.size ≤ maxLen)) :
    Calls Try.prog 81 #[.slice a1 n1 c1, .slice a2 n2 c2] w fun e w' => e = .returned (.bool (withinE l1 l2)) ∧ Below w.heap.size w w' := by
  have hmm := run_makeMap_hint
  go_enter Try.func81, Try.ntmps81
  go_wp2_with fail
  go_loopw [17] (fun t wr => ∃ k : Nat, k ≤ n2 ∧ t = .int .i64 k ∧ Hid (wr.ownsMap Try.prog 27 unitElem w.heap.size k (setW (l2.take k))) ∧ Hid (Below w.heap.size w wr)) (fun t _ => n2 - (intOf t).toNat)
  case atStart => exact ⟨0, Nat.zero_le _, rfl, World.ownsMap_made _ _ _ _, (Below.refl _ _).alloc (Nat.le_refl _) _⟩
  case round =>
    obtain ⟨k, hk, rfl, HO, HB⟩ := hrel
    by_cases hlt : k < n2
    · have hkl : k < l2.length := by have := hl2.out; omega
      obtain ⟨b, off, ha, hcell⟩ : ∃ b off, a2 = some ⟨b, off, none⟩ ∧ w.cell? ⟨b, off + k, none⟩ = some (.string l2[k]) := by
        rcases r2.out with h | ⟨b, off, h, hc⟩
        · simp at h; rw [h] at hkl; simp at hkl
        · exact ⟨b, off, h, hc k _ (by simp [hkl])⟩
      have hc : wr.cell? ⟨b, off + k, none⟩ = some (.string l2[k]) := (HB.out.cell (World.block_lt_of_cell? w _ hcell)).trans hcell
      have hkey : keyOf Try.prog 27 (.string l2[k]) = some (litW l2[k]) := keyOf_string_mk Try.underlying27 (s2.out _ (List.getElem_mem hkl))
      have hnext : Hid (setW (l2.take (k + 1)) = (setW (l2.take k)).put (litW l2[k]) (.agg [])) := by show _ = _; rw [List.take_succ_eq_append_getElem hkl, setW_snoc]
      generalize l2[k] = y at hc hkey hnext
      subst ha
      clear hcell r2
      go_wp2_with (first | (at_mapUpdate; refine wpList_mapUpdate_own _ rfl _ _ _ 122 rfl 27 123 lawW Try.underlying122 (unitElem (H := Unit)) w.heap.size k _ rfl HO.out (by unfold maxLen; omega) _ _ _ rfl rfl hkey _ [] unitElem_mk ?_; intro w1 hown1 hgrow1; have HO1 := Lib.hid hown1; have HB1 := Lib.hid (HB.out.grown hgrow1 HB.out.size (fun j hj => by cases hj; exact Nat.le_refl _)); clear hown1 hgrow1))
      exact ⟨⟨k + 1, by omega, by go_num, by rw [hnext.out]; exact HO1.out, HB1⟩, by simp [intOf]; omega⟩
    · have hkn : k = n2 := by omega
      subst hkn
      go_wp2_with fail
      have HO' : Hid (wr.ownsMap Try.prog 27 unitElem w.heap.size k (setW l2)) := by
        have := HO.out
        rw [List.take_of_length_le (by rw [hl2.out]; exact Nat.le_refl _)] at this
        exact this
      clear HO r2 s2
      go_loopw [27] (fun t wr => ∃ k' : Nat, k' ≤ n1 ∧ t = .int .i64 k' ∧ Hid (wr.ownsMap Try.prog 27 unitElem w.heap.size k (setW l2)) ∧ Hid (Below w.heap.size w wr) ∧ Hid (∀ x ∈ l1.take k', hasW l2 x = true)) (fun t _ => n1 - (intOf t).toNat)
      case atStart => exact ⟨0, Nat.zero_le _, rfl, HO', HB, by intro x hx; simp at hx⟩
      case round =>
        clear HO' HB
        obtain ⟨i, hi, rfl, HO, HB, HA⟩ := hrel
        by_cases hlt : i < n1
        · have hkl : i < l1.length := by have := hl1.out; omega
          obtain ⟨b, off, ha, hcell⟩ : ∃ b off, a1 = some ⟨b, off, none⟩ ∧ w.cell? ⟨b, off + i, none⟩ = some (.string l1[i]) := by
            rcases r1.out with h | ⟨b, off, h, hc⟩
            · simp at h; rw [h] at hkl; simp at hkl
            · exact ⟨b, off, h, hc i _ (by simp [hkl])⟩
          have hc : wr.cell? ⟨b, off + i, none⟩ = some (.string l1[i]) := (HB.out.cell (World.block_lt_of_cell? w _ hcell)).trans hcell
          have hkey : keyOf Try.prog 27 (.string l1[i]) = some (litW l1[i]) := keyOf_string_mk Try.underlying27 (s1.out _ (List.getElem_mem hkl))
          have hmem := Lib.hid (List.getElem_mem hkl)
          have hnext : Hid (hasW l2 l1[i] = true → ∀ x ∈ l1.take (i + 1), hasW l2 x = true) := by
            intro hw x hx
            rw [List.take_succ_eq_append_getElem hkl, List.mem_append] at hx
            rcases hx with hx | hx
            · exact HA.out x hx
            · simp at hx; subst hx; exact hw
          generalize l1[i] = y at hc hkey hnext hmem
          subst ha
          clear hcell r1
          cases hh : hasW l2 y with
          | true =>
            have HH : Maps.has (setW l2) (litW y) = true := by rw [has_setW]; exact hh
            have HN := Lib.hid (hnext.out hh)
            clear hh hnext
            go_wp2_with (first | (at_lookup; refine wpList_lookup_own_unit _ rfl _ _ 122 rfl 27 123 lawW Try.underlying122 (zeroU _) w.heap.size k _ rfl HO.out _ _ rfl hkey ?_; rw [HH]))
            exact ⟨⟨i + 1, by omega, by go_num, HO.out.alloc _, HB.out.alloc HB.out.size _, HN⟩, by simp [intOf]; omega⟩
          | false =>
            have HH : Maps.has (setW l2) (litW y) = false := by rw [has_setW]; exact hh
            have HN : Hid (withinE l1 l2 = false) := by
              show _ = _
              cases hb : withinE l1 l2 with
              | false => rfl
              | true => rw [hasW_iff.2 (withinE_iff.1 hb y hmem.out)] at hh; cases hh
            clear hh hnext
            go_wp2_with (first | (at_lookup; refine wpList_lookup_own_unit _ rfl _ _ 122 rfl 27 123 lawW Try.underlying122 (zeroU _) w.heap.size k _ rfl HO.out _ _ rfl hkey ?_; rw [HH]))
            go_ret
            exact ⟨ret_bool HN.out.symm, HB.out.alloc HB.out.size _⟩
        · have hin : i = n1 := by omega
          subst hin
          go_wp2_with fail
          go_ret
          refine ⟨ret_bool ?_, HB.out⟩
          have := HA.out
          rw [List.take_of_length_le (by rw [hl1.out]; exact Nat.le_refl _)] at this
          exact (withinE_iff.2 fun w hw => hasW_iff.1 (this w hw)).symm
theorem p_within (l1 l2 : List ByteArray) (h1 : l1.length ≤ 1000000) (h2 : l2.length ≤ 1000000) (s1 : ∀ x ∈ l1, x.size ≤ maxLen) (s2 : ∀ x ∈ l2, x.size ≤ maxLen) :
    PCalls Try.prog 81 [.lst .ro l1.length (l1.map .str), .lst .ro l2.length (l2.map .str)] (.bool (withinE l1 l2)) := by
  refine pcalls_calls (by simp [free, free.frees, frees_str]) rfl rfl (by kernel_rfl) ?_
  intro g w vargs hsim hr
  obtain ⟨v1, v2, rfl, hv1, hv2⟩ : ∃ v1 v2, vargs = [v1, v2] ∧ Rep g v1 (.lst .ro l1.length (l1.map .str)) ∧ Rep g v2 (.lst .ro l2.length (l2.map .str)) := by
    cases hr with
    | cons q1 q2 =>
      cases q2 with
      | cons q3 q4 => cases q4; exact ⟨_, _, rfl, q1, q3⟩
  obtain ⟨a1, c1, rfl, r1⟩ := rep_strs hsim hv1
  obtain ⟨a2, c2, rfl, r2⟩ := rep_strs hsim hv2
  refine (within_any a1 a2 l1.length l2.length c1 c2 l1 l2 w h1 h2 rfl rfl r1 r2 s1 s2).mono ?_
  rintro e w' ⟨rfl, hb⟩
  exact ⟨_, rfl, hb, .bool _⟩
theorem p_same (l1 l2 : List ByteArray) (h1 : l1.length ≤ 1000000) (h2 : l2.length ≤ 1000000) (s1 : ∀ x ∈ l1, x.size ≤ maxLen) (s2 : ∀ x ∈ l2, x.size ≤ maxLen) :
    PCalls Try.prog 74 [.lst .ro l1.length (l1.map .str), .lst .ro l2.length (l2.map .str)] (.bool (withinE l1 l2 && withinE l2 l1)) := by
  refine pcalls_of (by first | rfl | simp [free, free.frees, frees_str, frees_u8, frees_u16]) (by first | rfl | simp [free, free.frees, frees_str, frees_u8, frees_u16]) (acalls_of mixed J_set_Same_ok (Nat.le_of_ble_eq_true rfl) ?_); simp only [J_set_Same, wk,if_true,if_false,forall_const,implies_true,ne_eq,eq_self,Nat.reduceEqDiff,Nat.reduceAdd,Nat.reduceMul,Nat.reduceSub,Nat.reduceLeDiff,Nat.reduceLT,Int.reduceEq,Int.reduceLT,Int.reduceLE,Int.reduceAdd,Int.reduceSub,Int.reduceMul,Int.reduceNeg,Int.reduceNe,reduceCtorEq,Int.reduceToNat,↓reduceIte]
  refine PCalls.use (p_within l1 l2 h1 h2 s1 s2) ?_; simp only [wk,if_true,if_false,forall_const,implies_true,ne_eq,eq_self,Nat.reduceEqDiff,Nat.reduceAdd,Nat.reduceMul,Nat.reduceSub,Nat.reduceLeDiff,Nat.reduceLT,Int.reduceEq,Int.reduceLT,Int.reduceLE,Int.reduceAdd,Int.reduceSub,Int.reduceMul,Int.reduceNeg,Int.reduceNe,reduceCtorEq,Int.reduceToNat,↓reduceIte]
  cases hw : withinE l1 l2 with
  | true =>
    simp only [wk,if_true,if_false,forall_const,implies_true,ne_eq,eq_self,Nat.reduceEqDiff,Nat.reduceAdd,Nat.reduceMul,Nat.reduceSub,Nat.reduceLeDiff,Nat.reduceLT,Int.reduceEq,Int.reduceLT,Int.reduceLE,Int.reduceAdd,Int.reduceSub,Int.reduceMul,Int.reduceNeg,Int.reduceNe,reduceCtorEq,Int.reduceToNat,↓reduceIte]
    refine PCalls.use (p_within l2 l1 h2 h1 s2 s1) ?_; simp only [wk,if_true,if_false,forall_const,implies_true,ne_eq,eq_self,Nat.reduceEqDiff,Nat.reduceAdd,Nat.reduceMul,Nat.reduceSub,Nat.reduceLeDiff,Nat.reduceLT,Int.reduceEq,Int.reduceLT,Int.reduceLE,Int.reduceAdd,Int.reduceSub,Int.reduceMul,Int.reduceNeg,Int.reduceNe,reduceCtorEq,Int.reduceToNat,↓reduceIte]
    rfl
  | false =>
    simp only [wk,if_true,if_false,forall_const,implies_true,ne_eq,eq_self,Nat.reduceEqDiff,Nat.reduceAdd,Nat.reduceMul,Nat.reduceSub,Nat.reduceLeDiff,Nat.reduceLT,Int.reduceEq,Int.reduceLT,Int.reduceLE,Int.reduceAdd,Int.reduceSub,Int.reduceMul,Int.reduceNeg,Int.reduceNe,reduceCtorEq,Int.reduceToNat,↓reduceIte]
    rfl
end Go.Proofs.Ytnmikopkjdekaaa

/- And, Quote, As, For of package set. -/
namespace Go.Proofs.Ytnmikopkjdekaaa
set_option linter.unusedSimpArgs false
set_option linter.unusedVariables false
open Go.RowKit Go.Lib

theorem setMay_ne {l : List ByteArray} (h : setMay l = true) : l ≠ [] := by
  rintro rfl
  have := (setMay_words h).1.1
  simp at this
end Go.Proofs.Ytnmikopkjdekaaa

/- awake of the laws on sets: what each call comes to. -/
namespace Go.Proofs.Ytnmikopkjdekaaa
set_option linter.unusedSimpArgs false
set_option linter.unusedVariables false
open Go.RowKit Go.Lib

end Go.Proofs.Ytnmikopkjdekaaa

/- large of the laws on sets; what stays small. -/
namespace Go.Proofs.Ytnmikopkjdekaaa
set_option linter.unusedSimpArgs false
set_option linter.unusedVariables false
open Go.RowKit Go.Lib

end Go.Proofs.Ytnmikopkjdekaaa

/- SetAnd: the plain law, and the walk. -/
namespace Go.Proofs.Ytnmikopkjdekaaa
set_option linter.unusedSimpArgs false
set_option linter.unusedVariables false
open Go.RowKit Go.Lib

theorem and_may {a b : List ByteArray} (ha : setMay a = true) (hb : setMay b = true) : andE a b = boundE (nrm (a ++ b)) := by
  unfold andE
  rw [if_neg (by simp [ha, hb]), ofE_may (fun x hx => by rcases List.mem_append.1 hx with h | h; exact (setMay_words ha).2 x h; exact (setMay_words hb).2 x h)]
theorem nrm_pos {l : List ByteArray} (h : l ≠ []) : 1 ≤ (nrm l).length := by
  cases l with
  | nil => exact absurd rfl h
  | cons x l => exact List.length_pos_of_mem (mem_nrm.2 (List.mem_cons_self ..))
theorem and_fit {a b : List ByteArray} (ha : setMay a = true) (hb : setMay b = true) (h : (nrm (a ++ b)).length ≤ 16) : andE a b = (nrm (a ++ b), 0) ∧ setMay (nrm (a ++ b)) = true := by
  have h1 := nrm_pos (l := a ++ b) (by simp [setMay_ne ha])
  refine ⟨by rw [and_may ha hb]; unfold boundE; rw [if_pos ⟨h1, h⟩], setMay_mk h1 h (fun x hx => ?_) (rising_nrm _)⟩
  rcases List.mem_append.1 (mem_nrm.1 hx) with h | h
  · exact (setMay_words ha).2 x h
  · exact (setMay_words hb).2 x h
theorem and_many {a b : List ByteArray} (ha : setMay a = true) (hb : setMay b = true) (h : ¬ (nrm (a ++ b)).length ≤ 16) : andE a b = ([], 3) := by
  rw [and_may ha hb]; unfold boundE; rw [if_neg (by omega)]
theorem and_self {a : List ByteArray} (ha : setMay a = true) : andE a a = (a, 0) := by
  have e : nrm (a ++ a) = a := (nrm_eq (setMay_rising ha) (fun x => by simp)).symm
  have := (and_fit ha ha (by rw [e]; exact (setMay_small ha).1)).1
  rwa [e] at this
theorem smallS_nrm {a : List ByteArray} (h : setMay a = true) : a.length ≤ 10000 ∧ (∀ x ∈ a, x.size ≤ 1000000) ∧ ∀ x ∈ a, x.size ≤ maxLen := by
  have := setMay_small h
  exact ⟨by omega, fun x hx => by have := this.2 x hx; omega, fun x hx => by have := this.2 x hx; unfold maxLen; omega⟩
theorem ofE_small (l : List ByteArray) : (ofE l).1.length ≤ 16 := by
  unfold ofE
  split
  · simp
  · split
    · next h => exact h.2
    · simp
end Go.Proofs.Ytnmikopkjdekaaa

/- Certificates: the plain structure, and the small functions of cert and its reference. -/
namespace Go.Proofs.Ytnmikopkjdekaaa
set_option linter.unusedSimpArgs false
set_option linter.unusedVariables false
open Go.RowKit Go.Lib

structure Crt where
  kind : Int
  signer : Nat
  speaker : ByteArray
  words : List ByteArray
  since : Int
  till : Int
  serial : Int
def cC (c : Crt) : List AV := [.int .i64 c.kind, .int .u16 c.signer, .str c.speaker, .lst .ro c.words.length (c.words.map .str), .int .i64 c.since, .int .i64 c.till, .int .i64 c.serial]
def vC (c : Crt) : AV := .agg (cC c)
theorem free_vC (c : Crt) : free (vC c) = true := by unfold vC cC; simp [free, free.frees, frees_str]
theorem drop_ints {l : List Int} {i : Nat} (h : i < l.length) : (l.map (AV.int .i64)).drop i = .int .i64 l[i] :: (l.map (AV.int .i64)).drop (i + 1) := by
  rw [← List.map_drop, List.drop_eq_getElem_cons h, List.map_cons, List.map_drop]
def idxI (x : Int) : List Int → Int
  | [] => -1
  | y :: l => if x = y then 0 else if idxI x l < 0 then -1 else idxI x l + 1
def hasI (l : List Int) (x : Int) : Bool := l.any fun y => decide (x = y)
theorem hasI_iff {l : List Int} {x : Int} : hasI l x = true ↔ x ∈ l := by
  unfold hasI
  rw [List.any_eq_true]
  constructor
  · rintro ⟨y, hy, h⟩; simp only [decide_eq_true_eq] at h; subst h; exact hy
  · intro h; exact ⟨x, h, by simp⟩
theorem idxI_none {x : Int} : ∀ {l : List Int}, x ∉ l → idxI x l = -1
  | [], _ => rfl
  | y :: r, h => by
    simp only [List.mem_cons, not_or] at h
    simp only [idxI]
    rw [if_neg h.1, idxI_none h.2]; rfl
theorem idxI_at {x : Int} : ∀ {l : List Int} {i : Nat}, l[i]? = some x → x ∉ l.take i → idxI x l = i
  | [], i, h, _ => by simp at h
  | y :: r, 0, h, _ => by simp at h; subst h; simp [idxI]
  | y :: r, i + 1, h, hn => by
    simp only [List.getElem?_cons_succ] at h
    simp only [List.take_succ_cons, List.mem_cons, not_or] at hn
    have := idxI_at h hn.2
    simp only [idxI]
    rw [if_neg hn.1, if_neg (by omega), this]; omega
theorem idxI_mem (x : Int) (l : List Int) : decide (0 ≤ idxI x l) = hasI l x := by
  by_cases h : x ∈ l
  · have hk : ∀ (l : List Int), x ∈ l → 0 ≤ idxI x l := by
      intro l
      induction l with
      | nil => intro h; simp at h
      | cons y r ih =>
        intro h
        simp only [idxI]
        split
        · omega
        · next hx =>
          have := ih (by rcases List.mem_cons.1 h with h | h; exact absurd h hx; exact h)
          rw [if_neg (by omega)]; omega
    rw [decide_eq_true (hk l h), hasI_iff.2 h]
  · rw [idxI_none h]
    cases hh : hasI l x with
    | false => rfl
    | true => exact absurd (hasI_iff.1 hh) h
theorem frees_ints (l : List Int) : free.frees (l.map (AV.int .i64)) = true := by
  induction l with
  | nil => rfl
  | cons s ls ih => simp only [List.map_cons, free.frees, ih, free, Bool.and_true]
set_option maxHeartbeats 1000000 in
theorem p_indexI (l : List Int) (x : Int) (hl : l.length ≤ 9223372036854775807) : PCalls Try.prog 71 [.lst .ro l.length (l.map (.int .i64)), .int .i64 x] (.int .i64 (idxI x l)) := by
  refine pcalls_of (by simp [free.frees, free, frees_ints]) rfl (acalls_of mixed J_slices_Index_int_int_ok (Nat.le_of_ble_eq_true rfl) ?_); simp only [J_slices_Index_int_int, wk,if_true,if_false,forall_const,implies_true,ne_eq,eq_self,Nat.reduceEqDiff,Nat.reduceAdd,Nat.reduceMul,Nat.reduceSub,Nat.reduceLeDiff,Nat.reduceLT,Int.reduceEq,Int.reduceLT,Int.reduceLE,Int.reduceAdd,Int.reduceSub,Int.reduceMul,Int.reduceNeg,Int.reduceNe,reduceCtorEq,Int.reduceToNat,↓reduceIte]
  refine W_loop (fun n fr h => ∃ i : Nat, i ≤ l.length ∧ n = l.length - i ∧ fr = [(0, .lst .ro l.length (l.map (.int .i64))), (1, .int .i64 x), (7, .int .i64 l.length), (8, .int .i64 i)] ∧ x ∉ l.take i) l.length ⟨0, by omega, by omega, rfl, by simp⟩ ?_
  rintro n fr h ⟨i, hi, rfl, rfl, hno⟩
  simp only [J_slices_Index_int_int_j2, J_slices_Index_int_int_j1, wk,if_true,if_false,forall_const,implies_true,ne_eq,eq_self,Nat.reduceEqDiff,Nat.reduceAdd,Nat.reduceMul,Nat.reduceSub,Nat.reduceLeDiff,Nat.reduceLT,Int.reduceEq,Int.reduceLT,Int.reduceLE,Int.reduceAdd,Int.reduceSub,Int.reduceMul,Int.reduceNeg,Int.reduceNe,reduceCtorEq,Int.reduceToNat,↓reduceIte]
  refine ⟨fun hlt => ?_, fun hge => int_eq ?_⟩
  · have hil : i < l.length := by omega
    (repeat (refine And.intro (by first | omega | exact inR_of (by omega) (by omega) | exact ⟨by omega, by omega⟩ | exact ⟨by omega, by omega, by omega⟩ | rfl) ?_))
    rw [show (i : Int).toNat = i by omega, drop_ints hil]
    simp only [wk,if_true,if_false,forall_const,implies_true,ne_eq,eq_self,Nat.reduceEqDiff,Nat.reduceAdd,Nat.reduceMul,Nat.reduceSub,Nat.reduceLeDiff,Nat.reduceLT,Int.reduceEq,Int.reduceLT,Int.reduceLE,Int.reduceAdd,Int.reduceSub,Int.reduceMul,Int.reduceNeg,Int.reduceNe,reduceCtorEq,Int.reduceToNat,↓reduceIte]
    refine ⟨fun he => int_eq ?_, fun hne => ⟨inR_of (by omega) (by omega), l.length - (i + 1), by omega, i + 1, by omega, rfl, rfl, fun hm => ?_⟩⟩
    · rw [idxI_at (i := i) (by rw [List.getElem?_eq_getElem hil, he]) hno]
    · rcases (take_mem_succ hil).1 hm with h | h
      · exact hno h
      · exact hne h
  · rw [List.take_of_length_le (by omega)] at hno
    rw [idxI_none hno]
theorem p_containsI (l : List Int) (x : Int) (hl : l.length ≤ 9223372036854775807) : PCalls Try.prog 66 [.lst .ro l.length (l.map (.int .i64)), .int .i64 x] (.bool (hasI l x)) := by
  refine pcalls_of (by simp [free.frees, free, frees_ints]) rfl (acalls_of mixed J_slices_Contains_int_int_ok (Nat.le_of_ble_eq_true rfl) ?_); simp only [J_slices_Contains_int_int, wk,if_true,if_false,forall_const,implies_true,ne_eq,eq_self,Nat.reduceEqDiff,Nat.reduceAdd,Nat.reduceMul,Nat.reduceSub,Nat.reduceLeDiff,Nat.reduceLT,Int.reduceEq,Int.reduceLT,Int.reduceLE,Int.reduceAdd,Int.reduceSub,Int.reduceMul,Int.reduceNeg,Int.reduceNe,reduceCtorEq,Int.reduceToNat,↓reduceIte]
  refine PCalls.use (p_indexI l x hl) ?_; simp only [wk,if_true,if_false,forall_const,implies_true,ne_eq,eq_self,Nat.reduceEqDiff,Nat.reduceAdd,Nat.reduceMul,Nat.reduceSub,Nat.reduceLeDiff,Nat.reduceLT,Int.reduceEq,Int.reduceLT,Int.reduceLE,Int.reduceAdd,Int.reduceSub,Int.reduceMul,Int.reduceNeg,Int.reduceNe,reduceCtorEq,Int.reduceToNat,↓reduceIte]
  exact bool_eq (idxI_mem x l)
theorem p_kind (a : Nat) (h : a < 65536) : PCalls Try.prog 63 [.int .u16 a] (.int .i64 ((a / 8192 : Nat) : Int)) := by
  refine pcalls_of (by first | rfl | simp [free, free.frees, frees_str, frees_u8, frees_u16]) (by first | rfl | simp [free, free.frees, frees_str, frees_u8, frees_u16]) (acalls_of mixed J_ref01_Kind_ok (Nat.le_of_ble_eq_true rfl) ?_); simp only [J_ref01_Kind, wk,if_true,if_false,forall_const,implies_true,ne_eq,eq_self,Nat.reduceEqDiff,Nat.reduceAdd,Nat.reduceMul,Nat.reduceSub,Nat.reduceLeDiff,Nat.reduceLT,Int.reduceEq,Int.reduceLT,Int.reduceLE,Int.reduceAdd,Int.reduceSub,Int.reduceMul,Int.reduceNeg,Int.reduceNe,reduceCtorEq,Int.reduceToNat,↓reduceIte]
  have hw : IntKind.wrap .i64 (a : Int) = a := by rw [IntKind.wrap_i64]; omega
  have hm : (a : Int).tmod 8192 = ((a % 8192 : Nat) : Int) := by rw [Int.tmod_eq_emod_of_nonneg (by omega)]; omega
  have hd : ((a : Int) - ((a % 8192 : Nat) : Int)).tdiv 8192 = ((a / 8192 : Nat) : Int) := by rw [Int.tdiv_eq_ediv_of_nonneg (by omega)]; omega
  rw [hw, hm, hd]
  exact ⟨inR_of (by omega) (by omega), inR_of (by omega) (by omega), rfl⟩
theorem p_isOf (a : Nat) (l : List Int) (h : a < 65536) (hl : l.length ≤ 9223372036854775807) : PCalls Try.prog 60 [.int .u16 a, .lst .ro l.length (l.map (.int .i64))] (.bool (hasI l ((a / 8192 : Nat) : Int))) := by
  refine pcalls_of (by simp [free.frees, free, frees_ints]) rfl (acalls_of mixed J_cert_isOf_ok (Nat.le_of_ble_eq_true rfl) ?_); simp only [J_cert_isOf, wk,if_true,if_false,forall_const,implies_true,ne_eq,eq_self,Nat.reduceEqDiff,Nat.reduceAdd,Nat.reduceMul,Nat.reduceSub,Nat.reduceLeDiff,Nat.reduceLT,Int.reduceEq,Int.reduceLT,Int.reduceLE,Int.reduceAdd,Int.reduceSub,Int.reduceMul,Int.reduceNeg,Int.reduceNe,reduceCtorEq,Int.reduceToNat,↓reduceIte]
  have hw : IntKind.wrap .i64 (a : Int) = a := by rw [IntKind.wrap_i64]; omega
  have hd : (a : Int).tdiv 8192 = ((a / 8192 : Nat) : Int) := by rw [Int.tdiv_eq_ediv_of_nonneg (by omega)]; omega
  rw [hw, hd]
  refine ⟨inR_of (by omega) (by omega), ?_⟩
  refine PCalls.use (p_containsI l ((a / 8192 : Nat) : Int) hl) ?_; simp only [wk,if_true,if_false,forall_const,implies_true,ne_eq,eq_self,Nat.reduceEqDiff,Nat.reduceAdd,Nat.reduceMul,Nat.reduceSub,Nat.reduceLeDiff,Nat.reduceLT,Int.reduceEq,Int.reduceLT,Int.reduceLE,Int.reduceAdd,Int.reduceSub,Int.reduceMul,Int.reduceNeg,Int.reduceNe,reduceCtorEq,Int.reduceToNat,↓reduceIte]
theorem p_alone (w : ByteArray) (l : List Int) (hw : w.size ≤ 9223372036854775807) (hl : l.length ≤ 9223372036854775807) : PCalls Try.prog 68 [.str w, .lst .ro l.length (l.map (.int .i64))] (.bool (decide (w.size / 2 = 1) && hasI l ((atomAt w 0 / 8192 : Nat) : Int))) := by
  refine pcalls_of (by simp [free.frees, free, frees_ints]) rfl (acalls_of mixed J_cert_alone_ok (Nat.le_of_ble_eq_true rfl) ?_); simp only [J_cert_alone, wk,if_true,if_false,forall_const,implies_true,ne_eq,eq_self,Nat.reduceEqDiff,Nat.reduceAdd,Nat.reduceMul,Nat.reduceSub,Nat.reduceLeDiff,Nat.reduceLT,Int.reduceEq,Int.reduceLT,Int.reduceLE,Int.reduceAdd,Int.reduceSub,Int.reduceMul,Int.reduceNeg,Int.reduceNe,reduceCtorEq,Int.reduceToNat,↓reduceIte]
  refine PCalls.use (p_wlen w hw) ?_; simp only [wk,if_true,if_false,forall_const,implies_true,ne_eq,eq_self,Nat.reduceEqDiff,Nat.reduceAdd,Nat.reduceMul,Nat.reduceSub,Nat.reduceLeDiff,Nat.reduceLT,Int.reduceEq,Int.reduceLT,Int.reduceLE,Int.reduceAdd,Int.reduceSub,Int.reduceMul,Int.reduceNeg,Int.reduceNe,reduceCtorEq,Int.reduceToNat,↓reduceIte]
  refine ⟨fun h1 => ?_, fun h1 => bool_eq (by rw [decide_eq_false (by omega)]; rfl)⟩
  refine PCalls.use (p_wat w 0 hw (by omega)) ?_; simp only [wk,if_true,if_false,forall_const,implies_true,ne_eq,eq_self,Nat.reduceEqDiff,Nat.reduceAdd,Nat.reduceMul,Nat.reduceSub,Nat.reduceLeDiff,Nat.reduceLT,Int.reduceEq,Int.reduceLT,Int.reduceLE,Int.reduceAdd,Int.reduceSub,Int.reduceMul,Int.reduceNeg,Int.reduceNe,reduceCtorEq,Int.reduceToNat,↓reduceIte]
  refine PCalls.use (p_isOf (atomAt w 0) l (atomAt_lt w 0) hl) ?_; simp only [wk,if_true,if_false,forall_const,implies_true,ne_eq,eq_self,Nat.reduceEqDiff,Nat.reduceAdd,Nat.reduceMul,Nat.reduceSub,Nat.reduceLeDiff,Nat.reduceLT,Int.reduceEq,Int.reduceLT,Int.reduceLE,Int.reduceAdd,Int.reduceSub,Int.reduceMul,Int.reduceNeg,Int.reduceNe,reduceCtorEq,Int.reduceToNat,↓reduceIte]
  rw [decide_eq_true (show w.size / 2 = 1 by omega)]
  rfl
def numL (l : List Int) : Bool := l.all fun x => decide (0 ≤ x) && decide (x ≤ 4611686018427387904)
theorem p_cnum (l : List Int) (hl : l.length ≤ 9223372036854775807) : PCalls Try.prog 61 [.lst .ro l.length (l.map (.int .i64))] (.bool (numL l)) := by
  refine pcalls_of (by simp [free.frees, free, frees_ints]) rfl (acalls_of mixed J_cert_num_ok (Nat.le_of_ble_eq_true rfl) ?_); simp only [J_cert_num, wk,if_true,if_false,forall_const,implies_true,ne_eq,eq_self,Nat.reduceEqDiff,Nat.reduceAdd,Nat.reduceMul,Nat.reduceSub,Nat.reduceLeDiff,Nat.reduceLT,Int.reduceEq,Int.reduceLT,Int.reduceLE,Int.reduceAdd,Int.reduceSub,Int.reduceMul,Int.reduceNeg,Int.reduceNe,reduceCtorEq,Int.reduceToNat,↓reduceIte]
  refine W_loop (fun n fr h => ∃ i : Nat, i ≤ l.length ∧ n = l.length - i ∧ fr = [(5, .lst .ro l.length (l.map (.int .i64))), (6, .int .i64 l.length), (7, .int .i64 i)] ∧ ∀ x ∈ l.take i, 0 ≤ x ∧ x ≤ 4611686018427387904) l.length ⟨0, by omega, by omega, rfl, by simp⟩ ?_
  rintro n fr h ⟨i, hi, rfl, rfl, hall⟩
  simp only [J_cert_num_j2, J_cert_num_j1, wk,if_true,if_false,forall_const,implies_true,ne_eq,eq_self,Nat.reduceEqDiff,Nat.reduceAdd,Nat.reduceMul,Nat.reduceSub,Nat.reduceLeDiff,Nat.reduceLT,Int.reduceEq,Int.reduceLT,Int.reduceLE,Int.reduceAdd,Int.reduceSub,Int.reduceMul,Int.reduceNeg,Int.reduceNe,reduceCtorEq,Int.reduceToNat,↓reduceIte]
  refine ⟨fun hlt => ?_, fun hge => bool_eq ?_⟩
  · have hil : i < l.length := by omega
    (repeat (refine And.intro (by first | omega | exact inR_of (by omega) (by omega) | exact ⟨by omega, by omega⟩ | exact ⟨by omega, by omega, by omega⟩ | rfl) ?_))
    rw [show (i : Int).toNat = i by omega, drop_ints hil]
    simp only [wk,if_true,if_false,forall_const,implies_true,ne_eq,eq_self,Nat.reduceEqDiff,Nat.reduceAdd,Nat.reduceMul,Nat.reduceSub,Nat.reduceLeDiff,Nat.reduceLT,Int.reduceEq,Int.reduceLT,Int.reduceLE,Int.reduceAdd,Int.reduceSub,Int.reduceMul,Int.reduceNeg,Int.reduceNe,reduceCtorEq,Int.reduceToNat,↓reduceIte]
    have hno : ¬ (0 ≤ l[i] ∧ l[i] ≤ 4611686018427387904) → numL l = false := by
      intro h
      cases hn : numL l with
      | false => rfl
      | true =>
        have := List.all_eq_true.1 hn l[i] (List.getElem_mem hil)
        simp only [Bool.and_eq_true, decide_eq_true_eq] at this
        exact absurd this h
    have hyes : 0 ≤ l[i] → l[i] ≤ 4611686018427387904 → ∀ x ∈ l.take (i + 1), 0 ≤ x ∧ x ≤ 4611686018427387904 := by
      intro h1 h2 x hx
      rcases (take_mem_succ hil).1 hx with h | h
      · exact hall x h
      · subst h; exact ⟨h1, h2⟩
    refine ⟨fun h0 => ⟨fun h1 => bool_eq (hno (by omega)).symm, fun h1 => ⟨inR_of (by omega) (by omega), l.length - (i + 1), by omega, i + 1, by omega, rfl, rfl, hyes (by omega) (by omega)⟩⟩, fun h0 => bool_eq (hno (by omega)).symm⟩
  · rw [List.take_of_length_le (by omega)] at hall
    unfold numL
    symm
    rw [List.all_eq_true]
    intro x hx
    have := hall x hx
    simp only [Bool.and_eq_true, decide_eq_true_eq]
    exact this
theorem p_rcnum (a : Int) : PCalls Try.prog 64 [.int .i64 a] (.bool (decide (0 ≤ a ∧ a ≤ 4611686018427387904))) := by
  refine pcalls_of (by first | rfl | simp [free, free.frees, frees_str, frees_u8, frees_u16]) (by first | rfl | simp [free, free.frees, frees_str, frees_u8, frees_u16]) (acalls_of mixed J_ref08_num_ok (Nat.le_of_ble_eq_true rfl) ?_); simp only [J_ref08_num, wk,if_true,if_false,forall_const,implies_true,ne_eq,eq_self,Nat.reduceEqDiff,Nat.reduceAdd,Nat.reduceMul,Nat.reduceSub,Nat.reduceLeDiff,Nat.reduceLT,Int.reduceEq,Int.reduceLT,Int.reduceLE,Int.reduceAdd,Int.reduceSub,Int.reduceMul,Int.reduceNeg,Int.reduceNe,reduceCtorEq,Int.reduceToNat,↓reduceIte]
  exact ⟨fun h => bool_eq (by simp [h]), fun h => bool_eq (by simp [h])⟩
def singleE (w : ByteArray) : Int := if w.size / 2 = 1 then ((atomAt w 0 / 8192 : Nat) : Int) else -1
theorem p_single (w : ByteArray) (hw : w.size ≤ 1000000) : PCalls Try.prog 69 [.str w] (.int .i64 (singleE w)) := by
  refine pcalls_of (by first | rfl | simp [free, free.frees, frees_str, frees_u8, frees_u16]) (by first | rfl | simp [free, free.frees, frees_str, frees_u8, frees_u16]) (acalls_of mixed J_ref08_single_ok (Nat.le_of_ble_eq_true rfl) ?_); simp only [J_ref08_single, wk,if_true,if_false,forall_const,implies_true,ne_eq,eq_self,Nat.reduceEqDiff,Nat.reduceAdd,Nat.reduceMul,Nat.reduceSub,Nat.reduceLeDiff,Nat.reduceLT,Int.reduceEq,Int.reduceLT,Int.reduceLE,Int.reduceAdd,Int.reduceSub,Int.reduceMul,Int.reduceNeg,Int.reduceNe,reduceCtorEq,Int.reduceToNat,↓reduceIte]
  refine PCalls.use (p_ratoms w (by omega)) ?_; simp only [wk,if_true,if_false,forall_const,implies_true,ne_eq,eq_self,Nat.reduceEqDiff,Nat.reduceAdd,Nat.reduceMul,Nat.reduceSub,Nat.reduceLeDiff,Nat.reduceLT,Int.reduceEq,Int.reduceLT,Int.reduceLE,Int.reduceAdd,Int.reduceSub,Int.reduceMul,Int.reduceNeg,Int.reduceNe,reduceCtorEq,Int.reduceToNat,↓reduceIte]
  refine ⟨fun h => int_eq (by unfold singleE; rw [if_neg (by omega)]), fun h => ⟨by omega, ?_⟩⟩
  have h1 : w.size / 2 = 1 := by omega
  rw [h1, show atomsL w 1 = [.int .u16 (atomAt w 0)] from rfl]
  simp only [wk,if_true,if_false,forall_const,implies_true,ne_eq,eq_self,Nat.reduceEqDiff,Nat.reduceAdd,Nat.reduceMul,Nat.reduceSub,Nat.reduceLeDiff,Nat.reduceLT,Int.reduceEq,Int.reduceLT,Int.reduceLE,Int.reduceAdd,Int.reduceSub,Int.reduceMul,Int.reduceNeg,Int.reduceNe,reduceCtorEq,Int.reduceToNat,↓reduceIte]
  refine PCalls.use (p_kind (atomAt w 0) (atomAt_lt w 0)) ?_; simp only [wk,if_true,if_false,forall_const,implies_true,ne_eq,eq_self,Nat.reduceEqDiff,Nat.reduceAdd,Nat.reduceMul,Nat.reduceSub,Nat.reduceLeDiff,Nat.reduceLT,Int.reduceEq,Int.reduceLT,Int.reduceLE,Int.reduceAdd,Int.reduceSub,Int.reduceMul,Int.reduceNeg,Int.reduceNe,reduceCtorEq,Int.reduceToNat,↓reduceIte]
  exact int_eq (by unfold singleE; rw [if_pos h1])
def rulesL (c : Crt) (l : List ByteArray) : List AV := l.flatMap fun w => [.str w, .str c.speaker]
theorem frees_rules (c : Crt) (l : List ByteArray) : free.frees (rulesL c l) = true := by
  unfold rulesL
  induction l with
  | nil => rfl
  | cons w l ih => simp only [List.flatMap_cons, List.cons_append, List.nil_append, free.frees, free, Bool.true_and, ih]
theorem rulesL_succ {c : Crt} {l : List ByteArray} {i : Nat} (h : i < l.length) : rulesL c (l.take (i + 1)) = rulesL c (l.take i) ++ [.str l[i], .str c.speaker] := by
  unfold rulesL
  rw [List.take_succ_eq_append_getElem h, List.flatMap_append]; rfl
theorem p_rules (c : Crt) (h : c.words.length ≤ 10000) : PCalls Try.prog 46 [vC c] (.lst .ro c.words.length (rulesL c c.words)) := by
  refine pcalls_of (by simp [free.frees, free_vC]) (by simp only [free]; exact frees_rules _ _) (ACalls.weak (acalls_of mixed J_cert_Rules_ok (Nat.le_of_ble_eq_true rfl) ?_)); simp only [J_cert_Rules, vC, cC, wk,if_true,if_false,forall_const,implies_true,ne_eq,eq_self,Nat.reduceEqDiff,Nat.reduceAdd,Nat.reduceMul,Nat.reduceSub,Nat.reduceLeDiff,Nat.reduceLT,Int.reduceEq,Int.reduceLT,Int.reduceLE,Int.reduceAdd,Int.reduceSub,Int.reduceMul,Int.reduceNeg,Int.reduceNe,reduceCtorEq,Int.reduceToNat,↓reduceIte]
  refine ⟨⟨by omega, by omega, by omega⟩, ?_⟩
  refine W_loop (fun n fr h => ∃ i : Nat, i ≤ c.words.length ∧ n = c.words.length - i ∧ h = [some (false, cC c)] ∧ fr = [(1, .ptr 0 0), (3, .lst (.own 29) i (rulesL c (c.words.take i))), (11, .lst .ro c.words.length (c.words.map .str)), (12, .int .i64 c.words.length), (13, .int .i64 i)]) c.words.length ⟨0, by omega, by omega, rfl, rfl⟩ ?_
  rintro n fr h ⟨i, hi, rfl, rfl, rfl⟩
  simp only [J_cert_Rules_j2, cC, wk,if_true,if_false,forall_const,implies_true,ne_eq,eq_self,Nat.reduceEqDiff,Nat.reduceAdd,Nat.reduceMul,Nat.reduceSub,Nat.reduceLeDiff,Nat.reduceLT,Int.reduceEq,Int.reduceLT,Int.reduceLE,Int.reduceAdd,Int.reduceSub,Int.reduceMul,Int.reduceNeg,Int.reduceNe,reduceCtorEq,Int.reduceToNat,↓reduceIte]
  refine ⟨fun hlt => ?_, fun hge => ?_⟩
  · have hil : i < c.words.length := by omega
    have hd : (c.words.map AV.str).drop (i : Int).toNat = .str c.words[i] :: (c.words.map AV.str).drop (i + 1) := by rw [show (i : Int).toNat = i by omega, drop_str hil]
    refine ⟨⟨by omega, by omega⟩, ?_⟩
    simp only [hd, wk,if_true,if_false,forall_const,implies_true,ne_eq,eq_self,Nat.reduceEqDiff,Nat.reduceAdd,Nat.reduceMul,Nat.reduceSub,Nat.reduceLeDiff,Nat.reduceLT,Int.reduceEq,Int.reduceLT,Int.reduceLE,Int.reduceAdd,Int.reduceSub,Int.reduceMul,Int.reduceNeg,Int.reduceNe,reduceCtorEq,Int.reduceToNat,↓reduceIte]
    refine ⟨⟨by omega, by omega⟩, inR_of (by omega) (by omega), c.words.length - (i + 1), by omega, i + 1, by omega, rfl, ?_⟩
    rw [rulesL_succ hil]; rfl
  · obtain rfl : i = c.words.length := by omega
    simp only [J_cert_Rules_j1, wk,if_true,if_false,forall_const,implies_true,ne_eq,eq_self,Nat.reduceEqDiff,Nat.reduceAdd,Nat.reduceMul,Nat.reduceSub,Nat.reduceLeDiff,Nat.reduceLT,Int.reduceEq,Int.reduceLT,Int.reduceLE,Int.reduceAdd,Int.reduceSub,Int.reduceMul,Int.reduceNeg,Int.reduceNe,reduceCtorEq,Int.reduceToNat,↓reduceIte]
    rw [List.take_length]
    exact ro_ro _ _
end Go.Proofs.Ytnmikopkjdekaaa

/- SetQuote, SetFor: the plain laws. -/
namespace Go.Proofs.Ytnmikopkjdekaaa
set_option linter.unusedSimpArgs false
set_option linter.unusedVariables false
open Go.RowKit Go.Lib

theorem ofE_ok {l : List ByteArray} (h : (ofE l).2 = 0) : ofE l = (nrm l, 0) := by
  unfold ofE at h ⊢
  split at h
  · cases h
  · next h1 =>
    split at h
    · next h2 => rw [if_neg h1, if_pos h2]
    · cases h
theorem quote_ok {a b : List ByteArray} (h : (quoteE a b).2 = 0) : setMay a = true ∧ setMay b = true ∧ (∀ w ∈ prodW a b, w.size / 2 ≤ 8) ∧ quoteE a b = (nrm (prodW a b), 0) ∧ setMay (nrm (prodW a b)) = true := by
  have hg := quoteE_good h
  unfold quoteE at h
  split at h
  · cases h
  · next h1 =>
    split at h
    · cases h
    · next h2 =>
      have e : quoteE a b = (nrm (prodW a b), 0) := by
        unfold quoteE
        rw [if_neg h1, if_neg h2, ofE_ok h]
      rw [e] at hg
      simp only [not_or, Bool.not_eq_false] at h1
      refine ⟨h1.1, h1.2, fun w hw => ?_, e, hg⟩
      rw [List.any_eq_true] at h2
      refine Nat.le_of_not_lt fun h8 => h2 ⟨w, hw, by simpa using h8⟩
theorem and_ok {a b : List ByteArray} (ha : setMay a = true) (hb : setMay b = true) (h : (andE a b).2 = 0) : andE a b = (nrm (a ++ b), 0) ∧ setMay (nrm (a ++ b)) = true := by
  by_cases h1 : (nrm (a ++ b)).length ≤ 16
  · exact and_fit ha hb h1
  · rw [and_many ha hb h1] at h; cases h
end Go.Proofs.Ytnmikopkjdekaaa

/- cert.delegate: a certificate of delegation. -/
namespace Go.Proofs.Ytnmikopkjdekaaa
set_option linter.unusedSimpArgs false
set_option linter.unusedVariables false
open Go.RowKit Go.Lib

theorem p_wwithin (w : ByteArray) (hw : w.size ≤ 1000000) (h : 2 ≤ w.size) : PCalls Try.prog 75 [.str w, .int .i64 0, .int .i64 1] (.bool true) := by
  refine pcalls_of (by first | rfl | simp [free, free.frees, frees_str, frees_u8, frees_u16]) (by first | rfl | simp [free, free.frees, frees_str, frees_u8, frees_u16]) (acalls_of mixed J_word_within_ok (Nat.le_of_ble_eq_true rfl) ?_); simp only [J_word_within, wk,if_true,if_false,forall_const,implies_true,ne_eq,eq_self,Nat.reduceEqDiff,Nat.reduceAdd,Nat.reduceMul,Nat.reduceSub,Nat.reduceLeDiff,Nat.reduceLT,Int.reduceEq,Int.reduceLT,Int.reduceLE,Int.reduceAdd,Int.reduceSub,Int.reduceMul,Int.reduceNeg,Int.reduceNe,reduceCtorEq,Int.reduceToNat,↓reduceIte]
  refine PCalls.use (p_wlen w (by omega)) ?_; simp only [wk,if_true,if_false,forall_const,implies_true,ne_eq,eq_self,Nat.reduceEqDiff,Nat.reduceAdd,Nat.reduceMul,Nat.reduceSub,Nat.reduceLeDiff,Nat.reduceLT,Int.reduceEq,Int.reduceLT,Int.reduceLE,Int.reduceAdd,Int.reduceSub,Int.reduceMul,Int.reduceNeg,Int.reduceNe,reduceCtorEq,Int.reduceToNat,↓reduceIte]
  refine ⟨fun _ => ?_, fun h0 => by omega⟩
  refine PCalls.use (p_wlen w (by omega)) ?_; simp only [wk,if_true,if_false,forall_const,implies_true,ne_eq,eq_self,Nat.reduceEqDiff,Nat.reduceAdd,Nat.reduceMul,Nat.reduceSub,Nat.reduceLeDiff,Nat.reduceLT,Int.reduceEq,Int.reduceLT,Int.reduceLE,Int.reduceAdd,Int.reduceSub,Int.reduceMul,Int.reduceNeg,Int.reduceNe,reduceCtorEq,Int.reduceToNat,↓reduceIte]
  exact ⟨inR_of (by omega) (by omega), bool_eq (decide_eq_true (by omega))⟩
def toldW (w : ByteArray) : ByteArray := atomW 1 ++ w.extract 2 w.size
theorem p_swap (w : ByteArray) (hev : w.size % 2 = 0) (hw : w.size ≤ 16) (h : 4 ≤ w.size) : PCalls Try.prog 72 [.str w, .int .i64 0, .int .i64 1, .str (atomW 1)] (.tup [.str (toldW w), .int .i64 0]) := by
  refine pcalls_of (by first | rfl | simp [free, free.frees, frees_str, frees_u8, frees_u16]) (by first | rfl | simp [free, free.frees, frees_str, frees_u8, frees_u16]) (acalls_of mixed J_word_Swap_ok (Nat.le_of_ble_eq_true rfl) ?_); simp only [J_word_Swap, wk,if_true,if_false,forall_const,implies_true,ne_eq,eq_self,Nat.reduceEqDiff,Nat.reduceAdd,Nat.reduceMul,Nat.reduceSub,Nat.reduceLeDiff,Nat.reduceLT,Int.reduceEq,Int.reduceLT,Int.reduceLE,Int.reduceAdd,Int.reduceSub,Int.reduceMul,Int.reduceNeg,Int.reduceNe,reduceCtorEq,Int.reduceToNat,↓reduceIte]
  refine PCalls.use (p_wodd w) ?_; simp only [wk,if_true,if_false,forall_const,implies_true,ne_eq,eq_self,Nat.reduceEqDiff,Nat.reduceAdd,Nat.reduceMul,Nat.reduceSub,Nat.reduceLeDiff,Nat.reduceLT,Int.reduceEq,Int.reduceLT,Int.reduceLE,Int.reduceAdd,Int.reduceSub,Int.reduceMul,Int.reduceNeg,Int.reduceNe,reduceCtorEq,Int.reduceToNat,↓reduceIte]
  refine ⟨fun _ => ?_, fun h0 => absurd hev h0⟩
  refine PCalls.use (p_wodd (atomW 1)) ?_; simp only [wk,if_true,if_false,forall_const,implies_true,ne_eq,eq_self,Nat.reduceEqDiff,Nat.reduceAdd,Nat.reduceMul,Nat.reduceSub,Nat.reduceLeDiff,Nat.reduceLT,Int.reduceEq,Int.reduceLT,Int.reduceLE,Int.reduceAdd,Int.reduceSub,Int.reduceMul,Int.reduceNeg,Int.reduceNe,reduceCtorEq,Int.reduceToNat,↓reduceIte]
  refine ⟨fun h0 => absurd rfl h0, fun _ => ?_⟩
  refine PCalls.use (p_wwithin w (by omega) (by omega)) ?_; simp only [wk,if_true,if_false,forall_const,implies_true,ne_eq,eq_self,Nat.reduceEqDiff,Nat.reduceAdd,Nat.reduceMul,Nat.reduceSub,Nat.reduceLeDiff,Nat.reduceLT,Int.reduceEq,Int.reduceLT,Int.reduceLE,Int.reduceAdd,Int.reduceSub,Int.reduceMul,Int.reduceNeg,Int.reduceNe,reduceCtorEq,Int.reduceToNat,↓reduceIte]
  refine PCalls.use (p_wlen w (by omega)) ?_; simp only [wk,if_true,if_false,forall_const,implies_true,ne_eq,eq_self,Nat.reduceEqDiff,Nat.reduceAdd,Nat.reduceMul,Nat.reduceSub,Nat.reduceLeDiff,Nat.reduceLT,Int.reduceEq,Int.reduceLT,Int.reduceLE,Int.reduceAdd,Int.reduceSub,Int.reduceMul,Int.reduceNeg,Int.reduceNe,reduceCtorEq,Int.reduceToNat,↓reduceIte]
  refine ⟨inR_of (by omega) (by omega), ?_⟩
  refine PCalls.use (p_wlen (atomW 1) (by decide)) ?_; simp only [wk,if_true,if_false,forall_const,implies_true,ne_eq,eq_self,Nat.reduceEqDiff,Nat.reduceAdd,Nat.reduceMul,Nat.reduceSub,Nat.reduceLeDiff,Nat.reduceLT,Int.reduceEq,Int.reduceLT,Int.reduceLE,Int.reduceAdd,Int.reduceSub,Int.reduceMul,Int.reduceNeg,Int.reduceNe,reduceCtorEq,Int.reduceToNat,↓reduceIte]
  have hD : (atomW 1).size = 2 := rfl
  rw [hD]
  refine ⟨inR_of (by omega) (by omega), fun h0 => by omega, fun _ => ?_⟩
  have e0 : w.extract 0 0 ++ atomW 1 = atomW 1 := by apply ByteArray.ext; apply Array.ext'; simp
  have e1 : (w.extract 0 0).size = 0 := by simp [ByteArray.size_extract]
  have e2 : (w.size : Int).toNat = w.size := by omega
  rw [e0, e1, e2, hD]
  refine ⟨inR_of (by omega) (by omega), by omega, by omega, inR_of (by omega) (by omega), inR_of (by omega) (by omega), ⟨by omega, by omega⟩, ?_, rfl⟩
  rw [ByteArray.size_extract]; omega
theorem q_wd : PCalls Try.prog 45 [.lst .ro 1 [.int .u16 1]] (.str (atomW 1)) := by
  have := p_wof [1] (by decide) (by decide)
  rw [atomBytes_one] at this
  exact this
def delegE (c : Crt) : Bool := decide (2 ≤ c.speaker.size / 2) && (decide ((ofE [c.speaker, toldW c.speaker]).2 = 0) && (withinE c.words (ofE [c.speaker, toldW c.speaker]).1 && withinE (ofE [c.speaker, toldW c.speaker]).1 c.words))
theorem told_size {w : ByteArray} (h : 2 ≤ w.size) : (toldW w).size = w.size := by
  unfold toldW
  rw [ByteArray.size_append, ByteArray.size_extract]
  have hD : (atomW 1).size = 2 := rfl
  omega
set_option maxRecDepth 100000 in
theorem p_deleg (c : Crt) (hm : wordMay c.speaker = true) (hs : setMay c.words = true) : PCalls Try.prog 67 [vC c] (.bool (delegE c)) := by
  have hsz := wordMay_even hm
  have hsm := smallS_nrm hs
  refine pcalls_of (by simp [free.frees, free_vC]) rfl (acalls_of mixed J_cert_delegate_ok (Nat.le_of_ble_eq_true rfl) ?_); simp only [J_cert_delegate, vC, cC, wk,if_true,if_false,forall_const,implies_true,ne_eq,eq_self,Nat.reduceEqDiff,Nat.reduceAdd,Nat.reduceMul,Nat.reduceSub,Nat.reduceLeDiff,Nat.reduceLT,Int.reduceEq,Int.reduceLT,Int.reduceLE,Int.reduceAdd,Int.reduceSub,Int.reduceMul,Int.reduceNeg,Int.reduceNe,reduceCtorEq,Int.reduceToNat,↓reduceIte]
  refine PCalls.use (p_wlen c.speaker (by omega)) ?_; simp only [wk,if_true,if_false,forall_const,implies_true,ne_eq,eq_self,Nat.reduceEqDiff,Nat.reduceAdd,Nat.reduceMul,Nat.reduceSub,Nat.reduceLeDiff,Nat.reduceLT,Int.reduceEq,Int.reduceLT,Int.reduceLE,Int.reduceAdd,Int.reduceSub,Int.reduceMul,Int.reduceNeg,Int.reduceNe,reduceCtorEq,Int.reduceToNat,↓reduceIte]
  refine ⟨fun h2 => bool_eq (by unfold delegE; rw [decide_eq_false (by omega)]; rfl), fun h2 => ?_⟩
  have hd : decide (2 ≤ c.speaker.size / 2) = true := decide_eq_true (by omega)
  refine ⟨_, q_wd, _, p_swap c.speaker hsz.1 hsz.2 (by omega), ?_⟩
  simp only [wk,if_true,if_false,forall_const,implies_true,ne_eq,eq_self,Nat.reduceEqDiff,Nat.reduceAdd,Nat.reduceMul,Nat.reduceSub,Nat.reduceLeDiff,Nat.reduceLT,Int.reduceEq,Int.reduceLT,Int.reduceLE,Int.reduceAdd,Int.reduceSub,Int.reduceMul,Int.reduceNeg,Int.reduceNe,reduceCtorEq,Int.reduceToNat,↓reduceIte]
  have hts := told_size (w := c.speaker) (by omega)
  have ho := p_sof [c.speaker, toldW c.speaker] (by simp) (by intro x hx; simp at hx; rcases hx with rfl | rfl <;> omega)
  refine PCalls.use ho ?_
  simp only [vSet, wk,if_true,if_false,forall_const,implies_true,ne_eq,eq_self,Nat.reduceEqDiff,Nat.reduceAdd,Nat.reduceMul,Nat.reduceSub,Nat.reduceLeDiff,Nat.reduceLT,Int.reduceEq,Int.reduceLT,Int.reduceLE,Int.reduceAdd,Int.reduceSub,Int.reduceMul,Int.reduceNeg,Int.reduceNe,reduceCtorEq,Int.reduceToNat,↓reduceIte]
  have hos := ofE_small [c.speaker, toldW c.speaker]
  refine ⟨fun h0 => ?_, fun h0 => bool_eq (by unfold delegE; rw [hd, decide_eq_false h0]; rfl)⟩
  have hg : setMay (ofE [c.speaker, toldW c.speaker]).1 = true := by
    have e := ofE_ok h0
    have := ofE_good e
    rw [e]; exact this
  refine PCalls.use (p_same c.words (ofE [c.speaker, toldW c.speaker]).1 (by omega) (by omega) hsm.2.2 (smallS_nrm hg).2.2) ?_; simp only [wk,if_true,if_false,forall_const,implies_true,ne_eq,eq_self,Nat.reduceEqDiff,Nat.reduceAdd,Nat.reduceMul,Nat.reduceSub,Nat.reduceLeDiff,Nat.reduceLT,Int.reduceEq,Int.reduceLT,Int.reduceLE,Int.reduceAdd,Int.reduceSub,Int.reduceMul,Int.reduceNeg,Int.reduceNe,reduceCtorEq,Int.reduceToNat,↓reduceIte]
  exact bool_eq (by unfold delegE; rw [hd, decide_eq_true h0]; rfl)
end Go.Proofs.Ytnmikopkjdekaaa

/- cert.like. -/
namespace Go.Proofs.Ytnmikopkjdekaaa
set_option linter.unusedSimpArgs false
set_option linter.unusedVariables false
open Go.RowKit Go.Lib

def kindAt (w : ByteArray) (i : Nat) : Int := ((atomAt w i / 8192 : Nat) : Int)
def aloneE (w : ByteArray) (l : List Int) : Bool := decide (w.size / 2 = 1) && hasI l (kindAt w 0)
def likeOne (c : Crt) (w : ByteArray) : Bool :=
  if c.kind = 1 then aloneE c.speaker [1] && (decide (w.size / 2 = 2) && (hasI [3] (kindAt w 0) && hasI [5] (kindAt w 1)))
  else if c.kind = 2 then aloneE c.speaker [1] && decide (w = atomW c.signer)
  else if c.kind = 3 then aloneE c.speaker [2]
  else if c.kind = 4 then aloneE c.speaker [3] && aloneE w [4]
  else if c.kind = 5 then aloneE c.speaker [1, 2] && (decide (2 ≤ w.size / 2) && hasI [5] (kindAt w (w.size / 2 - 1)))
  else false
def likeE (c : Crt) : Bool :=
  if c.kind = 6 then true else if c.kind = 7 then delegE c else match c.words with
    | [w] => likeOne c w
    | _ => false
set_option maxRecDepth 100000 in
set_option maxHeartbeats 2000000 in
theorem p_like (c : Crt) (hm : wordMay c.speaker = true) (hs : setMay c.words = true) (hg : c.signer < 65536) : PCalls Try.prog 62 [vC c] (.bool (likeE c)) := by
  have hsz := wordMay_even hm
  have hsm := setMay_small hs
  refine pcalls_of (by simp [free.frees, free_vC]) rfl (acalls_of mixed J_cert_like_ok (Nat.le_of_ble_eq_true rfl) ?_); simp only [J_cert_like, vC, cC, wk,if_true,if_false,forall_const,implies_true,ne_eq,eq_self,Nat.reduceEqDiff,Nat.reduceAdd,Nat.reduceMul,Nat.reduceSub,Nat.reduceLeDiff,Nat.reduceLT,Int.reduceEq,Int.reduceLT,Int.reduceLE,Int.reduceAdd,Int.reduceSub,Int.reduceMul,Int.reduceNeg,Int.reduceNe,reduceCtorEq,Int.reduceToNat,↓reduceIte]
  refine ⟨fun h6 => bool_eq (by simp [likeE, h6]), fun h6 => ⟨fun h7 => ?_, fun h7 => ⟨fun h1 => bool_eq ?_, fun h1 => ⟨by omega, ?_⟩⟩⟩⟩
  · have hp := p_deleg c hm hs
    unfold vC cC at hp
    refine PCalls.use (hp) ?_; simp only [wk,if_true,if_false,forall_const,implies_true,ne_eq,eq_self,Nat.reduceEqDiff,Nat.reduceAdd,Nat.reduceMul,Nat.reduceSub,Nat.reduceLeDiff,Nat.reduceLT,Int.reduceEq,Int.reduceLT,Int.reduceLE,Int.reduceAdd,Int.reduceSub,Int.reduceMul,Int.reduceNeg,Int.reduceNe,reduceCtorEq,Int.reduceToNat,↓reduceIte]
    exact bool_eq (by unfold likeE; rw [if_neg h6, if_pos h7])
  · unfold likeE
    rw [if_neg h6, if_neg h7]
    split
    · next w e => rw [e] at h1; exact absurd rfl h1
    · rfl
  obtain ⟨w, hw⟩ : ∃ w, c.words = [w] := by
    cases e : c.words with
    | nil => rw [e] at h1; cases h1
    | cons w l =>
      cases l with
      | nil => exact ⟨w, rfl⟩
      | cons x l => rw [e] at h1; simp at h1; omega
  have hL : likeE c = likeOne c w := by unfold likeE; rw [if_neg h6, if_neg h7, hw]
  have hwz : w.size ≤ 16 := hsm.2 w (by rw [hw]; simp)
  have hmw := (setMay_words hs).2 w (by rw [hw]; simp)
  rw [hL]
  simp only [hw, List.map_cons, List.map_nil, wk,if_true,if_false,forall_const,implies_true,ne_eq,eq_self,Nat.reduceEqDiff,Nat.reduceAdd,Nat.reduceMul,Nat.reduceSub,Nat.reduceLeDiff,Nat.reduceLT,Int.reduceEq,Int.reduceLT,Int.reduceLE,Int.reduceAdd,Int.reduceSub,Int.reduceMul,Int.reduceNeg,Int.reduceNe,reduceCtorEq,Int.reduceToNat,↓reduceIte]
  refine PCalls.use (p_wlen w (by omega)) ?_; simp only [wk,if_true,if_false,forall_const,implies_true,ne_eq,eq_self,Nat.reduceEqDiff,Nat.reduceAdd,Nat.reduceMul,Nat.reduceSub,Nat.reduceLeDiff,Nat.reduceLT,Int.reduceEq,Int.reduceLT,Int.reduceLE,Int.reduceAdd,Int.reduceSub,Int.reduceMul,Int.reduceNeg,Int.reduceNe,reduceCtorEq,Int.reduceToNat,↓reduceIte]
  have qa : ∀ (s : ByteArray) (l : List Int), s.size ≤ 16 → l.length ≤ 2 → PCalls Try.prog 68 [.str s, .lst .ro l.length (l.map (.int .i64))] (.bool (aloneE s l)) := fun s l hz hl => p_alone s l (by omega) (by omega)
  have qo : ∀ (i : Nat) (l : List Int), l.length ≤ 2 → PCalls Try.prog 60 [.int .u16 (atomAt w i), .lst .ro l.length (l.map (.int .i64))] (.bool (hasI l (kindAt w i))) := fun i l hl => p_isOf (atomAt w i) l (atomAt_lt w i) (by omega)
  refine ⟨fun k1 => ?_, fun k1 => ⟨fun k2 => ?_, fun k2 => ⟨fun k3 => ?_, fun k3 => ⟨fun k4 => ?_, fun k4 => ⟨fun k5 => ?_, fun k5 => bool_eq ?_⟩⟩⟩⟩⟩
  · have e : likeOne c w = (aloneE c.speaker [1] && (decide (w.size / 2 = 2) && (hasI [3] (kindAt w 0) && hasI [5] (kindAt w 1)))) := by unfold likeOne; rw [if_pos k1]
    rw [e]
    refine PCalls.use (qa c.speaker [1] hsz.2 (by simp)) ?_; simp only [wk,if_true,if_false,forall_const,implies_true,ne_eq,eq_self,Nat.reduceEqDiff,Nat.reduceAdd,Nat.reduceMul,Nat.reduceSub,Nat.reduceLeDiff,Nat.reduceLT,Int.reduceEq,Int.reduceLT,Int.reduceLE,Int.reduceAdd,Int.reduceSub,Int.reduceMul,Int.reduceNeg,Int.reduceNe,reduceCtorEq,Int.reduceToNat,↓reduceIte]
    cases ha : aloneE c.speaker [1] with
    | false => simp only [wk,if_true,if_false,forall_const,implies_true,ne_eq,eq_self,Nat.reduceEqDiff,Nat.reduceAdd,Nat.reduceMul,Nat.reduceSub,Nat.reduceLeDiff,Nat.reduceLT,Int.reduceEq,Int.reduceLT,Int.reduceLE,Int.reduceAdd,Int.reduceSub,Int.reduceMul,Int.reduceNeg,Int.reduceNe,reduceCtorEq,Int.reduceToNat,↓reduceIte]; rfl
    | true =>
      simp only [wk,if_true,if_false,forall_const,implies_true,ne_eq,eq_self,Nat.reduceEqDiff,Nat.reduceAdd,Nat.reduceMul,Nat.reduceSub,Nat.reduceLeDiff,Nat.reduceLT,Int.reduceEq,Int.reduceLT,Int.reduceLE,Int.reduceAdd,Int.reduceSub,Int.reduceMul,Int.reduceNeg,Int.reduceNe,reduceCtorEq,Int.reduceToNat,↓reduceIte]
      refine ⟨fun h2 => ?_, fun h2 => bool_eq (by rw [decide_eq_false (by omega)]; rfl)⟩
      refine PCalls.use (p_wat w 0 (by omega) (by omega)) ?_; simp only [wk,if_true,if_false,forall_const,implies_true,ne_eq,eq_self,Nat.reduceEqDiff,Nat.reduceAdd,Nat.reduceMul,Nat.reduceSub,Nat.reduceLeDiff,Nat.reduceLT,Int.reduceEq,Int.reduceLT,Int.reduceLE,Int.reduceAdd,Int.reduceSub,Int.reduceMul,Int.reduceNeg,Int.reduceNe,reduceCtorEq,Int.reduceToNat,↓reduceIte]
      refine PCalls.use (qo 0 [3] (by simp)) ?_; simp only [wk,if_true,if_false,forall_const,implies_true,ne_eq,eq_self,Nat.reduceEqDiff,Nat.reduceAdd,Nat.reduceMul,Nat.reduceSub,Nat.reduceLeDiff,Nat.reduceLT,Int.reduceEq,Int.reduceLT,Int.reduceLE,Int.reduceAdd,Int.reduceSub,Int.reduceMul,Int.reduceNeg,Int.reduceNe,reduceCtorEq,Int.reduceToNat,↓reduceIte]
      rw [decide_eq_true (show w.size / 2 = 2 by omega)]
      cases h3 : hasI [3] (kindAt w 0) with
      | false => simp only [wk,if_true,if_false,forall_const,implies_true,ne_eq,eq_self,Nat.reduceEqDiff,Nat.reduceAdd,Nat.reduceMul,Nat.reduceSub,Nat.reduceLeDiff,Nat.reduceLT,Int.reduceEq,Int.reduceLT,Int.reduceLE,Int.reduceAdd,Int.reduceSub,Int.reduceMul,Int.reduceNeg,Int.reduceNe,reduceCtorEq,Int.reduceToNat,↓reduceIte]; rfl
      | true =>
        simp only [wk,if_true,if_false,forall_const,implies_true,ne_eq,eq_self,Nat.reduceEqDiff,Nat.reduceAdd,Nat.reduceMul,Nat.reduceSub,Nat.reduceLeDiff,Nat.reduceLT,Int.reduceEq,Int.reduceLT,Int.reduceLE,Int.reduceAdd,Int.reduceSub,Int.reduceMul,Int.reduceNeg,Int.reduceNe,reduceCtorEq,Int.reduceToNat,↓reduceIte]
        refine PCalls.use (p_wat w 1 (by omega) (by omega)) ?_; simp only [wk,if_true,if_false,forall_const,implies_true,ne_eq,eq_self,Nat.reduceEqDiff,Nat.reduceAdd,Nat.reduceMul,Nat.reduceSub,Nat.reduceLeDiff,Nat.reduceLT,Int.reduceEq,Int.reduceLT,Int.reduceLE,Int.reduceAdd,Int.reduceSub,Int.reduceMul,Int.reduceNeg,Int.reduceNe,reduceCtorEq,Int.reduceToNat,↓reduceIte]
        refine PCalls.use (qo 1 [5] (by simp)) ?_; simp only [wk,if_true,if_false,forall_const,implies_true,ne_eq,eq_self,Nat.reduceEqDiff,Nat.reduceAdd,Nat.reduceMul,Nat.reduceSub,Nat.reduceLeDiff,Nat.reduceLT,Int.reduceEq,Int.reduceLT,Int.reduceLE,Int.reduceAdd,Int.reduceSub,Int.reduceMul,Int.reduceNeg,Int.reduceNe,reduceCtorEq,Int.reduceToNat,↓reduceIte]
        rfl
  · have e : likeOne c w = (aloneE c.speaker [1] && decide (w = atomW c.signer)) := by unfold likeOne; rw [if_neg k1, if_pos k2]
    rw [e]
    refine PCalls.use (qa c.speaker [1] hsz.2 (by simp)) ?_; simp only [wk,if_true,if_false,forall_const,implies_true,ne_eq,eq_self,Nat.reduceEqDiff,Nat.reduceAdd,Nat.reduceMul,Nat.reduceSub,Nat.reduceLeDiff,Nat.reduceLT,Int.reduceEq,Int.reduceLT,Int.reduceLE,Int.reduceAdd,Int.reduceSub,Int.reduceMul,Int.reduceNeg,Int.reduceNe,reduceCtorEq,Int.reduceToNat,↓reduceIte]
    cases ha : aloneE c.speaker [1] with
    | false => simp only [wk,if_true,if_false,forall_const,implies_true,ne_eq,eq_self,Nat.reduceEqDiff,Nat.reduceAdd,Nat.reduceMul,Nat.reduceSub,Nat.reduceLeDiff,Nat.reduceLT,Int.reduceEq,Int.reduceLT,Int.reduceLE,Int.reduceAdd,Int.reduceSub,Int.reduceMul,Int.reduceNeg,Int.reduceNe,reduceCtorEq,Int.reduceToNat,↓reduceIte]; rfl
    | true =>
      simp only [wk,if_true,if_false,forall_const,implies_true,ne_eq,eq_self,Nat.reduceEqDiff,Nat.reduceAdd,Nat.reduceMul,Nat.reduceSub,Nat.reduceLeDiff,Nat.reduceLT,Int.reduceEq,Int.reduceLT,Int.reduceLE,Int.reduceAdd,Int.reduceSub,Int.reduceMul,Int.reduceNeg,Int.reduceNe,reduceCtorEq,Int.reduceToNat,↓reduceIte]
      refine PCalls.use (p_wof [c.signer] (by simp) (by simpa using hg)) ?_; simp only [wk,if_true,if_false,forall_const,implies_true,ne_eq,eq_self,Nat.reduceEqDiff,Nat.reduceAdd,Nat.reduceMul,Nat.reduceSub,Nat.reduceLeDiff,Nat.reduceLT,Int.reduceEq,Int.reduceLT,Int.reduceLE,Int.reduceAdd,Int.reduceSub,Int.reduceMul,Int.reduceNeg,Int.reduceNe,reduceCtorEq,Int.reduceToNat,↓reduceIte]
      rw [atomBytes_one]
      rfl
  · have e : likeOne c w = aloneE c.speaker [2] := by unfold likeOne; rw [if_neg k1, if_neg k2, if_pos k3]
    rw [e]
    refine PCalls.use (qa c.speaker [2] hsz.2 (by simp)) ?_; simp only [wk,if_true,if_false,forall_const,implies_true,ne_eq,eq_self,Nat.reduceEqDiff,Nat.reduceAdd,Nat.reduceMul,Nat.reduceSub,Nat.reduceLeDiff,Nat.reduceLT,Int.reduceEq,Int.reduceLT,Int.reduceLE,Int.reduceAdd,Int.reduceSub,Int.reduceMul,Int.reduceNeg,Int.reduceNe,reduceCtorEq,Int.reduceToNat,↓reduceIte]
  · have e : likeOne c w = (aloneE c.speaker [3] && aloneE w [4]) := by unfold likeOne; rw [if_neg k1, if_neg k2, if_neg k3, if_pos k4]
    rw [e]
    refine PCalls.use (qa c.speaker [3] hsz.2 (by simp)) ?_; simp only [wk,if_true,if_false,forall_const,implies_true,ne_eq,eq_self,Nat.reduceEqDiff,Nat.reduceAdd,Nat.reduceMul,Nat.reduceSub,Nat.reduceLeDiff,Nat.reduceLT,Int.reduceEq,Int.reduceLT,Int.reduceLE,Int.reduceAdd,Int.reduceSub,Int.reduceMul,Int.reduceNeg,Int.reduceNe,reduceCtorEq,Int.reduceToNat,↓reduceIte]
    cases ha : aloneE c.speaker [3] with
    | false => simp only [wk,if_true,if_false,forall_const,implies_true,ne_eq,eq_self,Nat.reduceEqDiff,Nat.reduceAdd,Nat.reduceMul,Nat.reduceSub,Nat.reduceLeDiff,Nat.reduceLT,Int.reduceEq,Int.reduceLT,Int.reduceLE,Int.reduceAdd,Int.reduceSub,Int.reduceMul,Int.reduceNeg,Int.reduceNe,reduceCtorEq,Int.reduceToNat,↓reduceIte]; rfl
    | true =>
      simp only [wk,if_true,if_false,forall_const,implies_true,ne_eq,eq_self,Nat.reduceEqDiff,Nat.reduceAdd,Nat.reduceMul,Nat.reduceSub,Nat.reduceLeDiff,Nat.reduceLT,Int.reduceEq,Int.reduceLT,Int.reduceLE,Int.reduceAdd,Int.reduceSub,Int.reduceMul,Int.reduceNeg,Int.reduceNe,reduceCtorEq,Int.reduceToNat,↓reduceIte]
      refine PCalls.use (qa w [4] hwz (by simp)) ?_; simp only [wk,if_true,if_false,forall_const,implies_true,ne_eq,eq_self,Nat.reduceEqDiff,Nat.reduceAdd,Nat.reduceMul,Nat.reduceSub,Nat.reduceLeDiff,Nat.reduceLT,Int.reduceEq,Int.reduceLT,Int.reduceLE,Int.reduceAdd,Int.reduceSub,Int.reduceMul,Int.reduceNeg,Int.reduceNe,reduceCtorEq,Int.reduceToNat,↓reduceIte]
      rfl
  · have e : likeOne c w = (aloneE c.speaker [1, 2] && (decide (2 ≤ w.size / 2) && hasI [5] (kindAt w (w.size / 2 - 1)))) := by unfold likeOne; rw [if_neg k1, if_neg k2, if_neg k3, if_neg k4, if_pos k5]
    rw [e]
    refine PCalls.use (qa c.speaker [1, 2] hsz.2 (by simp)) ?_; simp only [wk,if_true,if_false,forall_const,implies_true,ne_eq,eq_self,Nat.reduceEqDiff,Nat.reduceAdd,Nat.reduceMul,Nat.reduceSub,Nat.reduceLeDiff,Nat.reduceLT,Int.reduceEq,Int.reduceLT,Int.reduceLE,Int.reduceAdd,Int.reduceSub,Int.reduceMul,Int.reduceNeg,Int.reduceNe,reduceCtorEq,Int.reduceToNat,↓reduceIte]
    cases ha : aloneE c.speaker [1, 2] with
    | false => simp only [wk,if_true,if_false,forall_const,implies_true,ne_eq,eq_self,Nat.reduceEqDiff,Nat.reduceAdd,Nat.reduceMul,Nat.reduceSub,Nat.reduceLeDiff,Nat.reduceLT,Int.reduceEq,Int.reduceLT,Int.reduceLE,Int.reduceAdd,Int.reduceSub,Int.reduceMul,Int.reduceNeg,Int.reduceNe,reduceCtorEq,Int.reduceToNat,↓reduceIte]; rfl
    | true =>
      simp only [wk,if_true,if_false,forall_const,implies_true,ne_eq,eq_self,Nat.reduceEqDiff,Nat.reduceAdd,Nat.reduceMul,Nat.reduceSub,Nat.reduceLeDiff,Nat.reduceLT,Int.reduceEq,Int.reduceLT,Int.reduceLE,Int.reduceAdd,Int.reduceSub,Int.reduceMul,Int.reduceNeg,Int.reduceNe,reduceCtorEq,Int.reduceToNat,↓reduceIte]
      refine ⟨fun h2 => ?_, fun h2 => bool_eq (by rw [decide_eq_false (by omega)]; rfl)⟩
      refine ⟨inR_of (by omega) (by omega), ?_⟩
      rw [show ((w.size / 2 : Nat) : Int) - 1 = ((w.size / 2 - 1 : Nat) : Int) by omega]
      refine PCalls.use (p_wat w (w.size / 2 - 1) (by omega) (by omega)) ?_; simp only [wk,if_true,if_false,forall_const,implies_true,ne_eq,eq_self,Nat.reduceEqDiff,Nat.reduceAdd,Nat.reduceMul,Nat.reduceSub,Nat.reduceLeDiff,Nat.reduceLT,Int.reduceEq,Int.reduceLT,Int.reduceLE,Int.reduceAdd,Int.reduceSub,Int.reduceMul,Int.reduceNeg,Int.reduceNe,reduceCtorEq,Int.reduceToNat,↓reduceIte]
      refine PCalls.use (qo (w.size / 2 - 1) [5] (by simp)) ?_; simp only [wk,if_true,if_false,forall_const,implies_true,ne_eq,eq_self,Nat.reduceEqDiff,Nat.reduceAdd,Nat.reduceMul,Nat.reduceSub,Nat.reduceLeDiff,Nat.reduceLT,Int.reduceEq,Int.reduceLT,Int.reduceLE,Int.reduceAdd,Int.reduceSub,Int.reduceMul,Int.reduceNeg,Int.reduceNe,reduceCtorEq,Int.reduceToNat,↓reduceIte]
      rw [decide_eq_true (show 2 ≤ w.size / 2 by omega)]
      rfl
  · unfold likeOne; rw [if_neg k1, if_neg k2, if_neg k3, if_neg k4, if_neg k5]
end Go.Proofs.Ytnmikopkjdekaaa

/- cert.Check. -/
namespace Go.Proofs.Ytnmikopkjdekaaa
set_option linter.unusedSimpArgs false
set_option linter.unusedVariables false
open Go.RowKit Go.Lib

def checkE (c : Crt) : Int :=
  if c.kind < 1 ∨ 7 < c.kind then 1
  else if hasI [1] ((c.signer / 8192 : Nat) : Int) = true ∧ wordMay c.speaker = true ∧ setMay c.words = true ∧ numL [c.since, c.till, c.serial] = true then
    (if c.till < c.since then 5 else if c.words.any (fun w => decide (w.size / 2 < c.speaker.size / 2)) = true then 4 else if likeE c = true then 0 else 13)
  else 2
def smallC (c : Crt) : Prop := c.signer < 65536 ∧ c.speaker.size ≤ 1000000 ∧ c.words.length ≤ 10000 ∧ ∀ x ∈ c.words, x.size ≤ 1000000
set_option maxRecDepth 100000 in
set_option maxHeartbeats 2000000 in
theorem p_check (c : Crt) (h : smallC c) : PCalls Try.prog 44 [vC c] (.int .i64 (checkE c)) := by
  obtain ⟨hg, hz, hl, hx⟩ := h
  refine pcalls_of (by simp [free.frees, free_vC]) rfl (acalls_of mixed J_cert_Check_ok (Nat.le_of_ble_eq_true rfl) ?_); simp only [J_cert_Check, vC, cC, wk,if_true,if_false,forall_const,implies_true,ne_eq,eq_self,Nat.reduceEqDiff,Nat.reduceAdd,Nat.reduceMul,Nat.reduceSub,Nat.reduceLeDiff,Nat.reduceLT,Int.reduceEq,Int.reduceLT,Int.reduceLE,Int.reduceAdd,Int.reduceSub,Int.reduceMul,Int.reduceNeg,Int.reduceNe,reduceCtorEq,Int.reduceToNat,↓reduceIte]
  have e1 : c.kind < 1 ∨ 7 < c.kind → AV.int .i64 1 = .int .i64 (checkE c) := fun h => int_eq (by unfold checkE; rw [if_pos h])
  have e2 : ¬ (c.kind < 1 ∨ 7 < c.kind) → ¬ (hasI [1] ((c.signer / 8192 : Nat) : Int) = true ∧ wordMay c.speaker = true ∧ setMay c.words = true ∧ numL [c.since, c.till, c.serial] = true) → AV.int .i64 2 = .int .i64 (checkE c) := fun h h' => int_eq (by unfold checkE; rw [if_neg h, if_neg h'])
  refine ⟨fun k1 => ⟨fun k2 => e1 (.inr k2), fun k2 => ?_⟩, fun k1 => e1 (.inl k1)⟩
  have hk : ¬ (c.kind < 1 ∨ 7 < c.kind) := by omega
  refine PCalls.use (p_isOf c.signer [1] hg (by simp)) ?_; simp only [wk,if_true,if_false,forall_const,implies_true,ne_eq,eq_self,Nat.reduceEqDiff,Nat.reduceAdd,Nat.reduceMul,Nat.reduceSub,Nat.reduceLeDiff,Nat.reduceLT,Int.reduceEq,Int.reduceLT,Int.reduceLE,Int.reduceAdd,Int.reduceSub,Int.reduceMul,Int.reduceNeg,Int.reduceNe,reduceCtorEq,Int.reduceToNat,↓reduceIte]
  refine ⟨fun a1 => ?_, fun a1 => e2 hk (fun h => by rw [a1] at h; exact absurd h.1 (by simp))⟩
  refine PCalls.use (p_wmay c.speaker (by omega)) ?_; simp only [wk,if_true,if_false,forall_const,implies_true,ne_eq,eq_self,Nat.reduceEqDiff,Nat.reduceAdd,Nat.reduceMul,Nat.reduceSub,Nat.reduceLeDiff,Nat.reduceLT,Int.reduceEq,Int.reduceLT,Int.reduceLE,Int.reduceAdd,Int.reduceSub,Int.reduceMul,Int.reduceNeg,Int.reduceNe,reduceCtorEq,Int.reduceToNat,↓reduceIte]
  refine ⟨fun a2 => ?_, fun a2 => e2 hk (fun h => by rw [a2] at h; exact absurd h.2.1 (by simp))⟩
  refine PCalls.use (p_smay c.words (by omega) (fun x q => by have := hx x q; omega)) ?_; simp only [wk,if_true,if_false,forall_const,implies_true,ne_eq,eq_self,Nat.reduceEqDiff,Nat.reduceAdd,Nat.reduceMul,Nat.reduceSub,Nat.reduceLeDiff,Nat.reduceLT,Int.reduceEq,Int.reduceLT,Int.reduceLE,Int.reduceAdd,Int.reduceSub,Int.reduceMul,Int.reduceNeg,Int.reduceNe,reduceCtorEq,Int.reduceToNat,↓reduceIte]
  refine ⟨fun a3 => ?_, fun a3 => e2 hk (fun h => by rw [a3] at h; exact absurd h.2.2.1 (by simp))⟩
  refine PCalls.use (p_cnum [c.since, c.till, c.serial] (by simp)) ?_; simp only [wk,if_true,if_false,forall_const,implies_true,ne_eq,eq_self,Nat.reduceEqDiff,Nat.reduceAdd,Nat.reduceMul,Nat.reduceSub,Nat.reduceLeDiff,Nat.reduceLT,Int.reduceEq,Int.reduceLT,Int.reduceLE,Int.reduceAdd,Int.reduceSub,Int.reduceMul,Int.reduceNeg,Int.reduceNe,reduceCtorEq,Int.reduceToNat,↓reduceIte]
  refine ⟨fun a4 => e2 hk (fun h => by rw [a4] at h; exact absurd h.2.2.2 (by simp)), fun a4 => ?_⟩
  have e3 : checkE c = (if c.till < c.since then 5 else if c.words.any (fun w => decide (w.size / 2 < c.speaker.size / 2)) = true then 4 else if likeE c = true then 0 else 13) := by
    unfold checkE; rw [if_neg hk, if_pos ⟨a1, a2, a3, a4⟩]
  refine ⟨fun a5 => int_eq (by rw [e3, if_pos a5]), fun a5 => ?_⟩
  rw [if_neg a5] at e3
  refine W_loop (fun n fr h => ∃ i : Nat, i ≤ c.words.length ∧ n = c.words.length - i ∧ h = [some (false, cC c)] ∧ fr = [(1, .ptr 0 0), (47, .lst .ro c.words.length (c.words.map .str)), (48, .int .i64 c.words.length), (49, .int .i64 i)] ∧ ∀ w ∈ c.words.take i, ¬ w.size / 2 < c.speaker.size / 2) c.words.length ⟨0, by omega, by omega, rfl, rfl, by simp⟩ ?_
  rintro n fr h ⟨i, hi, rfl, rfl, rfl, hall⟩
  simp only [J_cert_Check_j2, cC, wk,if_true,if_false,forall_const,implies_true,ne_eq,eq_self,Nat.reduceEqDiff,Nat.reduceAdd,Nat.reduceMul,Nat.reduceSub,Nat.reduceLeDiff,Nat.reduceLT,Int.reduceEq,Int.reduceLT,Int.reduceLE,Int.reduceAdd,Int.reduceSub,Int.reduceMul,Int.reduceNeg,Int.reduceNe,reduceCtorEq,Int.reduceToNat,↓reduceIte]
  refine ⟨fun hlt => ?_, fun hge => ?_⟩
  · have hil : i < c.words.length := by omega
    have hd : (c.words.map AV.str).drop (i : Int).toNat = .str c.words[i] :: (c.words.map AV.str).drop (i + 1) := by rw [show (i : Int).toNat = i by omega, drop_str hil]
    have z := hx _ (List.getElem_mem hil)
    refine ⟨⟨by omega, by omega⟩, ?_⟩
    simp only [hd, wk,if_true,if_false,forall_const,implies_true,ne_eq,eq_self,Nat.reduceEqDiff,Nat.reduceAdd,Nat.reduceMul,Nat.reduceSub,Nat.reduceLeDiff,Nat.reduceLT,Int.reduceEq,Int.reduceLT,Int.reduceLE,Int.reduceAdd,Int.reduceSub,Int.reduceMul,Int.reduceNeg,Int.reduceNe,reduceCtorEq,Int.reduceToNat,↓reduceIte]
    refine PCalls.use (p_wlen c.speaker (by omega)) ?_; simp only [wk,if_true,if_false,forall_const,implies_true,ne_eq,eq_self,Nat.reduceEqDiff,Nat.reduceAdd,Nat.reduceMul,Nat.reduceSub,Nat.reduceLeDiff,Nat.reduceLT,Int.reduceEq,Int.reduceLT,Int.reduceLE,Int.reduceAdd,Int.reduceSub,Int.reduceMul,Int.reduceNeg,Int.reduceNe,reduceCtorEq,Int.reduceToNat,↓reduceIte]
    refine PCalls.use (p_wlen c.words[i] (by omega)) ?_; simp only [wk,if_true,if_false,forall_const,implies_true,ne_eq,eq_self,Nat.reduceEqDiff,Nat.reduceAdd,Nat.reduceMul,Nat.reduceSub,Nat.reduceLeDiff,Nat.reduceLT,Int.reduceEq,Int.reduceLT,Int.reduceLE,Int.reduceAdd,Int.reduceSub,Int.reduceMul,Int.reduceNeg,Int.reduceNe,reduceCtorEq,Int.reduceToNat,↓reduceIte]
    refine ⟨fun h4 => int_eq ?_, fun h4 => ⟨inR_of (by omega) (by omega), c.words.length - (i + 1), by omega, i + 1, by omega, rfl, rfl, fun w hw => ?_⟩⟩
    · rw [e3, if_pos]
      rw [List.any_eq_true]
      exact ⟨_, List.getElem_mem hil, by simp; omega⟩
    · rcases (take_mem_succ hil).1 hw with h | h
      · exact hall w h
      · subst h; omega
  · rw [List.take_of_length_le (by omega)] at hall
    have e4 : ¬ (c.words.any (fun w => decide (w.size / 2 < c.speaker.size / 2)) = true) := by
      rw [List.any_eq_true]
      rintro ⟨w, hw, h1⟩
      simp only [decide_eq_true_eq] at h1
      exact hall w hw h1
    rw [if_neg e4] at e3
    simp only [J_cert_Check_j1, wk,if_true,if_false,forall_const,implies_true,ne_eq,eq_self,Nat.reduceEqDiff,Nat.reduceAdd,Nat.reduceMul,Nat.reduceSub,Nat.reduceLeDiff,Nat.reduceLT,Int.reduceEq,Int.reduceLT,Int.reduceLE,Int.reduceAdd,Int.reduceSub,Int.reduceMul,Int.reduceNeg,Int.reduceNe,reduceCtorEq,Int.reduceToNat,↓reduceIte]
    have hp := p_like c a2 a3 hg
    unfold vC cC at hp
    refine PCalls.use (hp) ?_; simp only [wk,if_true,if_false,forall_const,implies_true,ne_eq,eq_self,Nat.reduceEqDiff,Nat.reduceAdd,Nat.reduceMul,Nat.reduceSub,Nat.reduceLeDiff,Nat.reduceLT,Int.reduceEq,Int.reduceLT,Int.reduceLE,Int.reduceAdd,Int.reduceSub,Int.reduceMul,Int.reduceNeg,Int.reduceNe,reduceCtorEq,Int.reduceToNat,↓reduceIte]
    refine ⟨fun h0 => int_eq ?_, fun h0 => int_eq ?_⟩
    · rw [e3, if_neg (by rw [h0]; simp)]
    · rw [e3, if_pos h0]
end Go.Proofs.Ytnmikopkjdekaaa

/- The reference's like. -/
namespace Go.Proofs.Ytnmikopkjdekaaa
set_option linter.unusedSimpArgs false
set_option linter.unusedVariables false
open Go.RowKit Go.Lib

theorem word_one {w : ByteArray} (h : w.size = 2) : w = atomW (atomAt w 0) := by
  have := atomBytes_atoms (s := w) (by omega)
  rw [show atomNs w = [atomAt w 0] by unfold atomNs; rw [h]; rfl] at this
  rw [← atomBytes_one]
  apply ByteArray.ext
  apply Array.ext'
  simpa using this.symm
theorem atom_back {a : Nat} (h : a < 65536) : atomAt (atomW a) 0 = a := by
  have e : atomAt (atomW a) 0 = (UInt8.ofNat (a / 256)).toNat * 256 + (UInt8.ofNat (a % 256)).toNat := rfl
  rw [e]
  simp
  omega
theorem one_is {w : ByteArray} {a : Nat} (h : w.size = 2) (ha : a < 65536) : (atomAt w 0 = a) ↔ w = atomW a := by
  constructor
  · intro e; rw [← e]; exact word_one h
  · intro e; rw [e]; exact atom_back ha
theorem told_eq {s : ByteArray} (h : s.size % 2 = 0) (h2 : 2 ≤ s.size) : (⟨(atomBytes (1 :: (atomNs s).drop 1)).toArray⟩ : ByteArray) = toldW s := by
  have hb := atomBytes_atoms h
  cases hn : atomNs s with
  | nil => have := atomNs_len s; rw [hn] at this; simp at this; omega
  | cons a r =>
    rw [hn] at hb
    have e1 : atomBytes (a :: r) = [UInt8.ofNat (a / 256), UInt8.ofNat (a % 256)] ++ atomBytes r := by simp [atomBytes]
    rw [e1] at hb
    have e2 : atomBytes r = s.data.toList.drop 2 := by rw [← hb]; rfl
    have e3 : atomBytes (1 :: r) = [UInt8.ofNat (1 / 256), UInt8.ofNat (1 % 256)] ++ atomBytes r := by simp [atomBytes]
    apply ByteArray.ext
    apply Array.ext'
    unfold toldW
    simp only [List.drop_succ_cons, List.drop_zero, e3, e2, ByteArray.data_append, Array.toList_append, ByteArray.data_extract, Array.toList_extract]
    rw [List.extract_eq_take_drop, List.take_of_length_le (by rw [List.length_drop]; exact Nat.le_refl _)]
    rfl
theorem deleg_eq {c : Crt} (hm : wordMay c.speaker = true) (hs : setMay c.words = true) (h2 : 2 ≤ c.speaker.size / 2) : delegE c = decide (c.words = nrm [c.speaker, toldW c.speaker]) := by
  unfold delegE
  rw [decide_eq_true h2, Bool.true_and]
  by_cases e : c.words = nrm [c.speaker, toldW c.speaker]
  · have hall : ∀ x ∈ [c.speaker, toldW c.speaker], wordMay x = true := fun x hx => (setMay_words hs).2 x (by rw [e]; exact mem_nrm.2 hx)
    have hl := (setMay_words hs).1
    rw [e] at hl
    have ho : ofE [c.speaker, toldW c.speaker] = (nrm [c.speaker, toldW c.speaker], 0) := by
      rw [ofE_may hall]; unfold boundE; rw [if_pos hl]
    rw [ho, decide_eq_true e, ← e, decide_eq_true rfl, withinE_iff.2 (fun w hw => hw)]; rfl
  · rw [decide_eq_false e]
    by_cases h0 : (ofE [c.speaker, toldW c.speaker]).2 = 0
    · rw [decide_eq_true h0, Bool.true_and, ofE_ok h0]
      cases hw : (withinE c.words (nrm [c.speaker, toldW c.speaker]) && withinE (nrm [c.speaker, toldW c.speaker]) c.words) with
      | false => rfl
      | true =>
        rw [Bool.and_eq_true, withinE_iff, withinE_iff] at hw
        exact absurd (rising_ext (setMay_rising hs) (rising_nrm _) fun x => ⟨hw.1 x, hw.2 x⟩) e
    · rw [decide_eq_false h0]; rfl
theorem hasI_one {k x : Int} : hasI [k] x = decide (x = k) := by simp [hasI]
theorem alone_single {s : ByteArray} {k : Int} (hk : 0 ≤ k) : aloneE s [k] = decide (singleE s = k) := by
  unfold aloneE singleE kindAt
  rw [hasI_one]
  by_cases h : s.size / 2 = 1
  · rw [if_pos h, decide_eq_true h]; rfl
  · rw [if_neg h, decide_eq_false h, Bool.false_and, decide_eq_false (by omega)]
theorem like_many {c : Crt} {w x : ByteArray} {l : List ByteArray} (h : c.words = w :: x :: l) (h6 : c.kind ≠ 6) (h7 : c.kind ≠ 7) : likeE c = false := by
  unfold likeE
  rw [if_neg h6, if_neg h7, h]
set_option maxRecDepth 100000 in
set_option maxHeartbeats 2000000 in
theorem p_rlike (c : Crt) (hm : wordMay c.speaker = true) (hs : setMay c.words = true) (hg : c.signer < 65536) (hk : 1 ≤ c.kind ∧ c.kind ≤ 7) : PCalls Try.prog 65 [vC c] (.bool (likeE c)) := by
  have hsz := wordMay_even hm
  have hsm := setMay_small hs
  have hne := setMay_ne hs
  obtain ⟨w, l, hw⟩ : ∃ w l, c.words = w :: l := by
    cases e : c.words with
    | nil => exact absurd e hne
    | cons w l => exact ⟨w, l, rfl⟩
  have hmw := (setMay_words hs).2 w (by rw [hw]; simp)
  have hwz := wordMay_size hmw
  refine pcalls_of (by simp [free.frees, free_vC]) rfl (acalls_of mixed J_ref08_like_ok (Nat.le_of_ble_eq_true rfl) ?_); simp only [J_ref08_like, vC, cC, hw, List.map_cons, List.length_cons, wk,if_true,if_false,forall_const,implies_true,ne_eq,eq_self,Nat.reduceEqDiff,Nat.reduceAdd,Nat.reduceMul,Nat.reduceSub,Nat.reduceLeDiff,Nat.reduceLT,Int.reduceEq,Int.reduceLT,Int.reduceLE,Int.reduceAdd,Int.reduceSub,Int.reduceMul,Int.reduceNeg,Int.reduceNe,reduceCtorEq,Int.reduceToNat,↓reduceIte]
  refine ⟨by omega, ?_⟩
  refine PCalls.use (p_ratoms w (by omega)) ?_; simp only [wk,if_true,if_false,forall_const,implies_true,ne_eq,eq_self,Nat.reduceEqDiff,Nat.reduceAdd,Nat.reduceMul,Nat.reduceSub,Nat.reduceLeDiff,Nat.reduceLT,Int.reduceEq,Int.reduceLT,Int.reduceLE,Int.reduceAdd,Int.reduceSub,Int.reduceMul,Int.reduceNeg,Int.reduceNe,reduceCtorEq,Int.reduceToNat,↓reduceIte]
  refine ⟨inR_of (by omega) (by omega), ⟨by omega, by omega⟩, ?_⟩
  have hd : (atomsL w (w.size / 2)).drop (((w.size / 2 : Nat) : Int) - 1).toNat = .int .u16 (atomAt w (w.size / 2 - 1)) :: (atomsL w (w.size / 2)).drop (w.size / 2 - 1 + 1) := by
    rw [show (((w.size / 2 : Nat) : Int) - 1).toNat = w.size / 2 - 1 by omega, atomsL_drop (by omega)]
  simp only [hd, wk,if_true,if_false,forall_const,implies_true,ne_eq,eq_self,Nat.reduceEqDiff,Nat.reduceAdd,Nat.reduceMul,Nat.reduceSub,Nat.reduceLeDiff,Nat.reduceLT,Int.reduceEq,Int.reduceLT,Int.reduceLE,Int.reduceAdd,Int.reduceSub,Int.reduceMul,Int.reduceNeg,Int.reduceNe,reduceCtorEq,Int.reduceToNat,↓reduceIte]
  refine PCalls.use (p_kind (atomAt w (w.size / 2 - 1)) (atomAt_lt _ _)) ?_; simp only [wk,if_true,if_false,forall_const,implies_true,ne_eq,eq_self,Nat.reduceEqDiff,Nat.reduceAdd,Nat.reduceMul,Nat.reduceSub,Nat.reduceLeDiff,Nat.reduceLT,Int.reduceEq,Int.reduceLT,Int.reduceLE,Int.reduceAdd,Int.reduceSub,Int.reduceMul,Int.reduceNeg,Int.reduceNe,reduceCtorEq,Int.reduceToNat,↓reduceIte]
  refine PCalls.use (p_single c.speaker (by omega)) ?_; simp only [wk,if_true,if_false,forall_const,implies_true,ne_eq,eq_self,Nat.reduceEqDiff,Nat.reduceAdd,Nat.reduceMul,Nat.reduceSub,Nat.reduceLeDiff,Nat.reduceLT,Int.reduceEq,Int.reduceLT,Int.reduceLE,Int.reduceAdd,Int.reduceSub,Int.reduceMul,Int.reduceNeg,Int.reduceNe,reduceCtorEq,Int.reduceToNat,↓reduceIte]
  have hmany : ¬ ((l.length + 1 : Nat) : Int) = 1 → c.kind ≠ 6 → c.kind ≠ 7 → AV.bool false = .bool (likeE c) := by
    intro h h6 h7
    cases l with
    | nil => exact absurd rfl h
    | cons x l => exact bool_eq (like_many hw h6 h7).symm
  have hone : ((l.length + 1 : Nat) : Int) = 1 → c.kind ≠ 6 → c.kind ≠ 7 → likeE c = likeOne c w := by
    intro h h6 h7
    cases l with
    | nil => unfold likeE; rw [if_neg h6, if_neg h7, hw]
    | cons x l => simp at h; omega
  refine ⟨fun k1 => ⟨fun h1 => ?_, fun h1 => hmany h1 (by omega) (by omega)⟩, fun k1 => ⟨fun k2 => ⟨fun h1 => ?_, fun h1 => hmany h1 (by omega) (by omega)⟩, fun k2 => ⟨fun k3 => ⟨fun h1 => ?_, fun h1 => hmany h1 (by omega) (by omega)⟩, fun k3 => ⟨fun k4 => ⟨fun h1 => ?_, fun h1 => hmany h1 (by omega) (by omega)⟩, fun k4 => ⟨fun k5 => ⟨fun h1 => ?_, fun h1 => hmany h1 (by omega) (by omega)⟩, fun k5 => ⟨fun k7 => ?_, fun k7 => ?_⟩⟩⟩⟩⟩⟩
  · rw [hone h1 (by omega) (by omega)]
    have e : likeOne c w = (decide (singleE c.speaker = 1) && (decide (w.size / 2 = 2) && (decide (kindAt w 0 = 3) && decide (kindAt w 1 = 5)))) := by unfold likeOne; rw [if_pos k1, alone_single (by omega), hasI_one, hasI_one]
    rw [e]
    refine ⟨fun q1 => ⟨fun q2 => ⟨by omega, ?_⟩, fun q2 => bool_eq ?_⟩, fun q1 => bool_eq ?_⟩
    · have h2 : w.size / 2 = 2 := by omega
      rw [h2, show atomsL w 2 = [.int .u16 (atomAt w 0), .int .u16 (atomAt w 1)] from rfl]
      simp only [wk,if_true,if_false,forall_const,implies_true,ne_eq,eq_self,Nat.reduceEqDiff,Nat.reduceAdd,Nat.reduceMul,Nat.reduceSub,Nat.reduceLeDiff,Nat.reduceLT,Int.reduceEq,Int.reduceLT,Int.reduceLE,Int.reduceAdd,Int.reduceSub,Int.reduceMul,Int.reduceNeg,Int.reduceNe,reduceCtorEq,Int.reduceToNat,↓reduceIte]
      refine PCalls.use (p_kind (atomAt w 0) (atomAt_lt _ _)) ?_; simp only [wk,if_true,if_false,forall_const,implies_true,ne_eq,eq_self,Nat.reduceEqDiff,Nat.reduceAdd,Nat.reduceMul,Nat.reduceSub,Nat.reduceLeDiff,Nat.reduceLT,Int.reduceEq,Int.reduceLT,Int.reduceLE,Int.reduceAdd,Int.reduceSub,Int.reduceMul,Int.reduceNeg,Int.reduceNe,reduceCtorEq,Int.reduceToNat,↓reduceIte]
      rw [decide_eq_true q1]
      refine ⟨fun q3 => bool_eq ?_, fun q3 => bool_eq ?_⟩
      · rw [decide_eq_true (show kindAt w 0 = 3 from q3)]; rfl
      · rw [decide_eq_false (show ¬ kindAt w 0 = 3 from q3)]; rfl
    · rw [decide_eq_false (show ¬ w.size / 2 = 2 by omega)]; simp
    · rw [decide_eq_false q1]; rfl
  · rw [hone h1 (by omega) (by omega)]
    have e : likeOne c w = (decide (singleE c.speaker = 1) && decide (w = atomW c.signer)) := by unfold likeOne; rw [if_neg k1, if_pos k2, alone_single (by omega)]
    rw [e]
    refine ⟨fun q1 => ⟨fun q2 => ⟨by omega, ?_⟩, fun q2 => bool_eq ?_⟩, fun q1 => bool_eq ?_⟩
    · have h2 : w.size / 2 = 1 := by omega
      rw [h2, show atomsL w 1 = [.int .u16 (atomAt w 0)] from rfl]
      simp only [wk,if_true,if_false,forall_const,implies_true,ne_eq,eq_self,Nat.reduceEqDiff,Nat.reduceAdd,Nat.reduceMul,Nat.reduceSub,Nat.reduceLeDiff,Nat.reduceLT,Int.reduceEq,Int.reduceLT,Int.reduceLE,Int.reduceAdd,Int.reduceSub,Int.reduceMul,Int.reduceNeg,Int.reduceNe,reduceCtorEq,Int.reduceToNat,↓reduceIte]
      rw [decide_eq_true q1, Bool.true_and]
      refine bool_eq (decide_eq_decide.2 ?_)
      rw [← one_is (by omega) hg]
      omega
    · rw [decide_eq_false (show ¬ w = atomW c.signer from fun h => q2 (by rw [h]; have : (atomW c.signer).size = 2 := rfl; omega)), Bool.and_false]
    · rw [decide_eq_false q1]; rfl
  · rw [hone h1 (by omega) (by omega)]
    unfold likeOne
    rw [if_neg k1, if_neg k2, if_pos k3, alone_single (by omega)]
  · rw [hone h1 (by omega) (by omega)]
    have e : likeOne c w = (decide (singleE c.speaker = 3) && aloneE w [4]) := by unfold likeOne; rw [if_neg k1, if_neg k2, if_neg k3, if_pos k4, alone_single (by omega)]
    rw [e]
    refine ⟨fun q1 => ⟨fun q2 => bool_eq ?_, fun q2 => bool_eq ?_⟩, fun q1 => bool_eq ?_⟩
    · have h2 : w.size / 2 = 1 := by omega
      rw [decide_eq_true q1]; unfold aloneE kindAt; rw [hasI_one, decide_eq_true h2, h2]; rfl
    · unfold aloneE; rw [decide_eq_false (show ¬ w.size / 2 = 1 by omega)]; simp
    · rw [decide_eq_false q1]; rfl
  · rw [hone h1 (by omega) (by omega)]
    have e : likeOne c w = ((decide (singleE c.speaker = 1) || decide (singleE c.speaker = 2)) && (decide (2 ≤ w.size / 2) && decide (kindAt w (w.size / 2 - 1) = 5))) := by
      unfold likeOne
      rw [if_neg k1, if_neg k2, if_neg k3, if_neg k4, if_pos k5, hasI_one, ← alone_single (k := 1) (by omega), ← alone_single (k := 2) (by omega)]
      congr 1
      unfold aloneE
      rw [hasI_one, hasI_one, ← Bool.and_or_distrib_left]
      congr 1
      simp [hasI]
    rw [e]
    refine ⟨fun q1 => ⟨fun q2 => ⟨fun q3 => bool_eq ?_, fun q3 => bool_eq ?_⟩, fun q2 => bool_eq ?_⟩, fun q1 => ⟨fun q3 => bool_eq ?_, fun q3 => bool_eq ?_⟩⟩
    · rw [decide_eq_true q2, decide_eq_true (show 2 ≤ w.size / 2 by omega), Bool.or_true]; rfl
    · rw [decide_eq_false (show ¬ 2 ≤ w.size / 2 by omega)]; simp
    · rw [decide_eq_false q1, decide_eq_false q2]; rfl
    · rw [decide_eq_true q1, decide_eq_true (show 2 ≤ w.size / 2 by omega), Bool.true_or]; rfl
    · rw [decide_eq_false (show ¬ 2 ≤ w.size / 2 by omega)]; simp
  · have hE : likeE c = delegE c := by unfold likeE; rw [if_neg (by omega), if_pos k7]
    rw [hE]
    refine PCalls.use (p_ratoms c.speaker (by omega)) ?_; simp only [wk,if_true,if_false,forall_const,implies_true,ne_eq,eq_self,Nat.reduceEqDiff,Nat.reduceAdd,Nat.reduceMul,Nat.reduceSub,Nat.reduceLeDiff,Nat.reduceLT,Int.reduceEq,Int.reduceLT,Int.reduceLE,Int.reduceAdd,Int.reduceSub,Int.reduceMul,Int.reduceNeg,Int.reduceNe,reduceCtorEq,Int.reduceToNat,↓reduceIte]
    refine ⟨fun h2 => bool_eq (by unfold delegE; rw [decide_eq_false (by omega)]; rfl), fun h2 => ?_⟩
    have hn : ((c.speaker.size / 2 : Nat) : Int).toNat = c.speaker.size / 2 := by omega
    rw [hn]
    have hta : List.take (c.speaker.size / 2 - 1) (List.drop 1 (atomsL c.speaker (c.speaker.size / 2))) = u16s ((atomNs c.speaker).drop 1) := by
      rw [List.take_of_length_le (by rw [List.length_drop, atomsL_len]; exact Nat.le_refl _)]
      unfold atomsL u16s atomNs
      simp only [List.map_drop, List.map_map]
      rfl
    have hlr : ((atomNs c.speaker).drop 1).length = c.speaker.size / 2 - 1 := by rw [List.length_drop, atomNs_len]
    have hof := p_rof (1 :: (atomNs c.speaker).drop 1) (by rw [List.length_cons, hlr]; omega) (by
      intro a ha
      rcases List.mem_cons.1 ha with rfl | ha
      · omega
      · exact atomNs_lt _ a (List.mem_of_mem_drop ha))
    rw [List.length_cons, hlr] at hof
    rw [hta, Nat.add_comm 1]
    refine ⟨⟨by omega, by omega, atomsL_len _ _⟩, ⟨by unfold u16s; rw [List.length_map, hlr], by omega, by omega⟩, _, hof, ⟨rfl, rfl⟩, ?_⟩
    rw [told_eq hsz.1 (by omega)]
    have hts := told_size (w := c.speaker) (by omega)
    have hr := p_rright [c.speaker, toldW c.speaker] (by simp) (by intro x hx; simp at hx; rcases hx with rfl | rfl <;> omega)
    have hq := p_requal c.words (nrm [c.speaker, toldW c.speaker]) (by omega)
    rw [deleg_eq hm hs (by omega)]
    rw [hw] at hq ⊢
    exact ⟨_, hr, _, hq, rfl⟩
  · exact bool_eq (by unfold likeE; rw [if_pos (by omega)])
end Go.Proofs.Ytnmikopkjdekaaa

/- The reference's Check. -/
namespace Go.Proofs.Ytnmikopkjdekaaa
set_option linter.unusedSimpArgs false
set_option linter.unusedVariables false
open Go.RowKit Go.Lib

set_option maxRecDepth 100000 in
set_option maxHeartbeats 2000000 in
theorem p_rcheck (c : Crt) (h : smallC c) : PCalls Try.prog 47 [vC c] (.int .i64 (checkE c)) := by
  obtain ⟨hg, hz, hl, hx⟩ := h
  refine pcalls_of (by simp [free.frees, free_vC]) rfl (acalls_of mixed J_ref08_Check_ok (Nat.le_of_ble_eq_true rfl) ?_); simp only [J_ref08_Check, vC, cC, wk,if_true,if_false,forall_const,implies_true,ne_eq,eq_self,Nat.reduceEqDiff,Nat.reduceAdd,Nat.reduceMul,Nat.reduceSub,Nat.reduceLeDiff,Nat.reduceLT,Int.reduceEq,Int.reduceLT,Int.reduceLE,Int.reduceAdd,Int.reduceSub,Int.reduceMul,Int.reduceNeg,Int.reduceNe,reduceCtorEq,Int.reduceToNat,↓reduceIte]
  have e1 : c.kind < 1 ∨ 7 < c.kind → AV.int .i64 1 = .int .i64 (checkE c) := fun h => int_eq (by unfold checkE; rw [if_pos h])
  have e2 : ¬ (c.kind < 1 ∨ 7 < c.kind) → ¬ (hasI [1] ((c.signer / 8192 : Nat) : Int) = true ∧ wordMay c.speaker = true ∧ setMay c.words = true ∧ numL [c.since, c.till, c.serial] = true) → AV.int .i64 2 = .int .i64 (checkE c) := fun h h' => int_eq (by unfold checkE; rw [if_neg h, if_neg h'])
  refine ⟨fun k1 => ⟨fun k2 => e1 (.inr k2), fun k2 => ?_⟩, fun k1 => e1 (.inl k1)⟩
  have hk : ¬ (c.kind < 1 ∨ 7 < c.kind) := by omega
  refine PCalls.use (p_kind c.signer hg) ?_; simp only [wk,if_true,if_false,forall_const,implies_true,ne_eq,eq_self,Nat.reduceEqDiff,Nat.reduceAdd,Nat.reduceMul,Nat.reduceSub,Nat.reduceLeDiff,Nat.reduceLT,Int.reduceEq,Int.reduceLT,Int.reduceLE,Int.reduceAdd,Int.reduceSub,Int.reduceMul,Int.reduceNeg,Int.reduceNe,reduceCtorEq,Int.reduceToNat,↓reduceIte]
  refine ⟨fun a1 => ?_, fun a1 => e2 hk (fun h => a1 (by have := h.1; rw [hasI_one, decide_eq_true_eq] at this; exact this))⟩
  have b1 : hasI [1] ((c.signer / 8192 : Nat) : Int) = true := by rw [hasI_one, decide_eq_true a1]
  refine PCalls.use (p_rwmay c.speaker (by omega)) ?_; simp only [wk,if_true,if_false,forall_const,implies_true,ne_eq,eq_self,Nat.reduceEqDiff,Nat.reduceAdd,Nat.reduceMul,Nat.reduceSub,Nat.reduceLeDiff,Nat.reduceLT,Int.reduceEq,Int.reduceLT,Int.reduceLE,Int.reduceAdd,Int.reduceSub,Int.reduceMul,Int.reduceNeg,Int.reduceNe,reduceCtorEq,Int.reduceToNat,↓reduceIte]
  refine ⟨fun a2 => ?_, fun a2 => e2 hk (fun h => by rw [a2] at h; exact absurd h.2.1 (by simp))⟩
  refine PCalls.use (p_rsmay c.words (by omega) (fun x q => by have := hx x q; omega)) ?_; simp only [wk,if_true,if_false,forall_const,implies_true,ne_eq,eq_self,Nat.reduceEqDiff,Nat.reduceAdd,Nat.reduceMul,Nat.reduceSub,Nat.reduceLeDiff,Nat.reduceLT,Int.reduceEq,Int.reduceLT,Int.reduceLE,Int.reduceAdd,Int.reduceSub,Int.reduceMul,Int.reduceNeg,Int.reduceNe,reduceCtorEq,Int.reduceToNat,↓reduceIte]
  refine ⟨fun a3 => ?_, fun a3 => e2 hk (fun h => by rw [a3] at h; exact absurd h.2.2.1 (by simp))⟩
  have hnum : numL [c.since, c.till, c.serial] = (decide (0 ≤ c.since ∧ c.since ≤ 4611686018427387904) && (decide (0 ≤ c.till ∧ c.till ≤ 4611686018427387904) && decide (0 ≤ c.serial ∧ c.serial ≤ 4611686018427387904))) := by simp [numL, Bool.decide_and]
  refine PCalls.use (p_rcnum c.since) ?_; simp only [wk,if_true,if_false,forall_const,implies_true,ne_eq,eq_self,Nat.reduceEqDiff,Nat.reduceAdd,Nat.reduceMul,Nat.reduceSub,Nat.reduceLeDiff,Nat.reduceLT,Int.reduceEq,Int.reduceLT,Int.reduceLE,Int.reduceAdd,Int.reduceSub,Int.reduceMul,Int.reduceNeg,Int.reduceNe,reduceCtorEq,Int.reduceToNat,↓reduceIte]
  refine ⟨fun b2 => ?_, fun b2 => e2 hk (fun h => by have := h.2.2.2; rw [hnum, decide_eq_false b2] at this; cases this)⟩
  refine PCalls.use (p_rcnum c.till) ?_; simp only [wk,if_true,if_false,forall_const,implies_true,ne_eq,eq_self,Nat.reduceEqDiff,Nat.reduceAdd,Nat.reduceMul,Nat.reduceSub,Nat.reduceLeDiff,Nat.reduceLT,Int.reduceEq,Int.reduceLT,Int.reduceLE,Int.reduceAdd,Int.reduceSub,Int.reduceMul,Int.reduceNeg,Int.reduceNe,reduceCtorEq,Int.reduceToNat,↓reduceIte]
  refine ⟨fun b3 => ?_, fun b3 => e2 hk (fun h => by have := h.2.2.2; rw [hnum, decide_eq_false b3, Bool.false_and, Bool.and_false] at this; cases this)⟩
  refine PCalls.use (p_rcnum c.serial) ?_; simp only [wk,if_true,if_false,forall_const,implies_true,ne_eq,eq_self,Nat.reduceEqDiff,Nat.reduceAdd,Nat.reduceMul,Nat.reduceSub,Nat.reduceLeDiff,Nat.reduceLT,Int.reduceEq,Int.reduceLT,Int.reduceLE,Int.reduceAdd,Int.reduceSub,Int.reduceMul,Int.reduceNeg,Int.reduceNe,reduceCtorEq,Int.reduceToNat,↓reduceIte]
  refine ⟨fun b4 => e2 hk (fun h => by have := h.2.2.2; rw [hnum, decide_eq_false b4, Bool.and_false, Bool.and_false] at this; cases this), fun b4 => ?_⟩
  have a4 : numL [c.since, c.till, c.serial] = true := by rw [hnum, decide_eq_true b2, decide_eq_true b3, decide_eq_true b4]; rfl
  have e3 : checkE c = (if c.till < c.since then 5 else if c.words.any (fun w => decide (w.size / 2 < c.speaker.size / 2)) = true then 4 else if likeE c = true then 0 else 13) := by
    unfold checkE; rw [if_neg hk, if_pos ⟨b1, a2, a3, a4⟩]
  refine ⟨fun a5 => int_eq (by rw [e3, if_pos a5]), fun a5 => ?_⟩
  rw [if_neg a5] at e3
  have hsz := wordMay_even a2
  refine W_loop (fun n fr h => ∃ i : Nat, i ≤ c.words.length ∧ n = c.words.length - i ∧ h = [some (false, cC c)] ∧ fr = [(1, .ptr 0 0), (3, .int .i64 i)] ∧ ∀ w ∈ c.words.take i, ¬ w.size / 2 < c.speaker.size / 2) c.words.length ⟨0, by omega, by omega, rfl, rfl, by simp⟩ ?_
  rintro n fr h ⟨i, hi, rfl, rfl, rfl, hall⟩
  simp only [J_ref08_Check_j2, cC, wk,if_true,if_false,forall_const,implies_true,ne_eq,eq_self,Nat.reduceEqDiff,Nat.reduceAdd,Nat.reduceMul,Nat.reduceSub,Nat.reduceLeDiff,Nat.reduceLT,Int.reduceEq,Int.reduceLT,Int.reduceLE,Int.reduceAdd,Int.reduceSub,Int.reduceMul,Int.reduceNeg,Int.reduceNe,reduceCtorEq,Int.reduceToNat,↓reduceIte]
  refine ⟨fun hlt => ?_, fun hge => ?_⟩
  · have hil : i < c.words.length := by omega
    have hd : (c.words.map AV.str).drop (i : Int).toNat = .str c.words[i] :: (c.words.map AV.str).drop (i + 1) := by rw [show (i : Int).toNat = i by omega, drop_str hil]
    have z := wordMay_even ((setMay_words a3).2 _ (List.getElem_mem hil))
    refine ⟨⟨by omega, by omega⟩, ?_⟩
    simp only [hd, wk,if_true,if_false,forall_const,implies_true,ne_eq,eq_self,Nat.reduceEqDiff,Nat.reduceAdd,Nat.reduceMul,Nat.reduceSub,Nat.reduceLeDiff,Nat.reduceLT,Int.reduceEq,Int.reduceLT,Int.reduceLE,Int.reduceAdd,Int.reduceSub,Int.reduceMul,Int.reduceNeg,Int.reduceNe,reduceCtorEq,Int.reduceToNat,↓reduceIte]
    refine ⟨fun h4 => int_eq ?_, fun h4 => ⟨inR_of (by omega) (by omega), c.words.length - (i + 1), by omega, i + 1, by omega, rfl, rfl, fun w hw => ?_⟩⟩
    · rw [e3, if_pos]
      rw [List.any_eq_true]
      exact ⟨_, List.getElem_mem hil, by simp; omega⟩
    · rcases (take_mem_succ hil).1 hw with h | h
      · exact hall w h
      · subst h; omega
  · rw [List.take_of_length_le (by omega)] at hall
    have e4 : ¬ (c.words.any (fun w => decide (w.size / 2 < c.speaker.size / 2)) = true) := by
      rw [List.any_eq_true]
      rintro ⟨w, hw, h1⟩
      simp only [decide_eq_true_eq] at h1
      exact hall w hw h1
    rw [if_neg e4] at e3
    simp only [J_ref08_Check_j1, wk,if_true,if_false,forall_const,implies_true,ne_eq,eq_self,Nat.reduceEqDiff,Nat.reduceAdd,Nat.reduceMul,Nat.reduceSub,Nat.reduceLeDiff,Nat.reduceLT,Int.reduceEq,Int.reduceLT,Int.reduceLE,Int.reduceAdd,Int.reduceSub,Int.reduceMul,Int.reduceNeg,Int.reduceNe,reduceCtorEq,Int.reduceToNat,↓reduceIte]
    have hp := p_rlike c a2 a3 hg ⟨by omega, by omega⟩
    unfold vC cC at hp
    refine PCalls.use (hp) ?_; simp only [wk,if_true,if_false,forall_const,implies_true,ne_eq,eq_self,Nat.reduceEqDiff,Nat.reduceAdd,Nat.reduceMul,Nat.reduceSub,Nat.reduceLeDiff,Nat.reduceLT,Int.reduceEq,Int.reduceLT,Int.reduceLE,Int.reduceAdd,Int.reduceSub,Int.reduceMul,Int.reduceNeg,Int.reduceNe,reduceCtorEq,Int.reduceToNat,↓reduceIte]
    refine ⟨fun h0 => int_eq ?_, fun h0 => int_eq ?_⟩
    · rw [e3, if_neg (by rw [h0]; simp)]
    · rw [e3, if_pos h0]
end Go.Proofs.Ytnmikopkjdekaaa

/- Encode of certificates, over the abstract code. -/
namespace Go.Proofs.Ytnmikopkjdekaaa
set_option linter.unusedSimpArgs false
set_option linter.unusedVariables false
open Go.RowKit Go.Lib

structure Good (c : Crt) : Prop where
  kind : 1 ≤ c.kind ∧ c.kind ≤ 7
  signer : c.signer / 8192 = 1
  speaker : wordMay c.speaker = true
  words : setMay c.words = true
  since : 0 ≤ c.since ∧ c.since ≤ 4611686018427387904
  till : 0 ≤ c.till ∧ c.till ≤ 4611686018427387904
  serial : 0 ≤ c.serial ∧ c.serial ≤ 4611686018427387904
  order : c.since ≤ c.till
  short : ∀ w ∈ c.words, c.speaker.size / 2 ≤ w.size / 2
  like : likeE c = true
theorem good_of {c : Crt} (h : checkE c = 0) : Good c := by
  unfold checkE at h
  split at h
  · simp at h
  · next h1 =>
    split at h
    · next h2 =>
      obtain ⟨a1, a2, a3, a4⟩ := h2
      split at h
      · simp at h
      · next h3 =>
        split at h
        · simp at h
        · next h4 =>
          split at h
          · next h5 =>
            simp only [numL, List.all_cons, List.all_nil, Bool.and_true, Bool.and_eq_true, decide_eq_true_eq] at a4
            refine ⟨by omega, ?_, a2, a3, a4.1, a4.2.1, a4.2.2, by omega, fun w hw => ?_, h5⟩
            · rw [hasI_one] at a1
              simp only [decide_eq_true_eq] at a1
              omega
            · have h4' : ¬ c.words.any (fun w => decide (w.size / 2 < c.speaker.size / 2)) = true := h4
              rw [List.any_eq_true] at h4'
              apply Nat.le_of_not_lt
              intro hlt
              exact h4' ⟨w, hw, by simpa using hlt⟩
          · simp at h
    · simp at h
end Go.Proofs.Ytnmikopkjdekaaa

/- Models: whether a certificate is honest, over the abstract code. -/
-- fast
namespace Go.Proofs.Ytnmikopkjdekaaa
set_option linter.unusedSimpArgs false
set_option linter.unusedVariables false
open Go.RowKit Go.Lib

def honestE (m : Mdl) (c : Crt) : Bool := (c.words.any fun w => !withinR (wordR m.rows w) (wordR m.rows (atomW c.signer))) || c.words.all fun w => withinR (wordR m.rows w) (wordR m.rows c.speaker)
theorem atomW_may {a : Nat} (h : a / 8192 = 1) : wordMay (atomW a) = true := by
  have hs : (atomW a).size = 2 := rfl
  have hb := atom_back (a := a) (by omega)
  simp only [wordMay, Bool.and_eq_true, decide_eq_true_eq]
  refine ⟨by omega, by omega, by omega, fun i hi => ?_⟩
  obtain rfl : i = 0 := by omega
  rw [hb]; omega
theorem rulesL_at {c : Crt} : ∀ {l : List ByteArray} {i : Nat} (h : i < l.length), (rulesL c l).drop (i * 2) = .str l[i] :: .str c.speaker :: rulesL c (l.drop (i + 1))
  | x :: l, 0, _ => rfl
  | x :: l, i + 1, h => by
    have := rulesL_at (c := c) (l := l) (i := i) (by simpa using h)
    simp only [rulesL, List.flatMap_cons] at this ⊢
    rw [show (i + 1) * 2 = 2 + i * 2 by omega, ← List.drop_drop]
    exact this
set_option maxRecDepth 100000 in
set_option maxHeartbeats 8000000 in
theorem p_mHonest (m : Mdl) (c : Crt) (hm : smallMd m) (hc : smallC c) (hw : ∀ w ∈ c.words, w.size ≤ 1000) (hsp : c.speaker.size ≤ 1000) : PCalls Try.prog 22 [mdV m, vC c] (tupB (mdMay m && decide (checkE c = 0)) (honestE m c)) := by
  have qm := p_mmay m hm.1 hm.2
  have qc := p_check c hc
  have qr := p_mread m hm.1 hm.2
  have qu := p_rules c (by have := hc.2.2.1; omega)
  refine pcalls_of (by simp [free.frees, free_mdV, free_vC]) (free_tupB _ _) (acalls_of mixed J_model_Honest_ok (Nat.le_of_ble_eq_true rfl) ?_); simp only [J_model_Honest, mdV, vC, cC, wk,if_true,if_false,forall_const,implies_true,ne_eq,eq_self,Nat.reduceEqDiff,Nat.reduceAdd,Nat.reduceMul,Nat.reduceSub,Nat.reduceLeDiff,Nat.reduceLT,Int.reduceEq,Int.reduceLT,Int.reduceLE,Int.reduceAdd,Int.reduceSub,Int.reduceMul,Int.reduceNeg,Int.reduceNe,reduceCtorEq,Int.reduceToNat,↓reduceIte]
  simp only [mdV, vC, cC] at qm qc qr qu
  refine PCalls.use (qm) ?_; simp only [wk,if_true,if_false,forall_const,implies_true,ne_eq,eq_self,Nat.reduceEqDiff,Nat.reduceAdd,Nat.reduceMul,Nat.reduceSub,Nat.reduceLeDiff,Nat.reduceLT,Int.reduceEq,Int.reduceLT,Int.reduceLE,Int.reduceAdd,Int.reduceSub,Int.reduceMul,Int.reduceNeg,Int.reduceNe,reduceCtorEq,Int.reduceToNat,↓reduceIte]
  cases hmm : mdMay m with
  | false => simp only [hmm, wk,if_true,if_false,forall_const,implies_true,ne_eq,eq_self,Nat.reduceEqDiff,Nat.reduceAdd,Nat.reduceMul,Nat.reduceSub,Nat.reduceLeDiff,Nat.reduceLT,Int.reduceEq,Int.reduceLT,Int.reduceLE,Int.reduceAdd,Int.reduceSub,Int.reduceMul,Int.reduceNeg,Int.reduceNe,reduceCtorEq,Int.reduceToNat,↓reduceIte]; simp [tupB, hmm]
  | true =>
    try simp only [hmm, wk,if_true,if_false,forall_const,implies_true,ne_eq,eq_self,Nat.reduceEqDiff,Nat.reduceAdd,Nat.reduceMul,Nat.reduceSub,Nat.reduceLeDiff,Nat.reduceLT,Int.reduceEq,Int.reduceLT,Int.reduceLE,Int.reduceAdd,Int.reduceSub,Int.reduceMul,Int.reduceNeg,Int.reduceNe,reduceCtorEq,Int.reduceToNat,↓reduceIte]
    refine PCalls.use (qc) ?_; simp only [wk,if_true,if_false,forall_const,implies_true,ne_eq,eq_self,Nat.reduceEqDiff,Nat.reduceAdd,Nat.reduceMul,Nat.reduceSub,Nat.reduceLeDiff,Nat.reduceLT,Int.reduceEq,Int.reduceLT,Int.reduceLE,Int.reduceAdd,Int.reduceSub,Int.reduceMul,Int.reduceNeg,Int.reduceNe,reduceCtorEq,Int.reduceToNat,↓reduceIte]
    refine ⟨fun hne => ?_, fun he => ?_⟩
    · simp [tupB, hne]
    · have hg := good_of he
      have hln := hc.2.2.1
      have qo := p_wof [c.signer] (by simp) (by simpa using hc.1)
      rw [atomBytes_one] at qo
      simp only [u16s, List.map_cons, List.map_nil, List.length_singleton] at qo
      have qs := p_mword m.rows (atomW c.signer) (atomW_may hg.signer) (by show (2 : Nat) ≤ 1000; omega)
      simp only [mpV, rlV] at qs
      have h8 := wordR_length m.rows (atomW c.signer)
      refine PCalls.use (qr) ?_; simp only [wk,if_true,if_false,forall_const,implies_true,ne_eq,eq_self,Nat.reduceEqDiff,Nat.reduceAdd,Nat.reduceMul,Nat.reduceSub,Nat.reduceLeDiff,Nat.reduceLT,Int.reduceEq,Int.reduceLT,Int.reduceLE,Int.reduceAdd,Int.reduceSub,Int.reduceMul,Int.reduceNeg,Int.reduceNe,reduceCtorEq,Int.reduceToNat,↓reduceIte]
      refine PCalls.use (qo) ?_; simp only [wk,if_true,if_false,forall_const,implies_true,ne_eq,eq_self,Nat.reduceEqDiff,Nat.reduceAdd,Nat.reduceMul,Nat.reduceSub,Nat.reduceLeDiff,Nat.reduceLT,Int.reduceEq,Int.reduceLT,Int.reduceLE,Int.reduceAdd,Int.reduceSub,Int.reduceMul,Int.reduceNeg,Int.reduceNe,reduceCtorEq,Int.reduceToNat,↓reduceIte]
      refine PCalls.use (qs) ?_; simp only [wk,if_true,if_false,forall_const,implies_true,ne_eq,eq_self,Nat.reduceEqDiff,Nat.reduceAdd,Nat.reduceMul,Nat.reduceSub,Nat.reduceLeDiff,Nat.reduceLT,Int.reduceEq,Int.reduceLT,Int.reduceLE,Int.reduceAdd,Int.reduceSub,Int.reduceMul,Int.reduceNeg,Int.reduceNe,reduceCtorEq,Int.reduceToNat,↓reduceIte]
      rw [splice_all _ _ (by simp [len_rlC, h8])]
      refine ⟨by rw [len_rlC, h8], ?_⟩
      generalize hsg : wordR m.rows (atomW c.signer) = sg at *
      have hws : ∀ w ∈ c.words, wordMay w = true := (setMay_words hg.words).2
      refine W_loop (fun n fr h => ∃ i : Nat, i ≤ c.words.length ∧ n = c.words.length - i ∧ (∀ w ∈ c.words.take i, withinR (wordR m.rows w) sg = true) ∧ fr = [(3, .ptr 1 0), (6, mpV m.rows), (7, .ptr 2 0), (29, .lst .ro c.words.length (c.words.map .str)), (30, .int .i64 c.words.length), (31, .int .i64 i)] ∧ h = [some (false, [.int .i64 m.n, .lst .ro m.rows.length (rowsC m.rows)]), some (false, cC c), some (true, rlC sg)]) c.words.length ⟨0, by omega, by omega, by simp, rfl, rfl⟩ ?_
      rintro n fr h' ⟨i, hi, rfl, hall, rfl, rfl⟩
      simp only [J_model_Honest_j4, mpV, cC, wk,if_true,if_false,forall_const,implies_true,ne_eq,eq_self,Nat.reduceEqDiff,Nat.reduceAdd,Nat.reduceMul,Nat.reduceSub,Nat.reduceLeDiff,Nat.reduceLT,Int.reduceEq,Int.reduceLT,Int.reduceLE,Int.reduceAdd,Int.reduceSub,Int.reduceMul,Int.reduceNeg,Int.reduceNe,reduceCtorEq,Int.reduceToNat,↓reduceIte]
      refine ⟨fun hlt => ?_, fun hge => ?_⟩
      · have hil : i < c.words.length := by omega
        have hin : ((0 ≤ (i : Int)) ∧ (i : Int) < (c.words.length : Int)) = True := by simp; omega
        have hd : (c.words.map AV.str).drop i = .str c.words[i] :: (c.words.map AV.str).drop (i + 1) := by
          rw [List.drop_eq_getElem_cons (by simpa using hil)]; simp
        have hmem := List.getElem_mem hil
        have qw := p_mword m.rows c.words[i] (hws _ hmem) (hw _ hmem)
        have qi := p_mwithin (wordR m.rows c.words[i]) sg (wordR_length _ _) h8
        simp only [rlV, mpV] at qw qi
        simp only [hin, Int.toNat_natCast, hd, wk,if_true,if_false,forall_const,implies_true,ne_eq,eq_self,Nat.reduceEqDiff,Nat.reduceAdd,Nat.reduceMul,Nat.reduceSub,Nat.reduceLeDiff,Nat.reduceLT,Int.reduceEq,Int.reduceLT,Int.reduceLE,Int.reduceAdd,Int.reduceSub,Int.reduceMul,Int.reduceNeg,Int.reduceNe,reduceCtorEq,Int.reduceToNat,↓reduceIte]
        refine ⟨_, qw, ?_⟩; try simp only [wk,if_true,if_false,forall_const,implies_true,ne_eq,eq_self,Nat.reduceEqDiff,Nat.reduceAdd,Nat.reduceMul,Nat.reduceSub,Nat.reduceLeDiff,Nat.reduceLT,Int.reduceEq,Int.reduceLT,Int.reduceLE,Int.reduceAdd,Int.reduceSub,Int.reduceMul,Int.reduceNeg,Int.reduceNe,reduceCtorEq,Int.reduceToNat,↓reduceIte]
        rw [take_rlC _ h8, deg_rlC]
        refine ⟨by rw [len_rlC, h8]; omega, ?_⟩
        refine ⟨_, qi, ?_⟩; try simp only [wk,if_true,if_false,forall_const,implies_true,ne_eq,eq_self,Nat.reduceEqDiff,Nat.reduceAdd,Nat.reduceMul,Nat.reduceSub,Nat.reduceLeDiff,Nat.reduceLT,Int.reduceEq,Int.reduceLT,Int.reduceLE,Int.reduceAdd,Int.reduceSub,Int.reduceMul,Int.reduceNeg,Int.reduceNe,reduceCtorEq,Int.reduceToNat,↓reduceIte]
        refine ⟨fun hne => ?_, fun hy => ⟨inR_of (by omega) (by omega), c.words.length - (i + 1), by omega, i + 1, by omega, rfl, fun w hx => ?_, by simp⟩⟩
        · have hh : honestE m c = true := by
            simp only [honestE, Bool.or_eq_true, List.any_eq_true]
            exact .inl ⟨_, hmem, by rw [hsg]; simpa using hne⟩
          simp [tupB, hmm, he, hh]
        · rw [List.take_succ_eq_append_getElem hil, List.mem_append, List.mem_singleton] at hx
          rcases hx with hx | rfl
          · exact hall w hx
          · simpa using hy
      · obtain rfl : i = c.words.length := by omega
        rw [List.take_of_length_le (Nat.le_refl _)] at hall
        simp only [J_model_Honest_j3, wk,if_true,if_false,forall_const,implies_true,ne_eq,eq_self,Nat.reduceEqDiff,Nat.reduceAdd,Nat.reduceMul,Nat.reduceSub,Nat.reduceLeDiff,Nat.reduceLT,Int.reduceEq,Int.reduceLT,Int.reduceLE,Int.reduceAdd,Int.reduceSub,Int.reduceMul,Int.reduceNeg,Int.reduceNe,reduceCtorEq,Int.reduceToNat,↓reduceIte]
        refine PCalls.use (qu) ?_; simp only [wk,if_true,if_false,forall_const,implies_true,ne_eq,eq_self,Nat.reduceEqDiff,Nat.reduceAdd,Nat.reduceMul,Nat.reduceSub,Nat.reduceLeDiff,Nat.reduceLT,Int.reduceEq,Int.reduceLT,Int.reduceLE,Int.reduceAdd,Int.reduceSub,Int.reduceMul,Int.reduceNeg,Int.reduceNe,reduceCtorEq,Int.reduceToNat,↓reduceIte]
        refine W_loop (fun n fr h => ∃ i : Nat, i ≤ c.words.length ∧ n = c.words.length - i ∧ (∀ w ∈ c.words.take i, withinR (wordR m.rows w) (wordR m.rows c.speaker) = true) ∧ fr = [(6, mpV m.rows), (43, .lst .ro c.words.length (rulesL c c.words)), (44, .int .i64 c.words.length), (45, .int .i64 i)]) c.words.length ⟨0, by omega, by omega, by simp, rfl⟩ ?_
        rintro n fr h' ⟨i, hi, rfl, hall2, rfl⟩
        simp only [J_model_Honest_j2, mpV, wk,if_true,if_false,forall_const,implies_true,ne_eq,eq_self,Nat.reduceEqDiff,Nat.reduceAdd,Nat.reduceMul,Nat.reduceSub,Nat.reduceLeDiff,Nat.reduceLT,Int.reduceEq,Int.reduceLT,Int.reduceLE,Int.reduceAdd,Int.reduceSub,Int.reduceMul,Int.reduceNeg,Int.reduceNe,reduceCtorEq,Int.reduceToNat,↓reduceIte]
        refine ⟨fun hlt => ?_, fun hge => ?_⟩
        · have hil : i < c.words.length := by omega
          have hin : ((0 ≤ (i : Int)) ∧ (i : Int) < (c.words.length : Int)) = True := by simp; omega
          have hd := rulesL_at (c := c) hil
          have hmem := List.getElem_mem hil
          have ql := p_mrule m.rows c.words[i] c.speaker ⟨hws _ hmem, hw _ hmem⟩ ⟨hg.speaker, hsp⟩
          simp only [mpV] at ql
          simp only [hin, Int.toNat_natCast, hd, wk,if_true,if_false,forall_const,implies_true,ne_eq,eq_self,Nat.reduceEqDiff,Nat.reduceAdd,Nat.reduceMul,Nat.reduceSub,Nat.reduceLeDiff,Nat.reduceLT,Int.reduceEq,Int.reduceLT,Int.reduceLE,Int.reduceAdd,Int.reduceSub,Int.reduceMul,Int.reduceNeg,Int.reduceNe,reduceCtorEq,Int.reduceToNat,↓reduceIte]
          refine PCalls.use (ql) ?_; simp only [wk,if_true,if_false,forall_const,implies_true,ne_eq,eq_self,Nat.reduceEqDiff,Nat.reduceAdd,Nat.reduceMul,Nat.reduceSub,Nat.reduceLeDiff,Nat.reduceLT,Int.reduceEq,Int.reduceLT,Int.reduceLE,Int.reduceAdd,Int.reduceSub,Int.reduceMul,Int.reduceNeg,Int.reduceNe,reduceCtorEq,Int.reduceToNat,↓reduceIte]
          refine ⟨fun hne => ?_, fun hy => ⟨inR_of (by omega) (by omega), c.words.length - (i + 1), by omega, i + 1, by omega, rfl, fun w hx => ?_, by simp⟩⟩
          · have hh : honestE m c = false := by
              simp only [honestE, Bool.or_eq_false_iff, List.any_eq_false, List.all_eq_false]
              exact ⟨fun w hx => by rw [hsg, hall w hx]; simp, _, hmem, by simpa using hne⟩
            simp [tupB, hmm, he, hh]
          · rw [List.take_succ_eq_append_getElem hil, List.mem_append, List.mem_singleton] at hx
            rcases hx with hx | rfl
            · exact hall2 w hx
            · simpa using hy
        · obtain rfl : i = c.words.length := by omega
          rw [List.take_of_length_le (Nat.le_refl _)] at hall2
          simp only [J_model_Honest_j1, wk,if_true,if_false,forall_const,implies_true,ne_eq,eq_self,Nat.reduceEqDiff,Nat.reduceAdd,Nat.reduceMul,Nat.reduceSub,Nat.reduceLeDiff,Nat.reduceLT,Int.reduceEq,Int.reduceLT,Int.reduceLE,Int.reduceAdd,Int.reduceSub,Int.reduceMul,Int.reduceNeg,Int.reduceNe,reduceCtorEq,Int.reduceToNat,↓reduceIte]
          have hh : honestE m c = true := by
            simp only [honestE, Bool.or_eq_true, List.all_eq_true]
            exact .inr hall2
          simp [tupB, hmm, he, hh]
end Go.Proofs.Ytnmikopkjdekaaa

/- Models: the calls whose answers the document fixes (awake), over the abstract code. -/
-- fast
namespace Go.Proofs.Ytnmikopkjdekaaa
set_option linter.unusedSimpArgs false
set_option linter.unusedVariables false
open Go.RowKit Go.Lib

def wd1 : ByteArray := ⟨#[32, 1]⟩
def wd2 : ByteArray := ⟨#[32, 2]⟩
def wd12 : ByteArray := ⟨#[32, 1, 32, 2]⟩
def md0 : Mdl := ⟨2, [⟨8193, [2, 0]⟩, ⟨8194, [0, 1]⟩]⟩
def md1 : Mdl := ⟨0, []⟩
def md9 : Mdl := ⟨9, []⟩
def ct0 : Crt := ⟨6, 8193, wd2, [wd1], 0, 0, 0⟩
theorem k14_app : wd1 ++ wd2 = wd12 := by apply ByteArray.ext; apply Array.ext'; simp [wd1, wd2, wd12]
theorem sm0 : smallMd md0 := ⟨by decide, by intro x hx; simp [md0] at hx; rcases hx with rfl | rfl <;> exact ⟨by decide, by decide⟩⟩
theorem sm1 : smallMd md1 := ⟨by decide, by intro x hx; simp [md1] at hx⟩
theorem sm9 : smallMd md9 := ⟨by decide, by intro x hx; simp [md9] at hx⟩
theorem k14_word : mWordV md0 wd12 = .tup [.lst .ro 2 [.int .u8 1, .int .u8 0], .int .i64 0] := by kernel_rfl
theorem k14_set : mSetV md0 [wd1, wd2] = .tup [.lst .ro 2 [.int .u8 2, .int .u8 1], .int .i64 0] := by kernel_rfl
theorem k14_holds : tupB (mdMay md0 && (wordMay wd12 && wordMay wd1)) (withinR (wordR md0.rows wd12) (wordR md0.rows wd1)) = .tup [.bool false, .int .i64 0] := by kernel_rfl
theorem k14_speaks : tupB (mdMay md0 && (setMay [wd1, wd2] && setMay [wd2])) (withinR (setN md0.rows [wd2]) (setN md0.rows [wd1, wd2])) = .tup [.bool true, .int .i64 0] := by kernel_rfl
theorem k14_none : mWordV md1 wd1 = .tup [.lst .clip 0 [], .int .i64 2] := by kernel_rfl
theorem k14_hon : tupB (mdMay md0 && decide (checkE ct0 = 0)) (honestE md0 ct0) = .tup [.bool false, .int .i64 0] := by kernel_rfl
theorem k14_may : mdMay md0 = true := by kernel_rfl
theorem k14_may9 : mdMay md9 = false := by kernel_rfl
theorem q14_1 : PCalls Try.prog 29 [.lst .ro 1 [.int .u16 8193]] (.str wd1) := p_rof [8193] (by decide) (by decide)
theorem q14_2 : PCalls Try.prog 29 [.lst .ro 1 [.int .u16 8194]] (.str wd2) := p_rof [8194] (by decide) (by decide)
abbrev md0V : AV := .agg [.int .i64 2, .lst .ro 2 [.int .u16 8193, .lst .ro 2 [.int .u8 2, .int .u8 0], .int .u16 8194, .lst .ro 2 [.int .u8 0, .int .u8 1]]]
theorem q14_word : PCalls Try.prog 14 [md0V, .str wd12] (.tup [.lst .ro 2 [.int .u8 1, .int .u8 0], .int .i64 0]) := by
  have q := p_mWord md0 wd12 sm0 (by decide)
  rw [k14_word] at q; exact q
theorem q14_set : PCalls Try.prog 16 [md0V, .lst .ro 2 [.str wd1, .str wd2]] (.tup [.lst .ro 2 [.int .u8 2, .int .u8 1], .int .i64 0]) := by
  have q := p_mSet md0 [wd1, wd2] sm0 (by decide) (by intro w hw; simp at hw; rcases hw with rfl | rfl <;> decide)
  rw [k14_set] at q; exact q
theorem q14_holds : PCalls Try.prog 18 [md0V, .agg [.str wd12, .str wd1]] (.tup [.bool false, .int .i64 0]) := by
  have q := p_mHolds md0 wd12 wd1 sm0 (by decide) (by decide)
  rw [k14_holds] at q; exact q
theorem q14_speaks : PCalls Try.prog 20 [md0V, .lst .ro 2 [.str wd1, .str wd2], .lst .ro 1 [.str wd2]] (.tup [.bool true, .int .i64 0]) := by
  have q := p_mSpeaks md0 [wd1, wd2] [wd2] sm0 ⟨by decide, by intro w hw; simp at hw; rcases hw with rfl | rfl <;> decide⟩ ⟨by decide, by intro w hw; simp at hw; subst hw; decide⟩
  rw [k14_speaks] at q; exact q
theorem q14_none : PCalls Try.prog 14 [.agg [.int .i64 0, .lst .clip 0 []], .str wd1] (.tup [.lst .clip 0 [], .int .i64 2]) := by
  have q := p_mWord md1 wd1 sm1 (by decide)
  rw [k14_none] at q
  refine PCalls.argd ?_
  simp only [rdpw]; exact q
theorem q14_hon : PCalls Try.prog 22 [md0V, .agg [.int .i64 6, .int .u16 8193, .str wd2, .lst .ro 1 [.str wd1], .int .i64 0, .int .i64 0, .int .i64 0]] (.tup [.bool false, .int .i64 0]) := by
  have q := p_mHonest md0 ct0 sm0 ⟨by decide, by decide, by decide, by intro w hw; simp [ct0] at hw; subst hw; decide⟩ (by intro w hw; simp [ct0] at hw; subst hw; decide) (by decide)
  rw [k14_hon] at q; exact q
theorem q14_may : PCalls Try.prog 12 [md0V] (.bool true) := by
  have q := p_mmay md0 sm0.1 sm0.2
  rw [k14_may] at q; exact q
theorem q14_may9 : PCalls Try.prog 12 [.agg [.int .i64 9, .lst .clip 0 []]] (.bool false) := by
  have q := p_mmay md9 sm9.1 sm9.2
  rw [k14_may9] at q
  refine PCalls.argd ?_
  simp only [rdpw]; exact q
set_option maxRecDepth 100000 in
set_option maxHeartbeats 8000000 in
theorem p14_awake : PCalls Try.prog 9 [] (.bool true) := by
  refine pcalls_of rfl rfl (acalls_of mixed J_law14_awake_ok (Nat.le_of_ble_eq_true rfl) ?_); simp only [J_law14_awake, wk,if_true,if_false,forall_const,implies_true,ne_eq,eq_self,Nat.reduceEqDiff,Nat.reduceAdd,Nat.reduceMul,Nat.reduceSub,Nat.reduceLeDiff,Nat.reduceLT,Int.reduceEq,Int.reduceLT,Int.reduceLE,Int.reduceAdd,Int.reduceSub,Int.reduceMul,Int.reduceNeg,Int.reduceNe,reduceCtorEq,Int.reduceToNat,↓reduceIte]
  refine PCalls.use (q14_1) ?_; simp only [wk,if_true,if_false,forall_const,implies_true,ne_eq,eq_self,Nat.reduceEqDiff,Nat.reduceAdd,Nat.reduceMul,Nat.reduceSub,Nat.reduceLeDiff,Nat.reduceLT,Int.reduceEq,Int.reduceLT,Int.reduceLE,Int.reduceAdd,Int.reduceSub,Int.reduceMul,Int.reduceNeg,Int.reduceNe,reduceCtorEq,Int.reduceToNat,↓reduceIte]
  refine PCalls.use (q14_2) ?_; simp only [wk,if_true,if_false,forall_const,implies_true,ne_eq,eq_self,Nat.reduceEqDiff,Nat.reduceAdd,Nat.reduceMul,Nat.reduceSub,Nat.reduceLeDiff,Nat.reduceLT,Int.reduceEq,Int.reduceLT,Int.reduceLE,Int.reduceAdd,Int.reduceSub,Int.reduceMul,Int.reduceNeg,Int.reduceNe,reduceCtorEq,Int.reduceToNat,↓reduceIte]
  rw [k14_app]
  refine ⟨by decide, ?_⟩
  refine PCalls.use (q14_word) ?_; simp only [wk,if_true,if_false,forall_const,implies_true,ne_eq,eq_self,Nat.reduceEqDiff,Nat.reduceAdd,Nat.reduceMul,Nat.reduceSub,Nat.reduceLeDiff,Nat.reduceLT,Int.reduceEq,Int.reduceLT,Int.reduceLE,Int.reduceAdd,Int.reduceSub,Int.reduceMul,Int.reduceNeg,Int.reduceNe,reduceCtorEq,Int.reduceToNat,↓reduceIte]
  refine PCalls.use (q14_set) ?_; simp only [wk,if_true,if_false,forall_const,implies_true,ne_eq,eq_self,Nat.reduceEqDiff,Nat.reduceAdd,Nat.reduceMul,Nat.reduceSub,Nat.reduceLeDiff,Nat.reduceLT,Int.reduceEq,Int.reduceLT,Int.reduceLE,Int.reduceAdd,Int.reduceSub,Int.reduceMul,Int.reduceNeg,Int.reduceNe,reduceCtorEq,Int.reduceToNat,↓reduceIte]
  refine ⟨by decide, ?_⟩
  try rw [k14_app]
  refine PCalls.use (q14_holds) ?_; simp only [wk,if_true,if_false,forall_const,implies_true,ne_eq,eq_self,Nat.reduceEqDiff,Nat.reduceAdd,Nat.reduceMul,Nat.reduceSub,Nat.reduceLeDiff,Nat.reduceLT,Int.reduceEq,Int.reduceLT,Int.reduceLE,Int.reduceAdd,Int.reduceSub,Int.reduceMul,Int.reduceNeg,Int.reduceNe,reduceCtorEq,Int.reduceToNat,↓reduceIte]
  refine PCalls.use (q14_speaks) ?_; simp only [wk,if_true,if_false,forall_const,implies_true,ne_eq,eq_self,Nat.reduceEqDiff,Nat.reduceAdd,Nat.reduceMul,Nat.reduceSub,Nat.reduceLeDiff,Nat.reduceLT,Int.reduceEq,Int.reduceLT,Int.reduceLE,Int.reduceAdd,Int.reduceSub,Int.reduceMul,Int.reduceNeg,Int.reduceNe,reduceCtorEq,Int.reduceToNat,↓reduceIte]
  refine PCalls.use (q14_none) ?_; simp only [wk,if_true,if_false,forall_const,implies_true,ne_eq,eq_self,Nat.reduceEqDiff,Nat.reduceAdd,Nat.reduceMul,Nat.reduceSub,Nat.reduceLeDiff,Nat.reduceLT,Int.reduceEq,Int.reduceLT,Int.reduceLE,Int.reduceAdd,Int.reduceSub,Int.reduceMul,Int.reduceNeg,Int.reduceNe,reduceCtorEq,Int.reduceToNat,↓reduceIte]
  refine PCalls.use (q14_hon) ?_; simp only [wk,if_true,if_false,forall_const,implies_true,ne_eq,eq_self,Nat.reduceEqDiff,Nat.reduceAdd,Nat.reduceMul,Nat.reduceSub,Nat.reduceLeDiff,Nat.reduceLT,Int.reduceEq,Int.reduceLT,Int.reduceLE,Int.reduceAdd,Int.reduceSub,Int.reduceMul,Int.reduceNeg,Int.reduceNe,reduceCtorEq,Int.reduceToNat,↓reduceIte]
  refine ⟨[1, 0], rfl, rfl, fun _ => ⟨[2, 1], rfl, rfl, fun _ => ?_, fun h => absurd rfl h⟩, fun h => absurd rfl h⟩
  try simp only [wk,if_true,if_false,forall_const,implies_true,ne_eq,eq_self,Nat.reduceEqDiff,Nat.reduceAdd,Nat.reduceMul,Nat.reduceSub,Nat.reduceLeDiff,Nat.reduceLT,Int.reduceEq,Int.reduceLT,Int.reduceLE,Int.reduceAdd,Int.reduceSub,Int.reduceMul,Int.reduceNeg,Int.reduceNe,reduceCtorEq,Int.reduceToNat,↓reduceIte]
  refine PCalls.use (q14_may) ?_; simp only [wk,if_true,if_false,forall_const,implies_true,ne_eq,eq_self,Nat.reduceEqDiff,Nat.reduceAdd,Nat.reduceMul,Nat.reduceSub,Nat.reduceLeDiff,Nat.reduceLT,Int.reduceEq,Int.reduceLT,Int.reduceLE,Int.reduceAdd,Int.reduceSub,Int.reduceMul,Int.reduceNeg,Int.reduceNe,reduceCtorEq,Int.reduceToNat,↓reduceIte]
  refine PCalls.use (q14_may9) ?_; simp only [wk,if_true,if_false,forall_const,implies_true,ne_eq,eq_self,Nat.reduceEqDiff,Nat.reduceAdd,Nat.reduceMul,Nat.reduceSub,Nat.reduceLeDiff,Nat.reduceLT,Int.reduceEq,Int.reduceLT,Int.reduceLE,Int.reduceAdd,Int.reduceSub,Int.reduceMul,Int.reduceNeg,Int.reduceNe,reduceCtorEq,Int.reduceToNat,↓reduceIte]
end Go.Proofs.Ytnmikopkjdekaaa

/- Models: what is too much to be looked at (large), over the abstract code. -/
-- fast
namespace Go.Proofs.Ytnmikopkjdekaaa
set_option linter.unusedSimpArgs false
set_option linter.unusedVariables false
open Go.RowKit Go.Lib

def setsC (l : List (List ByteArray)) : List AV := l.map fun s => .lst .ro s.length (s.map .str)
theorem frees_setsC (l : List (List ByteArray)) : free.frees (setsC l) = true := by
  induction l with
  | nil => rfl
  | cons s l ih => simp only [setsC, List.map_cons, free.frees, free, frees_strs, Bool.true_and] at ih ⊢; exact ih
theorem setsC_at {l : List (List ByteArray)} {i : Nat} (h : i < l.length) : (setsC l).drop i = .lst .ro l[i].length (l[i].map .str) :: (setsC l).drop (i + 1) := by
  unfold setsC
  rw [List.drop_eq_getElem_cons (by simpa using h)]; simp
theorem strs_at {l : List ByteArray} {i : Nat} (h : i < l.length) : (l.map AV.str).drop i = .str l[i] :: (l.map AV.str).drop (i + 1) := by
  rw [List.drop_eq_getElem_cons (by simpa using h)]; simp
def bigS (s : List ByteArray) : Bool := decide (30 < s.length) || s.any fun w => decide (100 < w.size)
def largeM (m : Mdl) (l : List (List ByteArray)) : Bool := decide (30 < m.rows.length) || (m.rows.any fun x => decide (20 < x.to.length)) || l.any bigS
theorem any_take {α : Type} {l : List α} {i : Nat} (h : i < l.length) {p : α → Bool} (ha : (l.take i).any p = false) (hp : p l[i] = false) : (l.take (i + 1)).any p = false := by
  rw [List.take_succ_eq_append_getElem h, List.any_append, ha]; simp [hp]
theorem any_mem {α : Type} {l : List α} {i : Nat} (h : i < l.length) {p : α → Bool} (hp : p l[i] = true) : l.any p = true := List.any_eq_true.2 ⟨_, List.getElem_mem h, hp⟩
set_option maxRecDepth 100000 in
set_option maxHeartbeats 8000000 in
theorem p14_large (m : Mdl) (l : List (List ByteArray)) (hl : l.length ≤ 1000) : PCalls Try.prog 10 [mdV m, .lst .ro l.length (setsC l)] (.bool (largeM m l)) := by
  refine pcalls_of (by simp [free.frees, free, free_mdV, frees_setsC]) rfl (acalls_of mixed J_law14_large_ok (Nat.le_of_ble_eq_true rfl) ?_); simp only [J_law14_large, mdV, wk,if_true,if_false,forall_const,implies_true,ne_eq,eq_self,Nat.reduceEqDiff,Nat.reduceAdd,Nat.reduceMul,Nat.reduceSub,Nat.reduceLeDiff,Nat.reduceLT,Int.reduceEq,Int.reduceLT,Int.reduceLE,Int.reduceAdd,Int.reduceSub,Int.reduceMul,Int.reduceNeg,Int.reduceNe,reduceCtorEq,Int.reduceToNat,↓reduceIte]
  refine ⟨fun h1 => boolE (by simp only [largeM]; rw [decide_eq_true (by omega)]; rfl), fun h1 => ?_⟩
  have e1 : decide (30 < m.rows.length) = false := by simp; omega
  refine W_loop (fun n fr h => ∃ i : Nat, i ≤ m.rows.length ∧ n = m.rows.length - i ∧ (m.rows.take i).any (fun x => decide (20 < x.to.length)) = false ∧ fr = [(1, .lst .ro l.length (setsC l)), (2, .ptr 0 0), (14, .int .i64 m.rows.length), (15, .int .i64 i)] ∧ h = [some (false, [.int .i64 m.n, .lst .ro m.rows.length (rowsC m.rows)])]) m.rows.length ⟨0, by omega, by omega, by simp, rfl, rfl⟩ ?_
  rintro n fr h' ⟨i, hi, rfl, hall, rfl, rfl⟩
  simp only [J_law14_large_j6, wk,if_true,if_false,forall_const,implies_true,ne_eq,eq_self,Nat.reduceEqDiff,Nat.reduceAdd,Nat.reduceMul,Nat.reduceSub,Nat.reduceLeDiff,Nat.reduceLT,Int.reduceEq,Int.reduceLT,Int.reduceLE,Int.reduceAdd,Int.reduceSub,Int.reduceMul,Int.reduceNeg,Int.reduceNe,reduceCtorEq,Int.reduceToNat,↓reduceIte]
  refine ⟨fun hlt => ?_, fun hge => ?_⟩
  · have hil : i < m.rows.length := by omega
    have hin : ((0 ≤ (i : Int)) ∧ (i : Int) < (m.rows.length : Int)) = True := by simp; omega
    have hd := rowsC_at hil
    simp only [rowC, kA, List.cons_append, List.nil_append] at hd
    simp only [hin, Int.toNat_natCast, hd, wk,if_true,if_false,forall_const,implies_true,ne_eq,eq_self,Nat.reduceEqDiff,Nat.reduceAdd,Nat.reduceMul,Nat.reduceSub,Nat.reduceLeDiff,Nat.reduceLT,Int.reduceEq,Int.reduceLT,Int.reduceLE,Int.reduceAdd,Int.reduceSub,Int.reduceMul,Int.reduceNeg,Int.reduceNe,reduceCtorEq,Int.reduceToNat,↓reduceIte]
    refine ⟨fun hb => boolE ?_, fun hb => ⟨inR_of (by omega) (by omega), m.rows.length - (i + 1), by omega, i + 1, by omega, rfl, any_take hil hall (by simp; omega), by simp⟩⟩
    have := any_mem hil (p := fun x : Row => decide (20 < x.to.length)) (by simp; omega)
    simp only [largeM, this, Bool.or_true, Bool.true_or]
  · obtain rfl : i = m.rows.length := by omega
    rw [List.take_of_length_le (Nat.le_refl _)] at hall
    simp only [J_law14_large_j5, wk,if_true,if_false,forall_const,implies_true,ne_eq,eq_self,Nat.reduceEqDiff,Nat.reduceAdd,Nat.reduceMul,Nat.reduceSub,Nat.reduceLeDiff,Nat.reduceLT,Int.reduceEq,Int.reduceLT,Int.reduceLE,Int.reduceAdd,Int.reduceSub,Int.reduceMul,Int.reduceNeg,Int.reduceNe,reduceCtorEq,Int.reduceToNat,↓reduceIte]
    refine W_loop (fun n fr h => ∃ i : Nat, i ≤ l.length ∧ n = l.length - i ∧ (l.take i).any bigS = false ∧ fr = [(1, .lst .ro l.length (setsC l)), (28, .int .i64 l.length), (29, .int .i64 i)]) l.length ⟨0, by omega, by omega, by simp, rfl⟩ ?_
    rintro n fr h' ⟨i, hi, rfl, hall2, rfl⟩
    simp only [J_law14_large_j4, wk,if_true,if_false,forall_const,implies_true,ne_eq,eq_self,Nat.reduceEqDiff,Nat.reduceAdd,Nat.reduceMul,Nat.reduceSub,Nat.reduceLeDiff,Nat.reduceLT,Int.reduceEq,Int.reduceLT,Int.reduceLE,Int.reduceAdd,Int.reduceSub,Int.reduceMul,Int.reduceNeg,Int.reduceNe,reduceCtorEq,Int.reduceToNat,↓reduceIte]
    refine ⟨fun hlt => ?_, fun hge => ?_⟩
    · have hil : i < l.length := by omega
      have hin : ((0 ≤ (i : Int)) ∧ (i : Int) < (l.length : Int)) = True := by simp; omega
      have hd := setsC_at hil
      have big : bigS l[i] = true → largeM m l = true := fun hb => by simp only [largeM, any_mem hil hb, Bool.or_true]
      simp only [hin, Int.toNat_natCast, hd, wk,if_true,if_false,forall_const,implies_true,ne_eq,eq_self,Nat.reduceEqDiff,Nat.reduceAdd,Nat.reduceMul,Nat.reduceSub,Nat.reduceLeDiff,Nat.reduceLT,Int.reduceEq,Int.reduceLT,Int.reduceLE,Int.reduceAdd,Int.reduceSub,Int.reduceMul,Int.reduceNeg,Int.reduceNe,reduceCtorEq,Int.reduceToNat,↓reduceIte]
      refine ⟨fun hb => boolE (big (by simp only [bigS]; rw [decide_eq_true (by omega)]; rfl)).symm, fun hb => ?_⟩
      generalize hx : l[i] = s at hd big hb ⊢
      refine W_loop (fun n fr h => ∃ j : Nat, j ≤ s.length ∧ n = s.length - j ∧ (s.take j).any (fun w => decide (100 < w.size)) = false ∧ fr = [(1, .lst .ro l.length (setsC l)), (6, .int .i64 i), (28, .int .i64 l.length), (29, .int .i64 i), (42, .int .i64 s.length), (43, .int .i64 j)]) s.length ⟨0, by omega, by omega, by simp, rfl⟩ ?_
      rintro n fr h' ⟨j, hj, rfl, hall3, rfl⟩
      simp only [J_law14_large_j3, wk,if_true,if_false,forall_const,implies_true,ne_eq,eq_self,Nat.reduceEqDiff,Nat.reduceAdd,Nat.reduceMul,Nat.reduceSub,Nat.reduceLeDiff,Nat.reduceLT,Int.reduceEq,Int.reduceLT,Int.reduceLE,Int.reduceAdd,Int.reduceSub,Int.reduceMul,Int.reduceNeg,Int.reduceNe,reduceCtorEq,Int.reduceToNat,↓reduceIte]
      refine ⟨fun hlt => ?_, fun hge => ?_⟩
      · have hjl : j < s.length := by omega
        have hjn : ((0 ≤ (j : Int)) ∧ (j : Int) < (s.length : Int)) = True := by simp; omega
        have hd2 := strs_at hjl
        simp only [hin, hjn, Int.toNat_natCast, hd, hd2, wk,if_true,if_false,forall_const,implies_true,ne_eq,eq_self,Nat.reduceEqDiff,Nat.reduceAdd,Nat.reduceMul,Nat.reduceSub,Nat.reduceLeDiff,Nat.reduceLT,Int.reduceEq,Int.reduceLT,Int.reduceLE,Int.reduceAdd,Int.reduceSub,Int.reduceMul,Int.reduceNeg,Int.reduceNe,reduceCtorEq,Int.reduceToNat,↓reduceIte]
        refine ⟨fun hb2 => boolE (big ?_).symm, fun hb2 => ⟨inR_of (by omega) (by omega), s.length - (j + 1), by omega, j + 1, by omega, rfl, any_take hjl hall3 (by simp; omega), by simp⟩⟩
        have := any_mem hjl (p := fun w : ByteArray => decide (100 < w.size)) (by simp; omega)
        simp only [bigS, this, Bool.or_true]
      · obtain rfl : j = s.length := by omega
        rw [List.take_of_length_le (Nat.le_refl _)] at hall3
        simp only [J_law14_large_j2, wk,if_true,if_false,forall_const,implies_true,ne_eq,eq_self,Nat.reduceEqDiff,Nat.reduceAdd,Nat.reduceMul,Nat.reduceSub,Nat.reduceLeDiff,Nat.reduceLT,Int.reduceEq,Int.reduceLT,Int.reduceLE,Int.reduceAdd,Int.reduceSub,Int.reduceMul,Int.reduceNeg,Int.reduceNe,reduceCtorEq,Int.reduceToNat,↓reduceIte]
        refine ⟨inR_of (by omega) (by omega), l.length - (i + 1), by omega, i + 1, by omega, rfl, any_take hil hall2 ?_, by simp⟩
        rw [hx]; simp only [bigS, hall3, Bool.or_false]; simp; omega
    · obtain rfl : i = l.length := by omega
      rw [List.take_of_length_le (Nat.le_refl _)] at hall2
      simp only [J_law14_large_j1, wk,if_true,if_false,forall_const,implies_true,ne_eq,eq_self,Nat.reduceEqDiff,Nat.reduceAdd,Nat.reduceMul,Nat.reduceSub,Nat.reduceLeDiff,Nat.reduceLT,Int.reduceEq,Int.reduceLT,Int.reduceLE,Int.reduceAdd,Int.reduceSub,Int.reduceMul,Int.reduceNeg,Int.reduceNe,reduceCtorEq,Int.reduceToNat,↓reduceIte]
      refine boolE ?_
      simp only [largeM, e1, hall, hall2]; rfl
end Go.Proofs.Ytnmikopkjdekaaa

/- ModelAround: who speaks for another speaks for it quoting, and quoted by, any third one. -/
-- fast
namespace Go.Proofs.Ytnmikopkjdekaaa
set_option linter.unusedSimpArgs false
set_option linter.unusedVariables false
open Go.RowKit Go.Lib

theorem may_two {w : ByteArray} (h : wordMay w = true) : w.size % 2 = 0 ∧ 2 ≤ w.size := by
  simp only [wordMay, Bool.and_eq_true, decide_eq_true_eq] at h; omega
theorem bit_quote (l : List Row) {a b : List ByteArray} (h : (quoteE a b).2 = 0) {i : Nat} (hi : i < 8) (k : Nat) : bitR (setN l (quoteE a b).1) i k = true ↔ ∃ j, j < 8 ∧ bitR (setN l a) i j = true ∧ bitR (setN l b) j k = true := by
  obtain ⟨ha, hb, _, hq, _⟩ := quote_ok h
  have hwa := (setMay_words ha).2
  have hwb := (setMay_words hb).2
  rw [hq, bit_setN l _ hi]
  constructor
  · rintro ⟨w, hw, h1⟩
    obtain ⟨x, hx, y, hy, rfl⟩ := mem_prodW.1 (mem_nrm.1 hw)
    rw [wordR_app l x y (may_two (hwa x hx)).1 (may_two (hwa x hx)).2 (may_two (hwb y hy)).1 (may_two (hwb y hy)).2, bit_thenR (wordR_length _ _) _ hi] at h1
    obtain ⟨j, hj, h2, h3⟩ := h1
    exact ⟨j, hj, (bit_setN l a hi j).2 ⟨x, hx, h2⟩, (bit_setN l b hj k).2 ⟨y, hy, h3⟩⟩
  · rintro ⟨j, hj, h2, h3⟩
    obtain ⟨x, hx, h2⟩ := (bit_setN l a hi j).1 h2
    obtain ⟨y, hy, h3⟩ := (bit_setN l b hj k).1 h3
    refine ⟨x ++ y, mem_nrm.2 (mem_prodW.2 ⟨x, hx, y, hy, rfl⟩), ?_⟩
    rw [wordR_app l x y (may_two (hwa x hx)).1 (may_two (hwa x hx)).2 (may_two (hwb y hy)).1 (may_two (hwb y hy)).2, bit_thenR (wordR_length _ _) _ hi]
    exact ⟨j, hj, h2, h3⟩
theorem bit_and (l : List Row) {a b : List ByteArray} (ha : setMay a = true) (hb : setMay b = true) (h : (andE a b).2 = 0) {i : Nat} (hi : i < 8) (k : Nat) : bitR (setN l (andE a b).1) i k = true ↔ bitR (setN l a) i k = true ∨ bitR (setN l b) i k = true := by
  obtain ⟨hq, _⟩ := and_ok ha hb h
  rw [hq, bit_setN l _ hi, bit_setN l _ hi, bit_setN l _ hi]
  constructor
  · rintro ⟨w, hw, h1⟩
    rcases List.mem_append.1 (mem_nrm.1 hw) with h | h
    · exact .inl ⟨w, h, h1⟩
    · exact .inr ⟨w, h, h1⟩
  · rintro (⟨w, hw, h1⟩ | ⟨w, hw, h1⟩)
    · exact ⟨w, mem_nrm.2 (List.mem_append.2 (.inl hw)), h1⟩
    · exact ⟨w, mem_nrm.2 (List.mem_append.2 (.inr hw)), h1⟩
theorem within_self (r : Rl) : withinR r r = true := (within_iff r r).2 fun _ _ _ h => h
theorem within_trans {r s t : Rl} (h1 : withinR r s = true) (h2 : withinR s t = true) : withinR r t = true := by
  rw [within_iff] at h1 h2 ⊢
  exact fun i hi j h => h2 i hi j (h1 i hi j h)
theorem within_and (l : List Row) {a b : List ByteArray} (ha : setMay a = true) (hb : setMay b = true) (h : (andE a b).2 = 0) (t : Rl) : withinR (setN l (andE a b).1) t = (withinR (setN l a) t && withinR (setN l b) t) := by
  rw [Bool.eq_iff_iff, Bool.and_eq_true]
  simp only [within_iff]
  constructor
  · intro q
    exact ⟨fun i hi j h1 => q i hi j ((bit_and l ha hb h hi j).2 (.inl h1)), fun i hi j h1 => q i hi j ((bit_and l ha hb h hi j).2 (.inr h1))⟩
  · rintro ⟨q1, q2⟩ i hi j h1
    rcases (bit_and l ha hb h hi j).1 h1 with h1 | h1
    · exact q1 i hi j h1
    · exact q2 i hi j h1
theorem and_within (l : List Row) {a b : List ByteArray} (ha : setMay a = true) (hb : setMay b = true) (h : (andE a b).2 = 0) : withinR (setN l a) (setN l (andE a b).1) = true ∧ withinR (setN l b) (setN l (andE a b).1) = true := by
  simp only [within_iff]
  exact ⟨fun i hi j h1 => (bit_and l ha hb h hi j).2 (.inl h1), fun i hi j h1 => (bit_and l ha hb h hi j).2 (.inr h1)⟩
theorem not_large {m : Mdl} {l : List (List ByteArray)} (h : largeM m l = false) (hat : ∀ x ∈ m.rows, x.atom < 65536) : smallMd m ∧ ∀ s ∈ l, s.length ≤ 30 ∧ ∀ w ∈ s, w.size ≤ 100 := by
  simp only [largeM, Bool.or_eq_false_iff, decide_eq_false_iff_not, List.any_eq_false, decide_eq_true_eq, bigS] at h
  obtain ⟨⟨h1, h2⟩, h3⟩ := h
  refine ⟨⟨by omega, fun x hx => ⟨hat x hx, by have := h2 x hx; omega⟩⟩, fun s hs => ?_⟩
  have := h3 s hs
  simp only [Bool.or_eq_true, decide_eq_true_eq, List.any_eq_true, not_or, not_exists, not_and] at this
  exact ⟨by omega, fun w hw => by have := this.2 w hw; omega⟩
end Go.Proofs.Ytnmikopkjdekaaa

/- ModelAround, over the abstract code. -/
-- fast
namespace Go.Proofs.Ytnmikopkjdekaaa
set_option linter.unusedSimpArgs false
set_option linter.unusedVariables false
open Go.RowKit Go.Lib

theorem tupB_cases (ok b : Bool) : (∃ e, tupB ok b = .tup [.bool false, .int .i64 e]) ∨ (tupB ok b = .tup [.bool true, .int .i64 0] ∧ ok = true ∧ b = true) := by
  cases ok <;> cases b
  · exact .inl ⟨2, rfl⟩
  · exact .inl ⟨2, rfl⟩
  · exact .inl ⟨0, rfl⟩
  · exact .inr ⟨rfl, rfl, rfl⟩
theorem quote_may {a b : List ByteArray} (h : (quoteE a b).2 = 0) : setMay (quoteE a b).1 = true ∧ (quoteE a b).1.length ≤ 1000 ∧ ∀ w ∈ (quoteE a b).1, w.size ≤ 1000 := by
  obtain ⟨_, _, _, hq, hm⟩ := quote_ok h
  rw [hq]
  have := setMay_small hm
  exact ⟨hm, Nat.le_trans this.1 (by omega), fun w hw => by have := this.2 w hw; omega⟩
theorem vSet_eq (r : List ByteArray × Int) : vSet r = .tup [.lst .ro r.1.length (r.1.map .str), .int .i64 r.2] := rfl
end Go.Proofs.Ytnmikopkjdekaaa

/- ModelMore: a set with one word more. -/
-- fast
namespace Go.Proofs.Ytnmikopkjdekaaa
set_option linter.unusedSimpArgs false
set_option linter.unusedVariables false
open Go.RowKit Go.Lib

theorem tupB_get (ok b : Bool) (h : ok = true) : tupB ok b = .tup [.bool b, .int .i64 0] := by subst h; rfl
end Go.Proofs.Ytnmikopkjdekaaa

/- ModelSpeaks: speaking for goes on from one to the next. -/
-- fast
namespace Go.Proofs.Ytnmikopkjdekaaa
set_option linter.unusedSimpArgs false
set_option linter.unusedVariables false
open Go.RowKit Go.Lib

abbrev moC (m : Mdl) : Hp := [some (false, [.int .i64 m.n, .lst .ro m.rows.length (rowsC m.rows)])]
abbrev stV (s : List ByteArray) : AV := .lst .ro s.length (s.map .str)
set_option maxRecDepth 100000 in
set_option maxHeartbeats 4000000 in
theorem a_ask (m : Mdl) (x y : List ByteArray) (hm : smallMd m) (hx : x.length ≤ 1000 ∧ ∀ w ∈ x, w.size ≤ 1000) (hy : y.length ≤ 1000 ∧ ∀ w ∈ y, w.size ≤ 1000) (hmm : mdMay m = true) (hmx : setMay x = true) (hmy : setMay y = true) (b : Bool) (hb : withinR (setN m.rows y) (setN m.rows x) = b) : ACalls Try.prog 25 [stV x, stV y, .ptr 0 0] (moC m) (fun a h' => a = .bool b ∧ h' = moC m) := by
  have q := p_mSpeaks m x y hm hx hy
  rw [tupB_get _ _ (by rw [hmm, hmx, hmy]; rfl), hb] at q
  simp only [mdV] at q
  refine acalls_of mixed J_law14_ModelSpeaks_1_ok (Nat.le_of_ble_eq_true rfl) ?_; simp only [J_law14_ModelSpeaks_1, moC, stV, wk,if_true,if_false,forall_const,implies_true,ne_eq,eq_self,Nat.reduceEqDiff,Nat.reduceAdd,Nat.reduceMul,Nat.reduceSub,Nat.reduceLeDiff,Nat.reduceLT,Int.reduceEq,Int.reduceLT,Int.reduceLE,Int.reduceAdd,Int.reduceSub,Int.reduceMul,Int.reduceNeg,Int.reduceNe,reduceCtorEq,Int.reduceToNat,↓reduceIte]
  refine PCalls.use (q) ?_; simp only [wk,if_true,if_false,forall_const,implies_true,ne_eq,eq_self,Nat.reduceEqDiff,Nat.reduceAdd,Nat.reduceMul,Nat.reduceSub,Nat.reduceLeDiff,Nat.reduceLT,Int.reduceEq,Int.reduceLT,Int.reduceLE,Int.reduceAdd,Int.reduceSub,Int.reduceMul,Int.reduceNeg,Int.reduceNe,reduceCtorEq,Int.reduceToNat,↓reduceIte]
  cases b <;> (try simp only [wk,if_true,if_false,forall_const,implies_true,ne_eq,eq_self,Nat.reduceEqDiff,Nat.reduceAdd,Nat.reduceMul,Nat.reduceSub,Nat.reduceLeDiff,Nat.reduceLT,Int.reduceEq,Int.reduceLT,Int.reduceLE,Int.reduceAdd,Int.reduceSub,Int.reduceMul,Int.reduceNeg,Int.reduceNe,reduceCtorEq,Int.reduceToNat,↓reduceIte]) <;> (try exact ⟨rfl, rfl⟩)
set_option maxRecDepth 100000 in
set_option maxHeartbeats 16000000 in
theorem a14_speaks (m : Mdl) (a b c : List ByteArray) (hat : ∀ x ∈ m.rows, x.atom < 65536) : ACalls Try.prog 5 [mdV m, .lst .ro a.length (a.map .str), .lst .ro b.length (b.map .str), .lst .ro c.length (c.map .str)] [] (fun a _ => a = .bool true) := by
  refine acalls_of mixed J_law14_ModelSpeaks_ok (Nat.le_of_ble_eq_true rfl) ?_; simp only [J_law14_ModelSpeaks, mdV, wk,if_true,if_false,forall_const,implies_true,ne_eq,eq_self,Nat.reduceEqDiff,Nat.reduceAdd,Nat.reduceMul,Nat.reduceSub,Nat.reduceLeDiff,Nat.reduceLT,Int.reduceEq,Int.reduceLT,Int.reduceLE,Int.reduceAdd,Int.reduceSub,Int.reduceMul,Int.reduceNeg,Int.reduceNe,reduceCtorEq,Int.reduceToNat,↓reduceIte]
  refine PCalls.use (p14_awake) ?_; simp only [wk,if_true,if_false,forall_const,implies_true,ne_eq,eq_self,Nat.reduceEqDiff,Nat.reduceAdd,Nat.reduceMul,Nat.reduceSub,Nat.reduceLeDiff,Nat.reduceLT,Int.reduceEq,Int.reduceLT,Int.reduceLE,Int.reduceAdd,Int.reduceSub,Int.reduceMul,Int.reduceNeg,Int.reduceNe,reduceCtorEq,Int.reduceToNat,↓reduceIte]
  have ql := p14_large m [a, b, c] (by simp)
  simp only [mdV, setsC, List.map_cons, List.map_nil, List.length_cons, List.length_nil] at ql
  refine PCalls.use (ql) ?_; simp only [wk,if_true,if_false,forall_const,implies_true,ne_eq,eq_self,Nat.reduceEqDiff,Nat.reduceAdd,Nat.reduceMul,Nat.reduceSub,Nat.reduceLeDiff,Nat.reduceLT,Int.reduceEq,Int.reduceLT,Int.reduceLE,Int.reduceAdd,Int.reduceSub,Int.reduceMul,Int.reduceNeg,Int.reduceNe,reduceCtorEq,Int.reduceToNat,↓reduceIte]
  cases hlg : largeM m [a, b, c] with
  | true => try simp only [wk,if_true,if_false,forall_const,implies_true,ne_eq,eq_self,Nat.reduceEqDiff,Nat.reduceAdd,Nat.reduceMul,Nat.reduceSub,Nat.reduceLeDiff,Nat.reduceLT,Int.reduceEq,Int.reduceLT,Int.reduceLE,Int.reduceAdd,Int.reduceSub,Int.reduceMul,Int.reduceNeg,Int.reduceNe,reduceCtorEq,Int.reduceToNat,↓reduceIte]
  | false =>
    try simp only [wk,if_true,if_false,forall_const,implies_true,ne_eq,eq_self,Nat.reduceEqDiff,Nat.reduceAdd,Nat.reduceMul,Nat.reduceSub,Nat.reduceLeDiff,Nat.reduceLT,Int.reduceEq,Int.reduceLT,Int.reduceLE,Int.reduceAdd,Int.reduceSub,Int.reduceMul,Int.reduceNeg,Int.reduceNe,reduceCtorEq,Int.reduceToNat,↓reduceIte]
    obtain ⟨hm, hsz⟩ := not_large hlg hat
    have ha := hsz a (by simp)
    have hb := hsz b (by simp)
    have hc := hsz c (by simp)
    have qm := p_mmay m hm.1 hm.2
    simp only [mdV] at qm
    refine PCalls.use (qm) ?_; simp only [wk,if_true,if_false,forall_const,implies_true,ne_eq,eq_self,Nat.reduceEqDiff,Nat.reduceAdd,Nat.reduceMul,Nat.reduceSub,Nat.reduceLeDiff,Nat.reduceLT,Int.reduceEq,Int.reduceLT,Int.reduceLE,Int.reduceAdd,Int.reduceSub,Int.reduceMul,Int.reduceNeg,Int.reduceNe,reduceCtorEq,Int.reduceToNat,↓reduceIte]
    cases hmm : mdMay m with
    | false => try simp only [wk,if_true,if_false,forall_const,implies_true,ne_eq,eq_self,Nat.reduceEqDiff,Nat.reduceAdd,Nat.reduceMul,Nat.reduceSub,Nat.reduceLeDiff,Nat.reduceLT,Int.reduceEq,Int.reduceLT,Int.reduceLE,Int.reduceAdd,Int.reduceSub,Int.reduceMul,Int.reduceNeg,Int.reduceNe,reduceCtorEq,Int.reduceToNat,↓reduceIte]
    | true =>
      try simp only [wk,if_true,if_false,forall_const,implies_true,ne_eq,eq_self,Nat.reduceEqDiff,Nat.reduceAdd,Nat.reduceMul,Nat.reduceSub,Nat.reduceLeDiff,Nat.reduceLT,Int.reduceEq,Int.reduceLT,Int.reduceLE,Int.reduceAdd,Int.reduceSub,Int.reduceMul,Int.reduceNeg,Int.reduceNe,reduceCtorEq,Int.reduceToNat,↓reduceIte]
      have bd : ∀ x : List ByteArray, (x.length ≤ 30 ∧ ∀ w ∈ x, w.size ≤ 100) → x.length ≤ 10000 ∧ ∀ w ∈ x, w.size ≤ 1000000 := fun x h => ⟨by omega, fun w hw => by have := h.2 w hw; omega⟩
      have qa := p_rsmay a (by omega) (fun x hx => by have := ha.2 x hx; omega)
      have qb := p_rsmay b (by omega) (fun x hx => by have := hb.2 x hx; omega)
      have qc := p_rsmay c (by omega) (fun x hx => by have := hc.2 x hx; omega)
      refine PCalls.use (qa) ?_; simp only [wk,if_true,if_false,forall_const,implies_true,ne_eq,eq_self,Nat.reduceEqDiff,Nat.reduceAdd,Nat.reduceMul,Nat.reduceSub,Nat.reduceLeDiff,Nat.reduceLT,Int.reduceEq,Int.reduceLT,Int.reduceLE,Int.reduceAdd,Int.reduceSub,Int.reduceMul,Int.reduceNeg,Int.reduceNe,reduceCtorEq,Int.reduceToNat,↓reduceIte]
      cases haa : setMay a with
      | false => try simp only [wk,if_true,if_false,forall_const,implies_true,ne_eq,eq_self,Nat.reduceEqDiff,Nat.reduceAdd,Nat.reduceMul,Nat.reduceSub,Nat.reduceLeDiff,Nat.reduceLT,Int.reduceEq,Int.reduceLT,Int.reduceLE,Int.reduceAdd,Int.reduceSub,Int.reduceMul,Int.reduceNeg,Int.reduceNe,reduceCtorEq,Int.reduceToNat,↓reduceIte]
      | true =>
      try simp only [wk,if_true,if_false,forall_const,implies_true,ne_eq,eq_self,Nat.reduceEqDiff,Nat.reduceAdd,Nat.reduceMul,Nat.reduceSub,Nat.reduceLeDiff,Nat.reduceLT,Int.reduceEq,Int.reduceLT,Int.reduceLE,Int.reduceAdd,Int.reduceSub,Int.reduceMul,Int.reduceNeg,Int.reduceNe,reduceCtorEq,Int.reduceToNat,↓reduceIte]
      refine PCalls.use (qb) ?_; simp only [wk,if_true,if_false,forall_const,implies_true,ne_eq,eq_self,Nat.reduceEqDiff,Nat.reduceAdd,Nat.reduceMul,Nat.reduceSub,Nat.reduceLeDiff,Nat.reduceLT,Int.reduceEq,Int.reduceLT,Int.reduceLE,Int.reduceAdd,Int.reduceSub,Int.reduceMul,Int.reduceNeg,Int.reduceNe,reduceCtorEq,Int.reduceToNat,↓reduceIte]
      cases hbb : setMay b with
      | false => try simp only [wk,if_true,if_false,forall_const,implies_true,ne_eq,eq_self,Nat.reduceEqDiff,Nat.reduceAdd,Nat.reduceMul,Nat.reduceSub,Nat.reduceLeDiff,Nat.reduceLT,Int.reduceEq,Int.reduceLT,Int.reduceLE,Int.reduceAdd,Int.reduceSub,Int.reduceMul,Int.reduceNeg,Int.reduceNe,reduceCtorEq,Int.reduceToNat,↓reduceIte]
      | true =>
      try simp only [wk,if_true,if_false,forall_const,implies_true,ne_eq,eq_self,Nat.reduceEqDiff,Nat.reduceAdd,Nat.reduceMul,Nat.reduceSub,Nat.reduceLeDiff,Nat.reduceLT,Int.reduceEq,Int.reduceLT,Int.reduceLE,Int.reduceAdd,Int.reduceSub,Int.reduceMul,Int.reduceNeg,Int.reduceNe,reduceCtorEq,Int.reduceToNat,↓reduceIte]
      refine PCalls.use (qc) ?_; simp only [wk,if_true,if_false,forall_const,implies_true,ne_eq,eq_self,Nat.reduceEqDiff,Nat.reduceAdd,Nat.reduceMul,Nat.reduceSub,Nat.reduceLeDiff,Nat.reduceLT,Int.reduceEq,Int.reduceLT,Int.reduceLE,Int.reduceAdd,Int.reduceSub,Int.reduceMul,Int.reduceNeg,Int.reduceNe,reduceCtorEq,Int.reduceToNat,↓reduceIte]
      cases hcc : setMay c with
      | false => try simp only [wk,if_true,if_false,forall_const,implies_true,ne_eq,eq_self,Nat.reduceEqDiff,Nat.reduceAdd,Nat.reduceMul,Nat.reduceSub,Nat.reduceLeDiff,Nat.reduceLT,Int.reduceEq,Int.reduceLT,Int.reduceLE,Int.reduceAdd,Int.reduceSub,Int.reduceMul,Int.reduceNeg,Int.reduceNe,reduceCtorEq,Int.reduceToNat,↓reduceIte]
      | true =>
      try simp only [wk,if_true,if_false,forall_const,implies_true,ne_eq,eq_self,Nat.reduceEqDiff,Nat.reduceAdd,Nat.reduceMul,Nat.reduceSub,Nat.reduceLeDiff,Nat.reduceLT,Int.reduceEq,Int.reduceLT,Int.reduceLE,Int.reduceAdd,Int.reduceSub,Int.reduceMul,Int.reduceNeg,Int.reduceNe,reduceCtorEq,Int.reduceToNat,↓reduceIte]
      have q1 := p_rand b c (bd b hb).1 (bd c hc).1 (bd b hb).2 (bd c hc).2
      have q2 := p_rand a b (bd a ha).1 (bd b hb).1 (bd a ha).2 (bd b hb).2
      simp only [vSet_eq] at q1 q2
      have sm : ∀ x : List ByteArray, (x.length ≤ 30 ∧ ∀ w ∈ x, w.size ≤ 100) → x.length ≤ 1000 ∧ ∀ w ∈ x, w.size ≤ 1000 := fun x h => ⟨by omega, fun w hw => by have := h.2 w hw; omega⟩
      have and_sm : ∀ x y, setMay x = true → setMay y = true → (andE x y).2 = 0 → setMay (andE x y).1 = true ∧ (andE x y).1.length ≤ 1000 ∧ ∀ w ∈ (andE x y).1, w.size ≤ 1000 := fun x y hx hy h => by
        obtain ⟨hq, hm⟩ := and_ok hx hy h
        rw [hq]
        have := setMay_small hm
        exact ⟨hm, Nat.le_trans this.1 (by omega), fun w hw => by have := this.2 w hw; omega⟩
      have saa := a_ask m a a hm (sm a ha) (sm a ha) hmm haa haa true (within_self _)
      have sab := a_ask m a b hm (sm a ha) (sm b hb) hmm haa hbb
      have sbc := a_ask m b c hm (sm b hb) (sm c hc) hmm hbb hcc
      have sac := a_ask m a c hm (sm a ha) (sm c hc) hmm haa hcc
      have sand := fun (h : (andE b c).2 = 0) => a_ask m a (andE b c).1 hm (sm a ha) (and_sm b c hbb hcc h).2 hmm haa (and_sm b c hbb hcc h).1
      have wand := fun (h : (andE b c).2 = 0) => within_and m.rows hbb hcc h (setN m.rows a)
      have tr : withinR (setN m.rows b) (setN m.rows a) = true → withinR (setN m.rows c) (setN m.rows b) = true → withinR (setN m.rows c) (setN m.rows a) = true := fun h1 h2 => within_trans h2 h1
      have s3 := fun (h : (andE a b).2 = 0) => a_ask m (andE a b).1 a hm (and_sm a b haa hbb h).2 (sm a ha) hmm (and_sm a b haa hbb h).1 haa true (and_within m.rows haa hbb h).1
      have s4 := fun (h : (andE a b).2 = 0) => a_ask m (andE a b).1 b hm (and_sm a b haa hbb h).2 (sm b hb) hmm (and_sm a b haa hbb h).1 hbb true (and_within m.rows haa hbb h).2
      have s5 := fun (h : (andE a b).2 = 0) (hac : withinR (setN m.rows c) (setN m.rows a) = true) => a_ask m (andE a b).1 c hm (and_sm a b haa hbb h).2 (sm c hc) hmm (and_sm a b haa hbb h).1 hcc true (within_trans hac (and_within m.rows haa hbb h).1)
      simp only [moC, stV] at saa sab sbc sac sand s3 s4 s5
      refine ACalls.use saa ?_; rintro _ _ ⟨rfl, rfl⟩; simp only [wk,if_true,if_false,forall_const,implies_true,ne_eq,eq_self,Nat.reduceEqDiff,Nat.reduceAdd,Nat.reduceMul,Nat.reduceSub,Nat.reduceLeDiff,Nat.reduceLT,Int.reduceEq,Int.reduceLT,Int.reduceLE,Int.reduceAdd,Int.reduceSub,Int.reduceMul,Int.reduceNeg,Int.reduceNe,reduceCtorEq,Int.reduceToNat,↓reduceIte]
      cases hab : withinR (setN m.rows b) (setN m.rows a) <;> cases hbc : withinR (setN m.rows c) (setN m.rows b) <;> cases hac : withinR (setN m.rows c) (setN m.rows a)
      case' true.true.false =>
        exfalso
        rw [tr hab hbc] at hac
        cases hac
      all_goals
        rw [hab] at wand
        rw [hac] at wand
        simp only [Bool.and_false, Bool.false_and, Bool.and_self, Bool.true_and, Bool.and_true] at wand
        repeat (first | (refine ACalls.use (sab _ hab) ?_; rintro _ _ ⟨rfl, rfl⟩; simp only [wk,if_true,if_false,forall_const,implies_true,ne_eq,eq_self,Nat.reduceEqDiff,Nat.reduceAdd,Nat.reduceMul,Nat.reduceSub,Nat.reduceLeDiff,Nat.reduceLT,Int.reduceEq,Int.reduceLT,Int.reduceLE,Int.reduceAdd,Int.reduceSub,Int.reduceMul,Int.reduceNeg,Int.reduceNe,reduceCtorEq,Int.reduceToNat,↓reduceIte]) | (refine ACalls.use (sbc _ hbc) ?_; rintro _ _ ⟨rfl, rfl⟩; simp only [wk,if_true,if_false,forall_const,implies_true,ne_eq,eq_self,Nat.reduceEqDiff,Nat.reduceAdd,Nat.reduceMul,Nat.reduceSub,Nat.reduceLeDiff,Nat.reduceLT,Int.reduceEq,Int.reduceLT,Int.reduceLE,Int.reduceAdd,Int.reduceSub,Int.reduceMul,Int.reduceNeg,Int.reduceNe,reduceCtorEq,Int.reduceToNat,↓reduceIte]) | (refine ACalls.use (sac _ hac) ?_; rintro _ _ ⟨rfl, rfl⟩; simp only [wk,if_true,if_false,forall_const,implies_true,ne_eq,eq_self,Nat.reduceEqDiff,Nat.reduceAdd,Nat.reduceMul,Nat.reduceSub,Nat.reduceLeDiff,Nat.reduceLT,Int.reduceEq,Int.reduceLT,Int.reduceLE,Int.reduceAdd,Int.reduceSub,Int.reduceMul,Int.reduceNeg,Int.reduceNe,reduceCtorEq,Int.reduceToNat,↓reduceIte]))
        (refine PCalls.use q1 ?_; simp only [wk,if_true,if_false,forall_const,implies_true,ne_eq,eq_self,Nat.reduceEqDiff,Nat.reduceAdd,Nat.reduceMul,Nat.reduceSub,Nat.reduceLeDiff,Nat.reduceLT,Int.reduceEq,Int.reduceLT,Int.reduceLE,Int.reduceAdd,Int.reduceSub,Int.reduceMul,Int.reduceNeg,Int.reduceNe,reduceCtorEq,Int.reduceToNat,↓reduceIte])
        refine ⟨fun e1 => ?_, fun e1 => ?_⟩
        · repeat (first | (refine ACalls.use (sab _ hab) ?_; rintro _ _ ⟨rfl, rfl⟩; simp only [wk,if_true,if_false,forall_const,implies_true,ne_eq,eq_self,Nat.reduceEqDiff,Nat.reduceAdd,Nat.reduceMul,Nat.reduceSub,Nat.reduceLeDiff,Nat.reduceLT,Int.reduceEq,Int.reduceLT,Int.reduceLE,Int.reduceAdd,Int.reduceSub,Int.reduceMul,Int.reduceNeg,Int.reduceNe,reduceCtorEq,Int.reduceToNat,↓reduceIte]) | (refine ACalls.use (sac _ hac) ?_; rintro _ _ ⟨rfl, rfl⟩; simp only [wk,if_true,if_false,forall_const,implies_true,ne_eq,eq_self,Nat.reduceEqDiff,Nat.reduceAdd,Nat.reduceMul,Nat.reduceSub,Nat.reduceLeDiff,Nat.reduceLT,Int.reduceEq,Int.reduceLT,Int.reduceLE,Int.reduceAdd,Int.reduceSub,Int.reduceMul,Int.reduceNeg,Int.reduceNe,reduceCtorEq,Int.reduceToNat,↓reduceIte]) | (refine ACalls.use (sand e1 _ (wand e1)) ?_; rintro _ _ ⟨rfl, rfl⟩; simp only [wk,if_true,if_false,forall_const,implies_true,ne_eq,eq_self,Nat.reduceEqDiff,Nat.reduceAdd,Nat.reduceMul,Nat.reduceSub,Nat.reduceLeDiff,Nat.reduceLT,Int.reduceEq,Int.reduceLT,Int.reduceLE,Int.reduceAdd,Int.reduceSub,Int.reduceMul,Int.reduceNeg,Int.reduceNe,reduceCtorEq,Int.reduceToNat,↓reduceIte]))
          (refine PCalls.use q2 ?_; simp only [wk,if_true,if_false,forall_const,implies_true,ne_eq,eq_self,Nat.reduceEqDiff,Nat.reduceAdd,Nat.reduceMul,Nat.reduceSub,Nat.reduceLeDiff,Nat.reduceLT,Int.reduceEq,Int.reduceLT,Int.reduceLE,Int.reduceAdd,Int.reduceSub,Int.reduceMul,Int.reduceNeg,Int.reduceNe,reduceCtorEq,Int.reduceToNat,↓reduceIte])
          intro e2
          (repeat (first | (refine ACalls.use (s3 e2) ?_; rintro _ _ ⟨rfl, rfl⟩; simp only [wk,if_true,if_false,forall_const,implies_true,ne_eq,eq_self,Nat.reduceEqDiff,Nat.reduceAdd,Nat.reduceMul,Nat.reduceSub,Nat.reduceLeDiff,Nat.reduceLT,Int.reduceEq,Int.reduceLT,Int.reduceLE,Int.reduceAdd,Int.reduceSub,Int.reduceMul,Int.reduceNeg,Int.reduceNe,reduceCtorEq,Int.reduceToNat,↓reduceIte]) | (refine ACalls.use (s4 e2) ?_; rintro _ _ ⟨rfl, rfl⟩; simp only [wk,if_true,if_false,forall_const,implies_true,ne_eq,eq_self,Nat.reduceEqDiff,Nat.reduceAdd,Nat.reduceMul,Nat.reduceSub,Nat.reduceLeDiff,Nat.reduceLT,Int.reduceEq,Int.reduceLT,Int.reduceLE,Int.reduceAdd,Int.reduceSub,Int.reduceMul,Int.reduceNeg,Int.reduceNe,reduceCtorEq,Int.reduceToNat,↓reduceIte]) | (refine ACalls.use (sac _ hac) ?_; rintro _ _ ⟨rfl, rfl⟩; simp only [wk,if_true,if_false,forall_const,implies_true,ne_eq,eq_self,Nat.reduceEqDiff,Nat.reduceAdd,Nat.reduceMul,Nat.reduceSub,Nat.reduceLeDiff,Nat.reduceLT,Int.reduceEq,Int.reduceLT,Int.reduceLE,Int.reduceAdd,Int.reduceSub,Int.reduceMul,Int.reduceNeg,Int.reduceNe,reduceCtorEq,Int.reduceToNat,↓reduceIte]) | (refine ACalls.use (s5 e2 hac) ?_; rintro _ _ ⟨rfl, rfl⟩; simp only [wk,if_true,if_false,forall_const,implies_true,ne_eq,eq_self,Nat.reduceEqDiff,Nat.reduceAdd,Nat.reduceMul,Nat.reduceSub,Nat.reduceLeDiff,Nat.reduceLT,Int.reduceEq,Int.reduceLT,Int.reduceLE,Int.reduceAdd,Int.reduceSub,Int.reduceMul,Int.reduceNeg,Int.reduceNe,reduceCtorEq,Int.reduceToNat,↓reduceIte])))
        · (refine PCalls.use q2 ?_; simp only [wk,if_true,if_false,forall_const,implies_true,ne_eq,eq_self,Nat.reduceEqDiff,Nat.reduceAdd,Nat.reduceMul,Nat.reduceSub,Nat.reduceLeDiff,Nat.reduceLT,Int.reduceEq,Int.reduceLT,Int.reduceLE,Int.reduceAdd,Int.reduceSub,Int.reduceMul,Int.reduceNeg,Int.reduceNe,reduceCtorEq,Int.reduceToNat,↓reduceIte])
          intro e2
          (repeat (first | (refine ACalls.use (s3 e2) ?_; rintro _ _ ⟨rfl, rfl⟩; simp only [wk,if_true,if_false,forall_const,implies_true,ne_eq,eq_self,Nat.reduceEqDiff,Nat.reduceAdd,Nat.reduceMul,Nat.reduceSub,Nat.reduceLeDiff,Nat.reduceLT,Int.reduceEq,Int.reduceLT,Int.reduceLE,Int.reduceAdd,Int.reduceSub,Int.reduceMul,Int.reduceNeg,Int.reduceNe,reduceCtorEq,Int.reduceToNat,↓reduceIte]) | (refine ACalls.use (s4 e2) ?_; rintro _ _ ⟨rfl, rfl⟩; simp only [wk,if_true,if_false,forall_const,implies_true,ne_eq,eq_self,Nat.reduceEqDiff,Nat.reduceAdd,Nat.reduceMul,Nat.reduceSub,Nat.reduceLeDiff,Nat.reduceLT,Int.reduceEq,Int.reduceLT,Int.reduceLE,Int.reduceAdd,Int.reduceSub,Int.reduceMul,Int.reduceNeg,Int.reduceNe,reduceCtorEq,Int.reduceToNat,↓reduceIte]) | (refine ACalls.use (sac _ hac) ?_; rintro _ _ ⟨rfl, rfl⟩; simp only [wk,if_true,if_false,forall_const,implies_true,ne_eq,eq_self,Nat.reduceEqDiff,Nat.reduceAdd,Nat.reduceMul,Nat.reduceSub,Nat.reduceLeDiff,Nat.reduceLT,Int.reduceEq,Int.reduceLT,Int.reduceLE,Int.reduceAdd,Int.reduceSub,Int.reduceMul,Int.reduceNeg,Int.reduceNe,reduceCtorEq,Int.reduceToNat,↓reduceIte]) | (refine ACalls.use (s5 e2 hac) ?_; rintro _ _ ⟨rfl, rfl⟩; simp only [wk,if_true,if_false,forall_const,implies_true,ne_eq,eq_self,Nat.reduceEqDiff,Nat.reduceAdd,Nat.reduceMul,Nat.reduceSub,Nat.reduceLeDiff,Nat.reduceLT,Int.reduceEq,Int.reduceLT,Int.reduceLE,Int.reduceAdd,Int.reduceSub,Int.reduceMul,Int.reduceNeg,Int.reduceNe,reduceCtorEq,Int.reduceToNat,↓reduceIte])))
end Go.Proofs.Ytnmikopkjdekaaa

/- The law's own copy of a model; what the document tells, over the abstract code. -/
-- fast
namespace Go.Proofs.Ytnmikopkjdekaaa
set_option linter.unusedSimpArgs false
set_option linter.unusedVariables false
open Go.RowKit Go.Lib

theorem rowsC_take {l : List Row} {i : Nat} (h : i < l.length) : rowsC (l.take (i + 1)) = rowsC (l.take i) ++ [kA l[i].atom, .lst .ro l[i].to.length (rlC l[i].to)] := by
  simp only [rowsC]
  rw [List.take_succ_eq_append_getElem h, List.flatMap_append]; simp [rowC]
set_option maxRecDepth 100000 in
set_option maxHeartbeats 8000000 in
theorem p_own14 (m : Mdl) (hm : smallMd m) : PCalls Try.prog 11 [mdV m] (mdV m) := by
  refine pcalls_of (by simp [free.frees, free_mdV]) (free_mdV _) (acalls_of mixed J_law14_own_ok (Nat.le_of_ble_eq_true rfl) ?_); simp only [J_law14_own, mdV, wk,if_true,if_false,forall_const,implies_true,ne_eq,eq_self,Nat.reduceEqDiff,Nat.reduceAdd,Nat.reduceMul,Nat.reduceSub,Nat.reduceLeDiff,Nat.reduceLT,Int.reduceEq,Int.reduceLT,Int.reduceLE,Int.reduceAdd,Int.reduceSub,Int.reduceMul,Int.reduceNeg,Int.reduceNe,reduceCtorEq,Int.reduceToNat,↓reduceIte]
  refine W_loop (fun n fr h => ∃ i : Nat, i ≤ m.rows.length ∧ n = m.rows.length - i ∧ fr = [(1, .ptr 0 0), (2, .ptr 1 0), (3, .ptr 2 0), (10, .int .i64 m.rows.length), (11, .int .i64 i)] ∧ h = [some (false, [.int .i64 m.n, .lst .ro m.rows.length (rowsC m.rows)]), some (false, [.int .i64 0, .lst (.own 54) 0 []]), some (false, [.int .i64 m.n, .lst (.own 54) i (rowsC (m.rows.take i))])]) m.rows.length ⟨0, by omega, by omega, rfl, rfl⟩ ?_
  rintro n fr h' ⟨i, hi, rfl, rfl, rfl⟩
  simp only [J_law14_own_j2, wk,if_true,if_false,forall_const,implies_true,ne_eq,eq_self,Nat.reduceEqDiff,Nat.reduceAdd,Nat.reduceMul,Nat.reduceSub,Nat.reduceLeDiff,Nat.reduceLT,Int.reduceEq,Int.reduceLT,Int.reduceLE,Int.reduceAdd,Int.reduceSub,Int.reduceMul,Int.reduceNeg,Int.reduceNe,reduceCtorEq,Int.reduceToNat,↓reduceIte]
  refine ⟨fun hlt => ?_, fun hge => ?_⟩
  · have hil : i < m.rows.length := by omega
    have hin : ((0 ≤ (i : Int)) ∧ (i : Int) < (m.rows.length : Int)) = True := by simp; omega
    have hd := rowsC_at hil
    have hsm := hm.2 _ (List.getElem_mem hil)
    have hln := hm.1
    have ht := rowsC_take hil
    generalize hx : m.rows[i] = x at hd hsm ht
    simp only [rowC, kA, List.cons_append, List.nil_append] at hd ht
    have hl := hsm.2
    simp only [hin, Int.toNat_natCast, hd, wk,if_true,if_false,forall_const,implies_true,ne_eq,eq_self,Nat.reduceEqDiff,Nat.reduceAdd,Nat.reduceMul,Nat.reduceSub,Nat.reduceLeDiff,Nat.reduceLT,Int.reduceEq,Int.reduceLT,Int.reduceLE,Int.reduceAdd,Int.reduceSub,Int.reduceMul,Int.reduceNeg,Int.reduceNe,reduceCtorEq,Int.reduceToNat,↓reduceIte]
    exact ⟨⟨len_rlC _, by omega, by omega⟩, ⟨by omega, by omega⟩, inR_of (by omega) (by omega), m.rows.length - (i + 1), by omega, i + 1, by omega, rfl, by simp, by rw [ht]⟩
  · obtain rfl : i = m.rows.length := by omega
    rw [List.take_of_length_le (Nat.le_refl _)]
    simp only [J_law14_own_j1, wk,if_true,if_false,forall_const,implies_true,ne_eq,eq_self,Nat.reduceEqDiff,Nat.reduceAdd,Nat.reduceMul,Nat.reduceSub,Nat.reduceLeDiff,Nat.reduceLT,Int.reduceEq,Int.reduceLT,Int.reduceLE,Int.reduceAdd,Int.reduceSub,Int.reduceMul,Int.reduceNeg,Int.reduceNe,reduceCtorEq,Int.reduceToNat,↓reduceIte]
    simp only [val, ev, lk, wk,if_true,if_false,forall_const,implies_true,ne_eq,eq_self,Nat.reduceEqDiff,Nat.reduceAdd,Nat.reduceMul,Nat.reduceSub,Nat.reduceLeDiff,Nat.reduceLT,Int.reduceEq,Int.reduceLT,Int.reduceLE,Int.reduceAdd,Int.reduceSub,Int.reduceMul,Int.reduceNeg,Int.reduceNe,reduceCtorEq,Int.reduceToNat,↓reduceIte]
set_option maxRecDepth 100000 in
set_option maxHeartbeats 8000000 in
theorem p_rmHonest (m : Mdl) (c : Crt) (hm : smallMd m) (hc : smallC c) (hw : ∀ w ∈ c.words, w.size ≤ 1000) (hsp : c.speaker.size ≤ 1000) : PCalls Try.prog 23 [mdV m, vC c] (tupB (mdMay m && decide (checkE c = 0)) (honestE m c)) := by
  have qm := p_may14 m hm.1 hm.2
  have qc := p_rcheck c hc
  refine pcalls_of (by simp [free.frees, free_mdV, free_vC]) (free_tupB _ _) (acalls_of mixed J_ref14_Honest_ok (Nat.le_of_ble_eq_true rfl) ?_); simp only [J_ref14_Honest, mdV, vC, cC, wk,if_true,if_false,forall_const,implies_true,ne_eq,eq_self,Nat.reduceEqDiff,Nat.reduceAdd,Nat.reduceMul,Nat.reduceSub,Nat.reduceLeDiff,Nat.reduceLT,Int.reduceEq,Int.reduceLT,Int.reduceLE,Int.reduceAdd,Int.reduceSub,Int.reduceMul,Int.reduceNeg,Int.reduceNe,reduceCtorEq,Int.reduceToNat,↓reduceIte]
  simp only [mdV, vC, cC] at qm qc
  refine PCalls.use (qm) ?_; simp only [wk,if_true,if_false,forall_const,implies_true,ne_eq,eq_self,Nat.reduceEqDiff,Nat.reduceAdd,Nat.reduceMul,Nat.reduceSub,Nat.reduceLeDiff,Nat.reduceLT,Int.reduceEq,Int.reduceLT,Int.reduceLE,Int.reduceAdd,Int.reduceSub,Int.reduceMul,Int.reduceNeg,Int.reduceNe,reduceCtorEq,Int.reduceToNat,↓reduceIte]
  cases hmm : mdMay m with
  | false => (try simp only [hmm, wk,if_true,if_false,forall_const,implies_true,ne_eq,eq_self,Nat.reduceEqDiff,Nat.reduceAdd,Nat.reduceMul,Nat.reduceSub,Nat.reduceLeDiff,Nat.reduceLT,Int.reduceEq,Int.reduceLT,Int.reduceLE,Int.reduceAdd,Int.reduceSub,Int.reduceMul,Int.reduceNeg,Int.reduceNe,reduceCtorEq,Int.reduceToNat,↓reduceIte]); simp [tupB]
  | true =>
    try simp only [hmm, wk,if_true,if_false,forall_const,implies_true,ne_eq,eq_self,Nat.reduceEqDiff,Nat.reduceAdd,Nat.reduceMul,Nat.reduceSub,Nat.reduceLeDiff,Nat.reduceLT,Int.reduceEq,Int.reduceLT,Int.reduceLE,Int.reduceAdd,Int.reduceSub,Int.reduceMul,Int.reduceNeg,Int.reduceNe,reduceCtorEq,Int.reduceToNat,↓reduceIte]
    refine PCalls.use (qc) ?_; simp only [wk,if_true,if_false,forall_const,implies_true,ne_eq,eq_self,Nat.reduceEqDiff,Nat.reduceAdd,Nat.reduceMul,Nat.reduceSub,Nat.reduceLeDiff,Nat.reduceLT,Int.reduceEq,Int.reduceLT,Int.reduceLE,Int.reduceAdd,Int.reduceSub,Int.reduceMul,Int.reduceNeg,Int.reduceNe,reduceCtorEq,Int.reduceToNat,↓reduceIte]
    refine ⟨fun hne => by simp [tupB, hne], fun he => ?_⟩
    have hg := good_of he
    have hln := hc.2.2.1
    have h8 := wordR_length m.rows (atomW c.signer)
    have hws : ∀ w ∈ c.words, wordMay w = true := (setMay_words hg.words).2
    have qo : ∀ w, wordMay w = true → w.size ≤ 1000 → PCalls Try.prog 37 [.agg [.int .i64 m.n, .lst .ro m.rows.length (rowsC m.rows)], .str w] (rbV (wordR m.rows w)) := fun w h1 h2 => p_of14 m w hmm hm.1 h1 h2
    have qt : PCalls Try.prog 48 [.agg [.int .i64 m.n, .lst .ro m.rows.length (rowsC m.rows)], .int .u16 c.signer] (rbV (relA m.rows c.signer)) := p_atom14 m c.signer hmm hm.1
    have hsig : wordR m.rows (atomW c.signer) = relA m.rows c.signer := by
      unfold wordR
      rw [show (atomW c.signer).size = 2 from rfl]
      show relA m.rows (atomAt (atomW c.signer) 0) = _
      rw [atom_back (a := c.signer) (by have := hc.1; omega)]
    refine W_loop (fun n fr h => ∃ (i : Nat) (b : Bool), i ≤ c.words.length ∧ n = c.words.length - i ∧ (b = (c.words.take i).all fun w => withinR (wordR m.rows w) (relA m.rows c.signer)) ∧ fr = [(2, .ptr 0 0), (3, .ptr 1 0), (6, .bool b), (7, .int .i64 i)] ∧ h = [some (false, [.int .i64 m.n, .lst .ro m.rows.length (rowsC m.rows)]), some (false, [.int .i64 c.kind, .int .u16 c.signer, .str c.speaker, .lst .ro c.words.length (c.words.map .str), .int .i64 c.since, .int .i64 c.till, .int .i64 c.serial])]) c.words.length ⟨0, true, by omega, by omega, by rfl, by rfl, by rfl⟩ ?_
    rintro n fr h' ⟨i, b, hi, rfl, hb, rfl, rfl⟩
    simp only [J_ref14_Honest_j4, wk,if_true,if_false,forall_const,implies_true,ne_eq,eq_self,Nat.reduceEqDiff,Nat.reduceAdd,Nat.reduceMul,Nat.reduceSub,Nat.reduceLeDiff,Nat.reduceLT,Int.reduceEq,Int.reduceLT,Int.reduceLE,Int.reduceAdd,Int.reduceSub,Int.reduceMul,Int.reduceNeg,Int.reduceNe,reduceCtorEq,Int.reduceToNat,↓reduceIte]
    refine ⟨fun hlt => ?_, fun hge => ?_⟩
    · have hil : i < c.words.length := by omega
      have hin : ((0 ≤ (i : Int)) ∧ (i : Int) < (c.words.length : Int)) = True := by simp; omega
      have hd : (c.words.map AV.str).drop i = .str c.words[i] :: (c.words.map AV.str).drop (i + 1) := by
        rw [List.drop_eq_getElem_cons (by simpa using hil)]; simp
      have hmem := List.getElem_mem hil
      have qw := p_within14 (wordR m.rows c.words[i]) (relA m.rows c.signer)
      have hall : (c.words.take (i + 1)).all (fun w => withinR (wordR m.rows w) (relA m.rows c.signer)) = (b && withinR (wordR m.rows c.words[i]) (relA m.rows c.signer)) := by
        rw [List.take_succ_eq_append_getElem hil, List.all_append, hb]; simp
      cases b with
      | false =>
        simp only [hin, Int.toNat_natCast, hd, wk,if_true,if_false,forall_const,implies_true,ne_eq,eq_self,Nat.reduceEqDiff,Nat.reduceAdd,Nat.reduceMul,Nat.reduceSub,Nat.reduceLeDiff,Nat.reduceLT,Int.reduceEq,Int.reduceLT,Int.reduceLE,Int.reduceAdd,Int.reduceSub,Int.reduceMul,Int.reduceNeg,Int.reduceNe,reduceCtorEq,Int.reduceToNat,↓reduceIte]
        exact ⟨inR_of (by omega) (by omega), c.words.length - (i + 1), by omega, i + 1, _, by omega, rfl, hall.symm, by simp⟩
      | true =>
        simp only [hin, Int.toNat_natCast, hd, wk,if_true,if_false,forall_const,implies_true,ne_eq,eq_self,Nat.reduceEqDiff,Nat.reduceAdd,Nat.reduceMul,Nat.reduceSub,Nat.reduceLeDiff,Nat.reduceLT,Int.reduceEq,Int.reduceLT,Int.reduceLE,Int.reduceAdd,Int.reduceSub,Int.reduceMul,Int.reduceNeg,Int.reduceNe,reduceCtorEq,Int.reduceToNat,↓reduceIte]
        refine ⟨_, qo _ (hws _ hmem) (hw _ hmem), ?_⟩; try simp only [wk,if_true,if_false,forall_const,implies_true,ne_eq,eq_self,Nat.reduceEqDiff,Nat.reduceAdd,Nat.reduceMul,Nat.reduceSub,Nat.reduceLeDiff,Nat.reduceLT,Int.reduceEq,Int.reduceLT,Int.reduceLE,Int.reduceAdd,Int.reduceSub,Int.reduceMul,Int.reduceNeg,Int.reduceNe,reduceCtorEq,Int.reduceToNat,↓reduceIte]
        refine ⟨_, qt, ?_⟩; try simp only [wk,if_true,if_false,forall_const,implies_true,ne_eq,eq_self,Nat.reduceEqDiff,Nat.reduceAdd,Nat.reduceMul,Nat.reduceSub,Nat.reduceLeDiff,Nat.reduceLT,Int.reduceEq,Int.reduceLT,Int.reduceLE,Int.reduceAdd,Int.reduceSub,Int.reduceMul,Int.reduceNeg,Int.reduceNe,reduceCtorEq,Int.reduceToNat,↓reduceIte]
        refine ⟨_, qw, ?_⟩; try simp only [wk,if_true,if_false,forall_const,implies_true,ne_eq,eq_self,Nat.reduceEqDiff,Nat.reduceAdd,Nat.reduceMul,Nat.reduceSub,Nat.reduceLeDiff,Nat.reduceLT,Int.reduceEq,Int.reduceLT,Int.reduceLE,Int.reduceAdd,Int.reduceSub,Int.reduceMul,Int.reduceNeg,Int.reduceNe,reduceCtorEq,Int.reduceToNat,↓reduceIte]
        exact ⟨inR_of (by omega) (by omega), c.words.length - (i + 1), by omega, i + 1, _, by omega, rfl, hall.symm, by simp⟩
    · obtain rfl : i = c.words.length := by omega
      rw [List.take_of_length_le (Nat.le_refl _)] at hb
      simp only [J_ref14_Honest_j3, wk,if_true,if_false,forall_const,implies_true,ne_eq,eq_self,Nat.reduceEqDiff,Nat.reduceAdd,Nat.reduceMul,Nat.reduceSub,Nat.reduceLeDiff,Nat.reduceLT,Int.reduceEq,Int.reduceLT,Int.reduceLE,Int.reduceAdd,Int.reduceSub,Int.reduceMul,Int.reduceNeg,Int.reduceNe,reduceCtorEq,Int.reduceToNat,↓reduceIte]
      refine W_loop (fun n fr h => ∃ i : Nat, i ≤ c.words.length ∧ n = c.words.length - i ∧ (b = true → ∀ w ∈ c.words.take i, withinR (wordR m.rows w) (wordR m.rows c.speaker) = true) ∧ fr = [(2, .ptr 0 0), (3, .ptr 1 0), (6, .bool b), (8, .int .i64 i)] ∧ h = [some (false, [.int .i64 m.n, .lst .ro m.rows.length (rowsC m.rows)]), some (false, [.int .i64 c.kind, .int .u16 c.signer, .str c.speaker, .lst .ro c.words.length (c.words.map .str), .int .i64 c.since, .int .i64 c.till, .int .i64 c.serial])]) c.words.length ⟨0, by omega, by omega, by simp, by rfl, by rfl⟩ ?_
      rintro n fr h' ⟨i, hi, rfl, hall, rfl, rfl⟩
      simp only [J_ref14_Honest_j2, wk,if_true,if_false,forall_const,implies_true,ne_eq,eq_self,Nat.reduceEqDiff,Nat.reduceAdd,Nat.reduceMul,Nat.reduceSub,Nat.reduceLeDiff,Nat.reduceLT,Int.reduceEq,Int.reduceLT,Int.reduceLE,Int.reduceAdd,Int.reduceSub,Int.reduceMul,Int.reduceNeg,Int.reduceNe,reduceCtorEq,Int.reduceToNat,↓reduceIte]
      have hyes : b = false → honestE m c = true := fun hbf => by
        rw [hbf] at hb
        have hb := List.all_eq_false.1 hb.symm
        obtain ⟨w, hw1, hw2⟩ := hb
        simp only [honestE, Bool.or_eq_true, List.any_eq_true]
        exact .inl ⟨w, hw1, by rw [hsig]; simpa using hw2⟩
      refine ⟨fun hlt => ?_, fun hge => ?_⟩
      · have hil : i < c.words.length := by omega
        have hin : ((0 ≤ (i : Int)) ∧ (i : Int) < (c.words.length : Int)) = True := by simp; omega
        have hd : (c.words.map AV.str).drop i = .str c.words[i] :: (c.words.map AV.str).drop (i + 1) := by
          rw [List.drop_eq_getElem_cons (by simpa using hil)]; simp
        have hmem := List.getElem_mem hil
        have qw := p_within14 (wordR m.rows c.words[i]) (wordR m.rows c.speaker)
        cases b with
        | false =>
          simp only [hin, Int.toNat_natCast, hd, wk,if_true,if_false,forall_const,implies_true,ne_eq,eq_self,Nat.reduceEqDiff,Nat.reduceAdd,Nat.reduceMul,Nat.reduceSub,Nat.reduceLeDiff,Nat.reduceLT,Int.reduceEq,Int.reduceLT,Int.reduceLE,Int.reduceAdd,Int.reduceSub,Int.reduceMul,Int.reduceNeg,Int.reduceNe,reduceCtorEq,Int.reduceToNat,↓reduceIte]
          exact ⟨inR_of (by omega) (by omega), c.words.length - (i + 1), by omega, i + 1, by omega, rfl, by simp⟩
        | true =>
          simp only [hin, Int.toNat_natCast, hd, wk,if_true,if_false,forall_const,implies_true,ne_eq,eq_self,Nat.reduceEqDiff,Nat.reduceAdd,Nat.reduceMul,Nat.reduceSub,Nat.reduceLeDiff,Nat.reduceLT,Int.reduceEq,Int.reduceLT,Int.reduceLE,Int.reduceAdd,Int.reduceSub,Int.reduceMul,Int.reduceNeg,Int.reduceNe,reduceCtorEq,Int.reduceToNat,↓reduceIte]
          refine ⟨_, qo _ (hws _ hmem) (hw _ hmem), ?_⟩; try simp only [wk,if_true,if_false,forall_const,implies_true,ne_eq,eq_self,Nat.reduceEqDiff,Nat.reduceAdd,Nat.reduceMul,Nat.reduceSub,Nat.reduceLeDiff,Nat.reduceLT,Int.reduceEq,Int.reduceLT,Int.reduceLE,Int.reduceAdd,Int.reduceSub,Int.reduceMul,Int.reduceNeg,Int.reduceNe,reduceCtorEq,Int.reduceToNat,↓reduceIte]
          refine ⟨_, qo _ hg.speaker hsp, ?_⟩; try simp only [wk,if_true,if_false,forall_const,implies_true,ne_eq,eq_self,Nat.reduceEqDiff,Nat.reduceAdd,Nat.reduceMul,Nat.reduceSub,Nat.reduceLeDiff,Nat.reduceLT,Int.reduceEq,Int.reduceLT,Int.reduceLE,Int.reduceAdd,Int.reduceSub,Int.reduceMul,Int.reduceNeg,Int.reduceNe,reduceCtorEq,Int.reduceToNat,↓reduceIte]
          refine ⟨_, qw, ?_⟩
          cases hr : withinR (wordR m.rows c.words[i]) (wordR m.rows c.speaker) with
          | false =>
            simp only [wk,if_true,if_false,forall_const,implies_true,ne_eq,eq_self,Nat.reduceEqDiff,Nat.reduceAdd,Nat.reduceMul,Nat.reduceSub,Nat.reduceLeDiff,Nat.reduceLT,Int.reduceEq,Int.reduceLT,Int.reduceLE,Int.reduceAdd,Int.reduceSub,Int.reduceMul,Int.reduceNeg,Int.reduceNe,reduceCtorEq,Int.reduceToNat,↓reduceIte]
            have hh : honestE m c = false := by
              simp only [honestE, Bool.or_eq_false_iff, List.any_eq_false, List.all_eq_false]
              have hb := List.all_eq_true.1 hb.symm
              exact ⟨fun w hx => by rw [hsig, hb w hx]; simp, _, hmem, by simp [hr]⟩
            simp [tupB, he, hh]
          | true =>
            simp only [wk,if_true,if_false,forall_const,implies_true,ne_eq,eq_self,Nat.reduceEqDiff,Nat.reduceAdd,Nat.reduceMul,Nat.reduceSub,Nat.reduceLeDiff,Nat.reduceLT,Int.reduceEq,Int.reduceLT,Int.reduceLE,Int.reduceAdd,Int.reduceSub,Int.reduceMul,Int.reduceNeg,Int.reduceNe,reduceCtorEq,Int.reduceToNat,↓reduceIte]
            refine ⟨inR_of (by omega) (by omega), c.words.length - (i + 1), by omega, i + 1, by omega, rfl, fun w hx => ?_, by simp⟩
            rw [List.take_succ_eq_append_getElem hil, List.mem_append, List.mem_singleton] at hx
            rcases hx with hx | rfl
            · exact hall rfl w hx
            · exact hr
      · obtain rfl : i = c.words.length := by omega
        rw [List.take_of_length_le (Nat.le_refl _)] at hall
        simp only [J_ref14_Honest_j1, wk,if_true,if_false,forall_const,implies_true,ne_eq,eq_self,Nat.reduceEqDiff,Nat.reduceAdd,Nat.reduceMul,Nat.reduceSub,Nat.reduceLeDiff,Nat.reduceLT,Int.reduceEq,Int.reduceLT,Int.reduceLE,Int.reduceAdd,Int.reduceSub,Int.reduceMul,Int.reduceNeg,Int.reduceNe,reduceCtorEq,Int.reduceToNat,↓reduceIte]
        have hh : honestE m c = true := by
          cases b with
          | false => exact hyes rfl
          | true =>
            simp only [honestE, Bool.or_eq_true, List.all_eq_true]
            exact .inr (hall rfl)
        simp [tupB, he, hh]
end Go.Proofs.Ytnmikopkjdekaaa

/- ModelSets: a set's relation is its words' together. -/
-- fast
namespace Go.Proofs.Ytnmikopkjdekaaa
set_option linter.unusedSimpArgs false
set_option linter.unusedVariables false
open Go.RowKit Go.Lib

theorem setN_and (l : List Row) {a b : List ByteArray} (ha : setMay a = true) (hb : setMay b = true) (h : (andE a b).2 = 0) : setN l (andE a b).1 = orR (setN l a) (setN l b) :=
  rl_ext (setN_length _ _) (orR_length _ _ (setN_length _ _) (setN_length _ _)) fun i hi j => by
    rw [bit_orR (setN_length _ _) (setN_length _ _) hi, Bool.eq_iff_iff, bit_and l ha hb h hi, Bool.or_eq_true]
theorem setN_quote (l : List Row) {a b : List ByteArray} (h : (quoteE a b).2 = 0) : setN l (quoteE a b).1 = thenR (setN l a) (setN l b) :=
  rl_ext (setN_length _ _) (by rw [thenR_length, setN_length]) fun i hi j => by
    rw [Bool.eq_iff_iff, bit_quote l h hi, bit_thenR (setN_length _ _) _ hi]
theorem rlC_dropD {r : Rl} {i : Nat} (h : i < r.length) : (rlC r).drop i = u8 (r.getD i 0) :: (rlC r).drop (i + 1) := by
  rw [rlC_drop h]; simp [List.getD_eq_getElem?_getD, List.getElem?_eq_getElem h]
theorem getD_take {r : Rl} {n i : Nat} (h : i < n) : (r.take n).getD i 0 = r.getD i 0 := by
  simp [List.getD_eq_getElem?_getD, List.getElem?_take, h]
theorem getD_or {r s : Rl} {i : Nat} (h : i < r.length) (h' : i < s.length) : (orR r s).getD i 0 = r.getD i 0 ||| s.getD i 0 := by
  simp [List.getD_eq_getElem?_getD, orR, List.getElem?_zipWith, List.getElem?_eq_getElem h, List.getElem?_eq_getElem h']
theorem getD_then {r s : Rl} {i : Nat} (h : i < r.length) : (thenR r s).getD i 0 = thenB (r.getD i 0) s 8 := by
  simp [List.getD_eq_getElem?_getD, thenR, List.getElem?_eq_getElem h]
theorem mSetV_ok {m : Mdl} {s : List ByteArray} (hm : mdMay m = true) (hs : setMay s = true) : mSetV m s = .tup [.lst .ro m.n.toNat (rlC ((setN m.rows s).take m.n.toNat)), .int .i64 0] := by
  simp only [mSetV, hm, hs, Bool.and_self, if_true, toldV]
def rowZ (r : Rl) (n : Nat) : Prop := ∀ j, n ≤ j → r.getD j 0 = 0
theorem rowZ_zR (n : Nat) : rowZ zR n := fun j _ => by
  have hz : zR = List.replicate 8 0 := rfl
  rw [hz, List.getD_eq_getElem?_getD, List.getElem?_replicate]; split <;> rfl
theorem rowZ_relA {m : Mdl} (h : mdMay m = true) (a : Nat) : rowZ (relA m.rows a) m.n.toNat := by
  have hn := mdMay_n h
  have hr := mdMay_row h
  rw [relA_eq]
  have key : ∀ (l : List Row) (z : Rl), (∀ x ∈ l, (x.to.length : Int) = m.n) → rowZ z m.n.toNat → rowZ (l.foldl (fun acc x => if a = x.atom then pad x.to else acc) z) m.n.toNat := by
    intro l
    induction l with
    | nil => intro z _ hz; exact hz
    | cons x l ih =>
      intro z hl hz
      simp only [List.foldl_cons]
      refine ih _ (fun y hy => hl y (List.mem_cons_of_mem _ hy)) ?_
      have := hl x (List.mem_cons_self ..)
      split
      · exact fun j hj => pad_zero (by omega) (by omega)
      · exact hz
  exact key _ _ (fun x hx => (hr x hx).1) (rowZ_zR _)
theorem thenB_zero (s : Rl) : ∀ k, thenB 0 s k = 0
  | 0 => rfl
  | k + 1 => by rw [thenB_succ, thenB_zero s k]; simp
theorem rowZ_then {r : Rl} (s : Rl) {n : Nat} (h : rowZ r n) : rowZ (thenR r s) n := fun j hj => by
  have hz := h j hj
  simp only [List.getD_eq_getElem?_getD, thenR, List.getElem?_map] at hz ⊢
  cases hr : r[j]? with
  | none => rfl
  | some x => rw [hr] at hz; simp only [Option.getD_some] at hz; subst hz; exact thenB_zero _ _
theorem rowZ_word {m : Mdl} (h : mdMay m = true) (w : ByteArray) : ∀ k, rowZ (wordN m.rows w k) m.n.toNat
  | 0 => rowZ_relA h _
  | k + 1 => rowZ_then _ (rowZ_word h w k)
theorem rowZ_or {r s : Rl} {n : Nat} (h : rowZ r n) (h' : rowZ s n) : rowZ (orR r s) n := fun j hj => by
  have h1 := h j hj
  have h2 := h' j hj
  simp only [List.getD_eq_getElem?_getD, orR, List.getElem?_zipWith] at h1 h2 ⊢
  cases hr : r[j]? with
  | none => simp
  | some x =>
    cases hs : s[j]? with
    | none => simp
    | some y =>
      rw [hr] at h1; rw [hs] at h2
      simp only [Option.getD_some] at h1 h2
      subst h1; subst h2; rfl
theorem rowZ_set {m : Mdl} (h : mdMay m = true) (s : List ByteArray) : rowZ (setN m.rows s) m.n.toNat := by
  have key : ∀ (s : List ByteArray) (z : Rl), rowZ z m.n.toNat → rowZ (s.foldl (fun r w => orR r (wordR m.rows w)) z) m.n.toNat := by
    intro s
    induction s with
    | nil => intro z hz; exact hz
    | cons x s ih => intro z hz; simp only [List.foldl_cons]; exact ih _ (rowZ_or hz (rowZ_word h x _))
  exact key s zR (rowZ_zR _)
theorem thenB_less (b : UInt8) {s : Rl} {n : Nat} (h : rowZ s n) : ∀ k, thenB b s (n + k) = thenB b s n
  | 0 => rfl
  | k + 1 => by
    rw [← Nat.add_assoc, thenB_succ, thenB_less b h k, h (n + k) (by omega)]; simp
set_option maxRecDepth 100000 in
set_option maxHeartbeats 16000000 in
theorem a14_sets (m : Mdl) (a b : List ByteArray) (hat : ∀ x ∈ m.rows, x.atom < 65536) : ACalls Try.prog 7 [mdV m, .lst .ro a.length (a.map .str), .lst .ro b.length (b.map .str)] [] (fun a _ => a = .bool true) := by
  refine acalls_of mixed J_law14_ModelSets_ok (Nat.le_of_ble_eq_true rfl) ?_; simp only [J_law14_ModelSets, mdV, wk,if_true,if_false,forall_const,implies_true,ne_eq,eq_self,Nat.reduceEqDiff,Nat.reduceAdd,Nat.reduceMul,Nat.reduceSub,Nat.reduceLeDiff,Nat.reduceLT,Int.reduceEq,Int.reduceLT,Int.reduceLE,Int.reduceAdd,Int.reduceSub,Int.reduceMul,Int.reduceNeg,Int.reduceNe,reduceCtorEq,Int.reduceToNat,↓reduceIte]
  refine PCalls.use (p14_awake) ?_; simp only [wk,if_true,if_false,forall_const,implies_true,ne_eq,eq_self,Nat.reduceEqDiff,Nat.reduceAdd,Nat.reduceMul,Nat.reduceSub,Nat.reduceLeDiff,Nat.reduceLT,Int.reduceEq,Int.reduceLT,Int.reduceLE,Int.reduceAdd,Int.reduceSub,Int.reduceMul,Int.reduceNeg,Int.reduceNe,reduceCtorEq,Int.reduceToNat,↓reduceIte]
  have ql := p14_large m [a, b] (by simp)
  simp only [mdV, setsC, List.map_cons, List.map_nil, List.length_cons, List.length_nil] at ql
  refine PCalls.use (ql) ?_; simp only [wk,if_true,if_false,forall_const,implies_true,ne_eq,eq_self,Nat.reduceEqDiff,Nat.reduceAdd,Nat.reduceMul,Nat.reduceSub,Nat.reduceLeDiff,Nat.reduceLT,Int.reduceEq,Int.reduceLT,Int.reduceLE,Int.reduceAdd,Int.reduceSub,Int.reduceMul,Int.reduceNeg,Int.reduceNe,reduceCtorEq,Int.reduceToNat,↓reduceIte]
  cases hlg : largeM m [a, b] with
  | true => try simp only [wk,if_true,if_false,forall_const,implies_true,ne_eq,eq_self,Nat.reduceEqDiff,Nat.reduceAdd,Nat.reduceMul,Nat.reduceSub,Nat.reduceLeDiff,Nat.reduceLT,Int.reduceEq,Int.reduceLT,Int.reduceLE,Int.reduceAdd,Int.reduceSub,Int.reduceMul,Int.reduceNeg,Int.reduceNe,reduceCtorEq,Int.reduceToNat,↓reduceIte]
  | false =>
    try simp only [wk,if_true,if_false,forall_const,implies_true,ne_eq,eq_self,Nat.reduceEqDiff,Nat.reduceAdd,Nat.reduceMul,Nat.reduceSub,Nat.reduceLeDiff,Nat.reduceLT,Int.reduceEq,Int.reduceLT,Int.reduceLE,Int.reduceAdd,Int.reduceSub,Int.reduceMul,Int.reduceNeg,Int.reduceNe,reduceCtorEq,Int.reduceToNat,↓reduceIte]
    obtain ⟨hm, hsz⟩ := not_large hlg hat
    have ha := hsz a (by simp)
    have hb := hsz b (by simp)
    have qm := p_mmay m hm.1 hm.2
    simp only [mdV] at qm
    refine PCalls.use (qm) ?_; simp only [wk,if_true,if_false,forall_const,implies_true,ne_eq,eq_self,Nat.reduceEqDiff,Nat.reduceAdd,Nat.reduceMul,Nat.reduceSub,Nat.reduceLeDiff,Nat.reduceLT,Int.reduceEq,Int.reduceLT,Int.reduceLE,Int.reduceAdd,Int.reduceSub,Int.reduceMul,Int.reduceNeg,Int.reduceNe,reduceCtorEq,Int.reduceToNat,↓reduceIte]
    cases hmm : mdMay m with
    | false => try simp only [wk,if_true,if_false,forall_const,implies_true,ne_eq,eq_self,Nat.reduceEqDiff,Nat.reduceAdd,Nat.reduceMul,Nat.reduceSub,Nat.reduceLeDiff,Nat.reduceLT,Int.reduceEq,Int.reduceLT,Int.reduceLE,Int.reduceAdd,Int.reduceSub,Int.reduceMul,Int.reduceNeg,Int.reduceNe,reduceCtorEq,Int.reduceToNat,↓reduceIte]
    | true =>
      try simp only [wk,if_true,if_false,forall_const,implies_true,ne_eq,eq_self,Nat.reduceEqDiff,Nat.reduceAdd,Nat.reduceMul,Nat.reduceSub,Nat.reduceLeDiff,Nat.reduceLT,Int.reduceEq,Int.reduceLT,Int.reduceLE,Int.reduceAdd,Int.reduceSub,Int.reduceMul,Int.reduceNeg,Int.reduceNe,reduceCtorEq,Int.reduceToNat,↓reduceIte]
      have bd : ∀ x : List ByteArray, (x.length ≤ 30 ∧ ∀ w ∈ x, w.size ≤ 100) → x.length ≤ 10000 ∧ ∀ w ∈ x, w.size ≤ 1000000 := fun x h => ⟨by omega, fun w hw => by have := h.2 w hw; omega⟩
      have qa := p_rsmay a (by omega) (fun x hx => by have := ha.2 x hx; omega)
      have qb := p_rsmay b (by omega) (fun x hx => by have := hb.2 x hx; omega)
      refine PCalls.use (qa) ?_; simp only [wk,if_true,if_false,forall_const,implies_true,ne_eq,eq_self,Nat.reduceEqDiff,Nat.reduceAdd,Nat.reduceMul,Nat.reduceSub,Nat.reduceLeDiff,Nat.reduceLT,Int.reduceEq,Int.reduceLT,Int.reduceLE,Int.reduceAdd,Int.reduceSub,Int.reduceMul,Int.reduceNeg,Int.reduceNe,reduceCtorEq,Int.reduceToNat,↓reduceIte]
      cases haa : setMay a with
      | false => try simp only [wk,if_true,if_false,forall_const,implies_true,ne_eq,eq_self,Nat.reduceEqDiff,Nat.reduceAdd,Nat.reduceMul,Nat.reduceSub,Nat.reduceLeDiff,Nat.reduceLT,Int.reduceEq,Int.reduceLT,Int.reduceLE,Int.reduceAdd,Int.reduceSub,Int.reduceMul,Int.reduceNeg,Int.reduceNe,reduceCtorEq,Int.reduceToNat,↓reduceIte]
      | true =>
      try simp only [wk,if_true,if_false,forall_const,implies_true,ne_eq,eq_self,Nat.reduceEqDiff,Nat.reduceAdd,Nat.reduceMul,Nat.reduceSub,Nat.reduceLeDiff,Nat.reduceLT,Int.reduceEq,Int.reduceLT,Int.reduceLE,Int.reduceAdd,Int.reduceSub,Int.reduceMul,Int.reduceNeg,Int.reduceNe,reduceCtorEq,Int.reduceToNat,↓reduceIte]
      refine PCalls.use (qb) ?_; simp only [wk,if_true,if_false,forall_const,implies_true,ne_eq,eq_self,Nat.reduceEqDiff,Nat.reduceAdd,Nat.reduceMul,Nat.reduceSub,Nat.reduceLeDiff,Nat.reduceLT,Int.reduceEq,Int.reduceLT,Int.reduceLE,Int.reduceAdd,Int.reduceSub,Int.reduceMul,Int.reduceNeg,Int.reduceNe,reduceCtorEq,Int.reduceToNat,↓reduceIte]
      cases hbb : setMay b with
      | false => try simp only [wk,if_true,if_false,forall_const,implies_true,ne_eq,eq_self,Nat.reduceEqDiff,Nat.reduceAdd,Nat.reduceMul,Nat.reduceSub,Nat.reduceLeDiff,Nat.reduceLT,Int.reduceEq,Int.reduceLT,Int.reduceLE,Int.reduceAdd,Int.reduceSub,Int.reduceMul,Int.reduceNeg,Int.reduceNe,reduceCtorEq,Int.reduceToNat,↓reduceIte]
      | true =>
      try simp only [wk,if_true,if_false,forall_const,implies_true,ne_eq,eq_self,Nat.reduceEqDiff,Nat.reduceAdd,Nat.reduceMul,Nat.reduceSub,Nat.reduceLeDiff,Nat.reduceLT,Int.reduceEq,Int.reduceLT,Int.reduceLE,Int.reduceAdd,Int.reduceSub,Int.reduceMul,Int.reduceNeg,Int.reduceNe,reduceCtorEq,Int.reduceToNat,↓reduceIte]
      have sm : ∀ x : List ByteArray, (x.length ≤ 30 ∧ ∀ w ∈ x, w.size ≤ 100) → x.length ≤ 1000 ∧ ∀ w ∈ x, w.size ≤ 1000 := fun x h => ⟨by omega, fun w hw => by have := h.2 w hw; omega⟩
      have q1 := p_rand a b (bd a ha).1 (bd b hb).1 (bd a ha).2 (bd b hb).2
      have q2 := p_rquote a b (bd a ha).1 (bd b hb).1 (bd a ha).2 (bd b hb).2
      simp only [vSet_eq] at q1 q2
      have hset : ∀ s : List ByteArray, s.length ≤ 1000 → (∀ w ∈ s, w.size ≤ 1000) → setMay s = true → PCalls Try.prog 16 [.agg [.int .i64 m.n, .lst .ro m.rows.length (rowsC m.rows)], .lst .ro s.length (s.map .str)] (.tup [.lst .ro m.n.toNat (rlC ((setN m.rows s).take m.n.toNat)), .int .i64 0]) := fun s h1 h2 h3 => by
        have := p_mSet m s hm h1 h2
        rw [mSetV_ok hmm h3] at this
        exact this
      refine PCalls.use (hset a (sm a ha).1 (sm a ha).2 haa) ?_; simp only [wk,if_true,if_false,forall_const,implies_true,ne_eq,eq_self,Nat.reduceEqDiff,Nat.reduceAdd,Nat.reduceMul,Nat.reduceSub,Nat.reduceLeDiff,Nat.reduceLT,Int.reduceEq,Int.reduceLT,Int.reduceLE,Int.reduceAdd,Int.reduceSub,Int.reduceMul,Int.reduceNeg,Int.reduceNe,reduceCtorEq,Int.reduceToNat,↓reduceIte]
      refine PCalls.use (hset b (sm b hb).1 (sm b hb).2 hbb) ?_; simp only [wk,if_true,if_false,forall_const,implies_true,ne_eq,eq_self,Nat.reduceEqDiff,Nat.reduceAdd,Nat.reduceMul,Nat.reduceSub,Nat.reduceLeDiff,Nat.reduceLT,Int.reduceEq,Int.reduceLT,Int.reduceLE,Int.reduceAdd,Int.reduceSub,Int.reduceMul,Int.reduceNeg,Int.reduceNe,reduceCtorEq,Int.reduceToNat,↓reduceIte]
      have hn := mdMay_n hmm
      have hnn : ((m.n.toNat : Nat) : Int) = m.n := by omega
      have hl1 := setN_length m.rows a
      have hl2 := setN_length m.rows b
      simp only [wk,if_true,if_false,forall_const,implies_true,ne_eq,eq_self,Nat.reduceEqDiff,Nat.reduceAdd,Nat.reduceMul,Nat.reduceSub,Nat.reduceLeDiff,Nat.reduceLT,Int.reduceEq,Int.reduceLT,Int.reduceLE,Int.reduceAdd,Int.reduceSub,Int.reduceMul,Int.reduceNeg,Int.reduceNe,reduceCtorEq,Int.reduceToNat,↓reduceIte, hnn]
      refine PCalls.use (q1) ?_; simp only [wk,if_true,if_false,forall_const,implies_true,ne_eq,eq_self,Nat.reduceEqDiff,Nat.reduceAdd,Nat.reduceMul,Nat.reduceSub,Nat.reduceLeDiff,Nat.reduceLT,Int.reduceEq,Int.reduceLT,Int.reduceLE,Int.reduceAdd,Int.reduceSub,Int.reduceMul,Int.reduceNeg,Int.reduceNe,reduceCtorEq,Int.reduceToNat,↓reduceIte]
      generalize hN : m.n.toNat = N at *
      have hN8 : N ≤ 8 := by omega
      have hA : ((setN m.rows a).take N).length = N := by rw [List.length_take]; omega
      have hB : ((setN m.rows b).take N).length = N := by rw [List.length_take]; omega
      have hand : ∀ (e1 : (andE a b).2 = 0), ∃ R : Rl, R = (setN m.rows (andE a b).1).take N ∧ R.length = N ∧ ∀ i, i < N → R.getD i 0 = ((setN m.rows a).take N).getD i 0 ||| ((setN m.rows b).take N).getD i 0 := fun e1 => ⟨_, rfl, by rw [List.length_take, setN_length]; omega, fun i h => by
        rw [getD_take h, getD_take h, getD_take h, setN_and m.rows haa hbb e1, getD_or (by omega) (by omega)]⟩
      have hquo : ∀ (e1 : (quoteE a b).2 = 0), ∃ R : Rl, R = (setN m.rows (quoteE a b).1).take N ∧ R.length = N ∧ ∀ i, i < N → R.getD i 0 = thenB (((setN m.rows a).take N).getD i 0) (setN m.rows b) N := fun e1 => ⟨_, rfl, by rw [List.length_take, setN_length]; omega, fun i h => by
        rw [getD_take h, getD_take h, setN_quote m.rows e1, getD_then (by omega)]
        have hz := rowZ_set hmm b
        rw [hN] at hz
        have := thenB_less ((setN m.rows a).getD i 0) hz (8 - N)
        rwa [show N + (8 - N) = 8 by omega] at this⟩
      have hBd : ∀ k, k < N → (setN m.rows b).getD k 0 = ((setN m.rows b).take N).getD k 0 := fun k h => (getD_take h).symm
      have and_sm : (andE a b).2 = 0 → setMay (andE a b).1 = true ∧ (andE a b).1.length ≤ 1000 ∧ ∀ w ∈ (andE a b).1, w.size ≤ 1000 := fun h => by
        obtain ⟨hq, hm⟩ := and_ok haa hbb h
        rw [hq]
        have := setMay_small hm
        exact ⟨hm, Nat.le_trans this.1 (by omega), fun w hw => by have := this.2 w hw; omega⟩
      generalize hAA : (setN m.rows a).take N = A at *
      generalize hBB : (setN m.rows b).take N = B at *
      have hj7 : ∀ fr0 : Fr, restr [1, 2, 3, 7, 9] fr0 = [(1, stV a), (2, stV b), (3, .ptr 0 0), (7, .lst .ro N (rlC A)), (9, .lst .ro N (rlC B))] → W Try.prog J_law14_ModelSets_j7 fr0 [some (false, [.int .i64 m.n, .lst .ro m.rows.length (rowsC m.rows)])] (kret [RV.t 6] fun a x => a = AV.bool true) := fun fr0 hf0 => by
        simp only [J_law14_ModelSets_j7, W_keep]
        rw [hf0]
        simp only [stV, wk,if_true,if_false,forall_const,implies_true,ne_eq,eq_self,Nat.reduceEqDiff,Nat.reduceAdd,Nat.reduceMul,Nat.reduceSub,Nat.reduceLeDiff,Nat.reduceLT,Int.reduceEq,Int.reduceLT,Int.reduceLE,Int.reduceAdd,Int.reduceSub,Int.reduceMul,Int.reduceNeg,Int.reduceNe,reduceCtorEq,Int.reduceToNat,↓reduceIte]
        refine PCalls.use (q2) ?_; simp only [wk,if_true,if_false,forall_const,implies_true,ne_eq,eq_self,Nat.reduceEqDiff,Nat.reduceAdd,Nat.reduceMul,Nat.reduceSub,Nat.reduceLeDiff,Nat.reduceLT,Int.reduceEq,Int.reduceLT,Int.reduceLE,Int.reduceAdd,Int.reduceSub,Int.reduceMul,Int.reduceNeg,Int.reduceNe,reduceCtorEq,Int.reduceToNat,↓reduceIte]
        intro e1
        obtain ⟨R, hR, hRl, hRi⟩ := hquo e1
        have qm2 := quote_may e1
        have qs := hset (quoteE a b).1 qm2.2.1 qm2.2.2 qm2.1
        rw [← hR] at qs
        refine PCalls.use (qs) ?_; simp only [wk,if_true,if_false,forall_const,implies_true,ne_eq,eq_self,Nat.reduceEqDiff,Nat.reduceAdd,Nat.reduceMul,Nat.reduceSub,Nat.reduceLeDiff,Nat.reduceLT,Int.reduceEq,Int.reduceLT,Int.reduceLE,Int.reduceAdd,Int.reduceSub,Int.reduceMul,Int.reduceNeg,Int.reduceNe,reduceCtorEq,Int.reduceToNat,↓reduceIte]
        simp only [wk,if_true,if_false,forall_const,implies_true,ne_eq,eq_self,Nat.reduceEqDiff,Nat.reduceAdd,Nat.reduceMul,Nat.reduceSub,Nat.reduceLeDiff,Nat.reduceLT,Int.reduceEq,Int.reduceLT,Int.reduceLE,Int.reduceAdd,Int.reduceSub,Int.reduceMul,Int.reduceNeg,Int.reduceNe,reduceCtorEq,Int.reduceToNat,↓reduceIte, hnn]
        refine W_loop (fun n fr h => ∃ i : Nat, i ≤ N ∧ n = N - i ∧ fr = [(3, .ptr 0 0), (7, .lst .ro N (rlC A)), (9, .lst .ro N (rlC B)), (18, .lst .ro N (rlC R)), (144, .int .i64 m.n), (145, .int .i64 i)] ∧ h = [some (false, [.int .i64 m.n, .lst .ro m.rows.length (rowsC m.rows)])]) N ⟨0, by omega, by omega, by rfl, by rfl⟩ ?_
        rintro n fr h' ⟨i, hi, rfl, rfl, rfl⟩
        simp only [J_law14_ModelSets_j6, wk,if_true,if_false,forall_const,implies_true,ne_eq,eq_self,Nat.reduceEqDiff,Nat.reduceAdd,Nat.reduceMul,Nat.reduceSub,Nat.reduceLeDiff,Nat.reduceLT,Int.reduceEq,Int.reduceLT,Int.reduceLE,Int.reduceAdd,Int.reduceSub,Int.reduceMul,Int.reduceNeg,Int.reduceNe,reduceCtorEq,Int.reduceToNat,↓reduceIte]
        refine ⟨fun hlt => ?_, fun hge => ?_⟩
        · have hil : i < N := by omega
          have hin : ((0 ≤ (i : Int)) ∧ (i : Int) < (N : Int)) = True := by simp; omega
          have d1 := rlC_dropD (r := A) (i := i) (by omega)
          have d3 := rlC_dropD (r := R) (i := i) (by omega)
          rw [hRi i hil] at d3
          simp only [u8] at d1 d3
          refine W_loop (fun n fr h => ∃ j : Nat, j ≤ N ∧ n = N - j ∧ fr = [(3, .ptr 0 0), (7, .lst .ro N (rlC A)), (9, .lst .ro N (rlC B)), (18, .lst .ro N (rlC R)), (20, .int .i64 i), (21, u8 (thenB (A.getD i 0) (setN m.rows b) j)), (22, .int .i64 j), (144, .int .i64 m.n), (145, .int .i64 i)] ∧ h = [some (false, [.int .i64 m.n, .lst .ro m.rows.length (rowsC m.rows)])]) N ⟨0, by omega, by omega, by rfl, by rfl⟩ ?_
          rintro n fr h' ⟨j, hj, rfl, rfl, rfl⟩
          simp only [J_law14_ModelSets_j5, u8, wk,if_true,if_false,forall_const,implies_true,ne_eq,eq_self,Nat.reduceEqDiff,Nat.reduceAdd,Nat.reduceMul,Nat.reduceSub,Nat.reduceLeDiff,Nat.reduceLT,Int.reduceEq,Int.reduceLT,Int.reduceLE,Int.reduceAdd,Int.reduceSub,Int.reduceMul,Int.reduceNeg,Int.reduceNe,reduceCtorEq,Int.reduceToNat,↓reduceIte]
          refine ⟨fun hlt => ?_, fun hge => ?_⟩
          · have hjl : j < N := by omega
            have hjn : ((0 ≤ (j : Int)) ∧ (j : Int) < (N : Int)) = True := by simp; omega
            have d2 := rlC_dropD (r := B) (i := j) (by omega)
            rw [← hBd j hjl] at d2
            simp only [u8] at d2
            have hsh : min j IntKind.u8.bits = j := by simp [IntKind.bits]; omega
            have hb := bit_at (A.getD i 0) j (by omega)
            have hst := thenB_succ (A.getD i 0) (setN m.rows b) j
            simp only [hin, hjn, Int.toNat_natCast, d1, d2, hsh, hb, bit_or, wk,if_true,if_false,forall_const,implies_true,ne_eq,eq_self,Nat.reduceEqDiff,Nat.reduceAdd,Nat.reduceMul,Nat.reduceSub,Nat.reduceLeDiff,Nat.reduceLT,Int.reduceEq,Int.reduceLT,Int.reduceLE,Int.reduceAdd,Int.reduceSub,Int.reduceMul,Int.reduceNeg,Int.reduceNe,reduceCtorEq,Int.reduceToNat,↓reduceIte]
            refine ⟨by omega, fun hb1 => ?_, fun hb0 => ?_⟩
            · have hbt : (A.getD i 0).toNat.testBit j = true := by
                cases hx : (A.getD i 0).toNat.testBit j with
                | true => rfl
                | false => rw [hx] at hb1; simp at hb1
              rw [if_pos hbt] at hst
              simp only [J_law14_ModelSets_j4, wk,if_true,if_false,forall_const,implies_true,ne_eq,eq_self,Nat.reduceEqDiff,Nat.reduceAdd,Nat.reduceMul,Nat.reduceSub,Nat.reduceLeDiff,Nat.reduceLT,Int.reduceEq,Int.reduceLT,Int.reduceLE,Int.reduceAdd,Int.reduceSub,Int.reduceMul,Int.reduceNeg,Int.reduceNe,reduceCtorEq,Int.reduceToNat,↓reduceIte]
              exact ⟨inR_of (by omega) (by omega), N - (j + 1), by omega, j + 1, by omega, rfl, by rw [hst]; simp⟩
            · have hbt : ¬ (A.getD i 0).toNat.testBit j = true := fun hx => by rw [if_pos hx] at hb0; exact hb0 rfl
              rw [if_neg hbt] at hst
              simp only [J_law14_ModelSets_j4, wk,if_true,if_false,forall_const,implies_true,ne_eq,eq_self,Nat.reduceEqDiff,Nat.reduceAdd,Nat.reduceMul,Nat.reduceSub,Nat.reduceLeDiff,Nat.reduceLT,Int.reduceEq,Int.reduceLT,Int.reduceLE,Int.reduceAdd,Int.reduceSub,Int.reduceMul,Int.reduceNeg,Int.reduceNe,reduceCtorEq,Int.reduceToNat,↓reduceIte]
              exact ⟨inR_of (by omega) (by omega), N - (j + 1), by omega, j + 1, by omega, rfl, by rw [hst]; simp⟩
          · obtain rfl : j = N := by omega
            simp only [J_law14_ModelSets_j3, J_law14_ModelSets_j2, hin, Int.toNat_natCast, d3, wk,if_true,if_false,forall_const,implies_true,ne_eq,eq_self,Nat.reduceEqDiff,Nat.reduceAdd,Nat.reduceMul,Nat.reduceSub,Nat.reduceLeDiff,Nat.reduceLT,Int.reduceEq,Int.reduceLT,Int.reduceLE,Int.reduceAdd,Int.reduceSub,Int.reduceMul,Int.reduceNeg,Int.reduceNe,reduceCtorEq,Int.reduceToNat,↓reduceIte]
            exact ⟨inR_of (by omega) (by omega), j - (i + 1), by omega, i + 1, by omega, rfl, by simp⟩
        · obtain rfl : i = N := by omega
          simp only [J_law14_ModelSets_j1, wk,if_true,if_false,forall_const,implies_true,ne_eq,eq_self,Nat.reduceEqDiff,Nat.reduceAdd,Nat.reduceMul,Nat.reduceSub,Nat.reduceLeDiff,Nat.reduceLT,Int.reduceEq,Int.reduceLT,Int.reduceLE,Int.reduceAdd,Int.reduceSub,Int.reduceMul,Int.reduceNeg,Int.reduceNe,reduceCtorEq,Int.reduceToNat,↓reduceIte]
      refine ⟨fun e1 => ?_, fun e1 => ?_⟩
      · obtain ⟨R, hR, hRl, hRi⟩ := hand e1
        have qs := hset (andE a b).1 (and_sm e1).2.1 (and_sm e1).2.2 (and_sm e1).1
        rw [← hR] at qs
        refine PCalls.use (qs) ?_; simp only [wk,if_true,if_false,forall_const,implies_true,ne_eq,eq_self,Nat.reduceEqDiff,Nat.reduceAdd,Nat.reduceMul,Nat.reduceSub,Nat.reduceLeDiff,Nat.reduceLT,Int.reduceEq,Int.reduceLT,Int.reduceLE,Int.reduceAdd,Int.reduceSub,Int.reduceMul,Int.reduceNeg,Int.reduceNe,reduceCtorEq,Int.reduceToNat,↓reduceIte]
        refine W_loop (fun n fr h => ∃ i : Nat, i ≤ N ∧ n = N - i ∧ fr = [(1, stV a), (2, stV b), (3, .ptr 0 0), (7, .lst .ro N (rlC A)), (9, .lst .ro N (rlC B)), (13, .lst .ro N (rlC R)), (14, .int .i64 0), (92, .int .i64 N), (93, .int .i64 i)] ∧ h = [some (false, [.int .i64 m.n, .lst .ro m.rows.length (rowsC m.rows)])]) N ⟨0, by omega, by omega, by rfl, by rfl⟩ ?_
        rintro n fr h' ⟨i, hi, rfl, rfl, rfl⟩
        simp only [J_law14_ModelSets_j9, wk,if_true,if_false,forall_const,implies_true,ne_eq,eq_self,Nat.reduceEqDiff,Nat.reduceAdd,Nat.reduceMul,Nat.reduceSub,Nat.reduceLeDiff,Nat.reduceLT,Int.reduceEq,Int.reduceLT,Int.reduceLE,Int.reduceAdd,Int.reduceSub,Int.reduceMul,Int.reduceNeg,Int.reduceNe,reduceCtorEq,Int.reduceToNat,↓reduceIte]
        refine ⟨fun hlt => ?_, fun hge => ?_⟩
        · have hil : i < N := by omega
          have hin : ((0 ≤ (i : Int)) ∧ (i : Int) < (N : Int)) = True := by simp; omega
          have d1 := rlC_dropD (r := A) (i := i) (by omega)
          have d2 := rlC_dropD (r := B) (i := i) (by omega)
          have d3 := rlC_dropD (r := R) (i := i) (by omega)
          have e := hRi i hil
          rw [e] at d3
          simp only [u8] at d1 d2 d3
          simp only [hin, Int.toNat_natCast, d1, d2, d3, bit_or, wk,if_true,if_false,forall_const,implies_true,ne_eq,eq_self,Nat.reduceEqDiff,Nat.reduceAdd,Nat.reduceMul,Nat.reduceSub,Nat.reduceLeDiff,Nat.reduceLT,Int.reduceEq,Int.reduceLT,Int.reduceLE,Int.reduceAdd,Int.reduceSub,Int.reduceMul,Int.reduceNeg,Int.reduceNe,reduceCtorEq,Int.reduceToNat,↓reduceIte]
          exact ⟨inR_of (by omega) (by omega), N - (i + 1), by omega, i + 1, by omega, rfl, by simp⟩
        · obtain rfl : i = N := by omega
          simp only [J_law14_ModelSets_j8, hnn, wk,if_true,if_false,forall_const,implies_true,ne_eq,eq_self,Nat.reduceEqDiff,Nat.reduceAdd,Nat.reduceMul,Nat.reduceSub,Nat.reduceLeDiff,Nat.reduceLT,Int.reduceEq,Int.reduceLT,Int.reduceLE,Int.reduceAdd,Int.reduceSub,Int.reduceMul,Int.reduceNeg,Int.reduceNe,reduceCtorEq,Int.reduceToNat,↓reduceIte]
          exact hj7 _ rfl
      · exact hj7 _ rfl
end Go.Proofs.Ytnmikopkjdekaaa

/- ModelHonest: whether a certificate is honest is as the document says. -/
-- fast
namespace Go.Proofs.Ytnmikopkjdekaaa
set_option linter.unusedSimpArgs false
set_option linter.unusedVariables false
open Go.RowKit Go.Lib

set_option maxRecDepth 100000 in
set_option maxHeartbeats 16000000 in
theorem a14_honest (m : Mdl) (c : Crt) (hat : ∀ x ∈ m.rows, x.atom < 65536) (hsg : c.signer < 65536) : ACalls Try.prog 4 [mdV m, vC c] [] (fun a _ => a = .bool true) := by
  have ql := p14_large m [c.words, [c.speaker]] (by simp)
  refine acalls_of mixed J_law14_ModelHonest_ok (Nat.le_of_ble_eq_true rfl) ?_; simp only [J_law14_ModelHonest, mdV, vC, cC, wk,if_true,if_false,forall_const,implies_true,ne_eq,eq_self,Nat.reduceEqDiff,Nat.reduceAdd,Nat.reduceMul,Nat.reduceSub,Nat.reduceLeDiff,Nat.reduceLT,Int.reduceEq,Int.reduceLT,Int.reduceLE,Int.reduceAdd,Int.reduceSub,Int.reduceMul,Int.reduceNeg,Int.reduceNe,reduceCtorEq,Int.reduceToNat,↓reduceIte]
  refine PCalls.use (p14_awake) ?_; simp only [wk,if_true,if_false,forall_const,implies_true,ne_eq,eq_self,Nat.reduceEqDiff,Nat.reduceAdd,Nat.reduceMul,Nat.reduceSub,Nat.reduceLeDiff,Nat.reduceLT,Int.reduceEq,Int.reduceLT,Int.reduceLE,Int.reduceAdd,Int.reduceSub,Int.reduceMul,Int.reduceNeg,Int.reduceNe,reduceCtorEq,Int.reduceToNat,↓reduceIte]
  simp only [mdV, setsC, List.map_cons, List.map_nil, List.length_cons, List.length_nil] at ql
  refine PCalls.use (ql) ?_; simp only [wk,if_true,if_false,forall_const,implies_true,ne_eq,eq_self,Nat.reduceEqDiff,Nat.reduceAdd,Nat.reduceMul,Nat.reduceSub,Nat.reduceLeDiff,Nat.reduceLT,Int.reduceEq,Int.reduceLT,Int.reduceLE,Int.reduceAdd,Int.reduceSub,Int.reduceMul,Int.reduceNeg,Int.reduceNe,reduceCtorEq,Int.reduceToNat,↓reduceIte]
  cases hlg : largeM m [c.words, [c.speaker]] with
  | true => try simp only [wk,if_true,if_false,forall_const,implies_true,ne_eq,eq_self,Nat.reduceEqDiff,Nat.reduceAdd,Nat.reduceMul,Nat.reduceSub,Nat.reduceLeDiff,Nat.reduceLT,Int.reduceEq,Int.reduceLT,Int.reduceLE,Int.reduceAdd,Int.reduceSub,Int.reduceMul,Int.reduceNeg,Int.reduceNe,reduceCtorEq,Int.reduceToNat,↓reduceIte]
  | false =>
    try simp only [wk,if_true,if_false,forall_const,implies_true,ne_eq,eq_self,Nat.reduceEqDiff,Nat.reduceAdd,Nat.reduceMul,Nat.reduceSub,Nat.reduceLeDiff,Nat.reduceLT,Int.reduceEq,Int.reduceLT,Int.reduceLE,Int.reduceAdd,Int.reduceSub,Int.reduceMul,Int.reduceNeg,Int.reduceNe,reduceCtorEq,Int.reduceToNat,↓reduceIte]
    obtain ⟨hm, hsz⟩ := not_large hlg hat
    have hw := hsz c.words (by simp)
    have hsp := (hsz [c.speaker] (by simp)).2 c.speaker (by simp)
    have hc : smallC c := ⟨hsg, by omega, by omega, fun x hx => by have := hw.2 x hx; omega⟩
    have q1 := p_mHonest m c hm hc (fun x hx => by have := hw.2 x hx; omega) (by omega)
    have q2 := p_rmHonest m c hm hc (fun x hx => by have := hw.2 x hx; omega) (by omega)
    have qo := p_own14 m hm
    simp only [mdV, vC, cC] at q1 q2 qo
    rcases tupB_cases (mdMay m && decide (checkE c = 0)) (honestE m c) with ⟨e, he⟩ | ⟨he, _⟩
    all_goals
      rw [he] at q1 q2
      refine PCalls.use (q1) ?_; simp only [wk,if_true,if_false,forall_const,implies_true,ne_eq,eq_self,Nat.reduceEqDiff,Nat.reduceAdd,Nat.reduceMul,Nat.reduceSub,Nat.reduceLeDiff,Nat.reduceLT,Int.reduceEq,Int.reduceLT,Int.reduceLE,Int.reduceAdd,Int.reduceSub,Int.reduceMul,Int.reduceNeg,Int.reduceNe,reduceCtorEq,Int.reduceToNat,↓reduceIte]
      refine ⟨_, qo, ?_⟩; try simp only [wk,if_true,if_false,forall_const,implies_true,ne_eq,eq_self,Nat.reduceEqDiff,Nat.reduceAdd,Nat.reduceMul,Nat.reduceSub,Nat.reduceLeDiff,Nat.reduceLT,Int.reduceEq,Int.reduceLT,Int.reduceLE,Int.reduceAdd,Int.reduceSub,Int.reduceMul,Int.reduceNeg,Int.reduceNe,reduceCtorEq,Int.reduceToNat,↓reduceIte]
      refine ⟨_, q2, ?_⟩; try simp only [wk,if_true,if_false,forall_const,implies_true,ne_eq,eq_self,Nat.reduceEqDiff,Nat.reduceAdd,Nat.reduceMul,Nat.reduceSub,Nat.reduceLeDiff,Nat.reduceLT,Int.reduceEq,Int.reduceLT,Int.reduceLE,Int.reduceAdd,Int.reduceSub,Int.reduceMul,Int.reduceNeg,Int.reduceNe,reduceCtorEq,Int.reduceToNat,↓reduceIte]
end Go.Proofs.Ytnmikopkjdekaaa
