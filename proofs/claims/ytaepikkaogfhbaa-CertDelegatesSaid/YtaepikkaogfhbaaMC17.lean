/- Texts of one proof, laid together: Sk Sl Sn Sw Su Sv Sx Sy Ca Sz Cb Cd Ce Cf Cg Ch Cj Ck Cl Ci Cm Cn Co Cq Cr. -/
import Derived.Test.YtaepikkaogfhbaaMC4
import Derived.Test.YtaepikkaogfhbaaMC10
import Derived.Test.YtaepikkaogfhbaaMC1
import Derived.Test.YtaepikkaogfhbaaMC15
import Derived.Test.YtaepikkaogfhbaaMC13
import Derived.Maps.OwnSet
import Derived.Test.YtaepikkaogfhbaaMC14

/- What set.Of does, by the library's contracts. -/
namespace Go.Proofs.Ytaepikkaogfhbaa
set_option linter.unusedSimpArgs false
set_option linter.unusedVariables false
open Go.RowKit Go.Lib Go.Sort Go.Shelf

set_option maxHeartbeats 400000 in
theorem cmp_any (x y : ByteArray) (w : World) :
    Calls Try.prog 127 #[.string x, .string y] w fun e w' => e = .returned (.int .i64 (cmpW x y)) ∧ ∃ q, w' = w.drewN q := by
  cases h1 : wless x y with
  | true =>
    have H1 := Lib.hid h1
    have e : Hid (cmpW x y = -1) := by show _ = _; unfold cmpW; rw [h1]; rfl
    clear h1
    go_enter Try.func127, Try.ntmps127
    go_wp2_with (go_at_call 98; refine (wless_any _ _ _).mono ?_; rintro e w' ⟨rfl, rfl⟩; rw [H1.out])
    go_ret
    exact ⟨by rw [e.out]; rfl, 0, rfl⟩
  | false =>
    have H1 := Lib.hid h1
    cases h2 : wless y x with
    | true =>
      have H2 := Lib.hid h2
      have e : Hid (cmpW x y = 1) := by show _ = _; unfold cmpW; rw [h1, h2]; rfl
      clear h1 h2
      go_enter Try.func127, Try.ntmps127
      go_wp2_with (go_at_call 98; refine (wless_any _ _ _).mono ?_; rintro e w' ⟨rfl, rfl⟩; first | rw [H1.out] | rw [H2.out])
      go_ret
      exact ⟨by rw [e.out]; rfl, 0, rfl⟩
    | false =>
      have H2 := Lib.hid h2
      have e : Hid (cmpW x y = 0) := by show _ = _; unfold cmpW; rw [h1, h2]; rfl
      clear h1 h2
      go_enter Try.func127, Try.ntmps127
      go_wp2_with (go_at_call 98; refine (wless_any _ _ _).mono ?_; rintro e w' ⟨rfl, rfl⟩; first | rw [H1.out] | rw [H2.out])
      go_ret
      exact ⟨by rw [e.out]; rfl, 0, rfl⟩
theorem holds_row {w : World} {b : Nat} {cur : Array Value} {e : TypeId} {l : List ByteArray} (hb : w.heap[b]? = some (.cells cur e (0, 0))) (ht : cur.toList.take l.length = l.map .string) : Holds Value.string w b 0 l.toArray := by
  intro j hj
  have hj' : j < l.length := by simpa using hj
  refine ⟨?_, by simp [World.frozen?, hb]⟩
  have h1 : (cur.toList.take l.length)[j]? = (l.map Value.string)[j]? := by rw [ht]
  rw [List.getElem?_take_of_lt hj'] at h1
  simp only [World.cell?, hb, Nat.zero_add]
  simp only [Option.isSome_none, Bool.false_eq_true, if_false]
  rw [← Array.getElem?_toList, h1]
  simp [hj']
theorem eql_word (T : TypeId) : EqlAt Try.prog T Value.string (fun x y => decide (x = y)) := ⟨fun x y w => by rw [(EqlAt.string Try.prog T).1 x y w]; simp only [str_iff], (EqlAt.string Try.prog T).2⟩
theorem neq_word (T : TypeId) : NeqAt Try.prog T Value.string (fun x y => decide (x = y)) := ⟨fun x y w => by rw [(NeqAt.string Try.prog T).1 x y w]; simp only [str_iff], (NeqAt.string Try.prog T).2⟩
theorem cmp_lays (blk off size : Nat) (w : World) : CmpLays1 Try.prog 127 #[] Value.string cmpW blk off size w :=
  CmpReads.lays fun _ _ _ _ x y => cmp_any x y _
theorem holds_grow {w : World} {blk off : Nat} {d : Array ByteArray} (os : Array Obj) (hb : blk < w.heap.size) (h : Holds Value.string w blk off d) : Holds Value.string (grow w os) blk off d := by
  have e : (grow w os).heap[blk]? = w.heap[blk]? := by simp only [grow]; rw [Array.getElem?_append_left hb]
  intro j hj
  obtain ⟨h1, h2⟩ := h j hj
  refine ⟨?_, ?_⟩
  · rw [World.cell?_of_block (w := w) e]; exact h1
  · simp only [World.frozen?] at h2 ⊢
    rw [e]; exact h2
theorem below_put {w : World} {B blk off q : Nat} {d : Array ByteArray} (hb : B ≤ blk) : RowKit.Below B w (putRow Value.string (Sort.ahead w q) blk off d) :=
  ⟨rfl, rfl, rfl, by simp [putRow, mapBlock, Sort.ahead], fun k hk => by
    simp only [putRow, mapBlock, Sort.ahead, Array.getElem?_modify]
    rw [if_neg (by omega)]⟩
theorem below_grow {w w' : World} {B : Nat} (os : Array Obj) (hs : B ≤ w.heap.size) (h : RowKit.Below B w w') : RowKit.Below B w (grow w' os) :=
  ⟨h.os, h.tape, h.output, by simp only [grow, Array.size_append]; have := h.size; omega, fun k hk => by
    simp only [grow]
    rw [Array.getElem?_append_left (by have := h.size; omega)]
    exact h.block k hk⟩
set_option maxHeartbeats 400000 in
theorem clip_any (b n c : Nat) (w : World) (hn : 0 < n) (hc : n ≤ c) (hm : n ≤ 9223372036854775807) :
    Calls Try.prog 129 #[.slice (some ⟨b, 0, none⟩) n c] w fun e w' => e = .returned (.slice (some ⟨b, 0, none⟩) n n) ∧ w = w' := by
  go_enter Try.func129, Try.ntmps129
  go_wp2
  go_ret
  exact ⟨rfl, rfl⟩
/-- what was made, in the world behind -/
structure Made (w w' : World) (e : Ending) (r : List ByteArray × Int) : Prop where
  below : Below w.heap.size w w'
  res : (r.2 ≠ 0 ∧ e = .returned (.tuple #[.slice none 0 0, .int .i64 r.2])) ∨ (r.2 = 0 ∧ ∃ b c, w.heap.size ≤ b ∧ e = .returned (.tuple #[.slice (some ⟨b, 0, none⟩) r.1.length c, .int .i64 0]) ∧ r.1.length ≤ c ∧ ∀ i s, r.1[i]? = some s → w'.cell? ⟨b, i, none⟩ = some (.string s))
set_option maxRecDepth 100000 in
set_option maxHeartbeats 2000000 in
theorem sof_any (rb off cap n : Nat) (l : List ByteArray) (w : World) (hl : Hid (l.length = n)) (h0 : 0 < n) (hn : n ≤ 1000000) (hr : Hid (∀ j u, (l.map Value.string)[j]? = some u → w.cell? ⟨rb, off + j, none⟩ = some u)) (hs : Hid (∀ x ∈ l, x.size ≤ 9223372036854775807)) :
    Calls Try.prog 122 #[.slice (some ⟨rb, off, none⟩) n cap] w fun e w' => Made w w' e (ofE l) := by
  go_enter Try.func122, Try.ntmps122
  go_wp2_with fail
  go_loopw [9] (fun t wr => ∃ i : Nat, i ≤ n ∧ t = .int .i64 i ∧ Hid (∀ x ∈ l.take i, wordMay x = true) ∧ Drawn w wr) (fun t _ => n - (intOf t).toNat)
  case atStart => exact ⟨0, by omega, rfl, by intro x hx; simp at hx, 0, rfl⟩
  case round =>
    obtain ⟨i, hi, rfl, hall, q, rfl⟩ := hrel
    by_cases hlt : i < n
    · have hil : i < l.length := by have := hl.out; omega
      have ci : w.cell? ⟨rb, off + i, none⟩ = some (.string l[i]) := hr.out i _ (by simp [hil])
      have hsz := hs.out l[i] (List.getElem_mem hil)
      have hmem := Lib.hid (List.getElem_mem hil)
      have hnext : Hid (wordMay l[i] = true → ∀ x ∈ l.take (i + 1), wordMay x = true) := by
        intro hw x hx
        rw [List.take_succ_eq_append_getElem hil, List.mem_append] at hx
        rcases hx with hx | hx
        · exact hall.out x hx
        · simp at hx; subst hx; exact hw
      generalize l[i] = y at ci hsz hmem hnext
      cases hwy : wordMay y with
      | false =>
        have e : Hid (ofE l = ([], 2)) := by
          show _ = _
          unfold ofE
          rw [if_pos]
          cases hb : l.all wordMay with
          | false => rfl
          | true => rw [List.all_eq_true.1 hb y hmem.out] at hwy; cases hwy
        have HWY := Lib.hid hwy
        clear hwy
        go_wp2_with fail
        refine (wmay_any y _ hsz).mono ?_
        rintro e w' ⟨rfl, m, rfl⟩
        rw [HWY.out]
        go_wp2_with fail
        go_ret2
        rw [e.out]
        exact ⟨⟨rfl, rfl, rfl, Nat.le_refl _, fun _ _ => rfl⟩, .inl ⟨by decide, rfl⟩⟩
      | true =>
        have HWY := Lib.hid hwy
        clear hwy
        go_wp2_with fail
        refine (wmay_any y _ hsz).mono ?_
        rintro e w' ⟨rfl, m, rfl⟩
        rw [HWY.out]
        go_wp2_with fail
        go_roundw
        case rel => exact ⟨i + 1, by omega, by go_num, hnext.out HWY.out, q + m, rfl⟩
        case measure => simp [intOf]; omega
    · have hin : i = n := by omega
      subst hin
      go_wp2_with fail
      obtain ⟨i0, z, hi0, hz, hz1, hz2, hzs, _⟩ := elem_of (P := Try.prog) (e := 44) (sz := 1) (bytes := 16) (by kernel_rfl)
      refine (AnyE.slices_Clone lClone i0 z 1 16 hi0 hz hz1 hz2 hzs (by decide) Try.sizeOf44 rb off i cap (l.map .string) (w.drewN q) (by rw [List.length_map, hl.out, Nat.mul_one]) (by unfold maxLen; omega) (by omega) hr.out (fun u hu => by obtain ⟨s, _, rfl⟩ := List.mem_map.1 hu; rfl)).mono ?_
      rintro e w2 ⟨v', rfl, hown, hnn, hbel⟩
      rcases hown.2 with ⟨rfl, _⟩ | ⟨b, c, cur, rfl, hb, hblk, hnc, hcm, hcs, htake⟩
      · exact absurd rfl hnn
      have hH : Holds Value.string w2 b 0 l.toArray := holds_row hblk (by rw [hl.out]; simpa using htake)
      have hbs : b < w2.heap.size := lt_of_block hblk
      have hd : l.toArray.size = i := by simpa using hl.out
      have hsort := Any.slices_SortFunc lSort Value.string (fun _ => rfl) cmpW swo_cmp 127 #[] b 0 c l.toArray w2 (enters_of Try.func127 (by kernel_rfl) rfl) (cmp_lays b 0 _ w2) hH hbs (by rw [hd]; omega)
      rw [hd] at hsort
      have HH := Lib.hid hH
      have HB := Lib.hid hbel
      clear hH hbel htake hcs hown
      go_wp2_with fail
      refine hsort.mono ?_
      rintro e w3 ⟨rfl, d', q2, os, hperm, hsorted, hw3⟩
      have hd' : d'.size = i := by rw [hperm.1, hd]
      have hH3 : Holds Value.string w3 b 0 d' := by
        rw [hw3]
        unfold sortWorld
        exact holds_grow os (by simpa [putRow, mapBlock, Sort.ahead] using hbs) (holds_putRow _ _ b 0 l.toArray d' (holds_ahead _ _ _ _ _ _ HH.out) (by rw [hd', hd]))
      have hB3 : Hid (RowKit.Below w.heap.size w w3) := by
        have h1 : RowKit.Below w.heap.size w w2 := ⟨HB.out.os, HB.out.tape, HB.out.output, HB.out.size, HB.out.block⟩
        refine h1.trans ?_
        rw [hw3]
        unfold sortWorld
        exact below_grow os h1.size (below_put hb)
      have hcomp : Hid (compactUpTo d' d'.size = nrm l) := by
        refine compact_nrm (fun a b' hab hb' => ?_) (fun x => ?_)
        · have := hsorted a b' (Nat.zero_le _) hab (by omega)
          rwa [ltOf_cmp] at this
        · have hp := hperm.2.2.mem_iff (a := x)
          have e1 : (d'.extract 0 i).toList = d'.toList := by simp [← hd']
          have e2 : (l.toArray.extract 0 i).toList = l := by simp; exact List.take_of_length_le (by rw [hl.out]; exact Nat.le_refl _)
          rw [e1, e2] at hp
          exact hp
      have hsize3 : Hid (b < w3.heap.size) := by
        show _ < _
        rw [hw3]
        simp only [sortWorld, grow, Array.size_append, putRow, mapBlock, Sort.ahead, Array.size_modify]
        omega
      have hcompact := AnyE.slices_Compact lCompact Value.string (fun _ => rfl) (eql_word _) (neq_word _) ByteArray.empty Try.zeroValue44 b 0 c d' w3 hH3 (by rw [hd']; omega) (by rw [hd']; exact hnc)
      rw [hcomp.out, hd'] at hcompact
      have HH3 := Lib.hid hH3
      have hlen : Hid ((nrm l).length ≤ i ∧ 0 < (nrm l).length) := by
        have h1 : ∀ l : List ByteArray, (nrm l).length ≤ l.length := by
          have h : ∀ (x : ByteArray) (l : List ByteArray), (ins x l).length ≤ l.length + 1 := by
            intro x l
            induction l with
            | nil => simp [ins]
            | cons y l ih => simp only [ins]; split; simp; split <;> simp only [List.length_cons] <;> omega
          intro l
          induction l with
          | nil => simp [nrm]
          | cons x l ih => simp only [nrm, List.length_cons]; have := h x (nrm l); omega
        refine ⟨by have := h1 l; rw [hl.out] at this; exact this, ?_⟩
        have hne : 0 < l.length := by rw [hl.out]; exact h0
        exact List.length_pos_of_mem (mem_nrm.2 (List.getElem_mem hne))
      have hmay : Hid (∀ x ∈ l, wordMay x = true) := by
        have := hall.out
        rwa [List.take_of_length_le (by rw [hl.out]; exact Nat.le_refl _)] at this
      have hof : Hid (ofE l = if 1 ≤ (nrm l).length ∧ (nrm l).length ≤ 16 then (nrm l, 0) else ([], 3)) := by
        show _ = _
        unfold ofE
        rw [if_neg (by rw [List.all_eq_true.2 hmay.out]; simp)]
      have hdd := hd'
      clear hsort hH3 hsorted hperm hw3 hd'
      obtain ⟨m, hm⟩ : ∃ m, m = (nrm l).length := ⟨_, rfl⟩
      rw [← hm] at hcompact
      have HM := Lib.hid hm
      have hmi : m ≤ i ∧ 0 < m := by rw [hm]; exact hlen.out
      clear hm
      go_wp2_with fail
      refine hcompact.mono ?_
      rintro e w4 ⟨rfl, q3, hw4⟩
      have HB4 : Hid (RowKit.Below w.heap.size w w4) := by
        show RowKit.Below _ _ _
        rw [hw4]
        exact hB3.out.trans (below_put hb)
      have HC4 : Hid (∀ j s, (nrm l)[j]? = some s → w4.cell? ⟨b, j, none⟩ = some (.string s)) := by
        intro j s hj
        have hjl : j < (nrm l).length := (List.getElem?_eq_some_iff.1 hj).1
        have hsz : (nrm l ++ List.replicate (i - m) ByteArray.empty).toArray.size = d'.size := by
          have e1 : d'.size = i := by have := hcomp; exact hdd
          rw [e1, List.size_toArray, List.length_append, List.length_replicate, ← HM.out]; omega
        have hh := holds_putRow Value.string (Sort.ahead w3 q3) b 0 d' (nrm l ++ List.replicate (i - m) ByteArray.empty).toArray (holds_ahead _ _ _ _ _ _ HH3.out) hsz
        rw [← hw4] at hh
        have := (hh j (by simp; omega)).1
        rw [Nat.zero_add] at this
        rw [this]
        congr 2
        rw [getElem!_pos _ j (by simp; omega)]
        simp only [List.getElem_toArray]
        rw [List.getElem_append_left hjl]
        exact (List.getElem?_eq_some_iff.1 hj).2
      clear hw4 hcompact
      have g1 : decide ((m : Int) < 1) = false := by simp; omega
      by_cases h16 : 16 < m
      · have g2 : decide (16 < (m : Int)) = true := by simp; omega
        go_wp2_with fail
        go_ret2
        rw [hof.out, if_neg (by rw [← HM.out]; omega)]
        exact ⟨HB4.out, .inl ⟨by decide, rfl⟩⟩
      · have g2 : decide (16 < (m : Int)) = false := by simp; omega
        go_wp2_with fail
        refine (clip_any b m c w4 (by omega) (by omega) (by omega)).mono ?_
        rintro e w' ⟨rfl, rfl⟩
        go_wp2_with fail
        go_ret2
        rw [hof.out, if_pos (by rw [← HM.out]; omega)]
        exact ⟨HB4.out, .inr ⟨rfl, b, m, hb, by rw [← HM.out]; rfl, by rw [← HM.out]; exact Nat.le_refl _, HC4.out⟩⟩
set_option maxRecDepth 100000 in
set_option maxHeartbeats 2000000 in
theorem clone_none (ad : Addr) (c : Nat) (w : World) :
    Calls Try.prog 125 #[.slice (some ad) 0 c] w fun e w' => ∃ a' cap', e = .returned (.slice a' 0 cap') ∧ Below w.heap.size w w' := by
  obtain ⟨i0, z, hi, hz0, hz1, hz2, hzs, _⟩ := elem_of (P := Try.prog) (e := 44) (sz := 1) (bytes := 16) (by kernel_rfl)
  have q22 : ∀ (w : World) (a : Option Addr) (n c n' c' : Nat), (binOp .eql 25 (.slice a n c) (.slice none n' c')).run Try.prog w = .ok (.bool a.isNone) w := fun w a n c n' c' => Lib.run_eql_slice_nil w _ _ a n c n' c' Try.underlying25
  go_enter Try.func125, Try.ntmps125
  go_wp2_with (at_builtin; refine wpList_append_row _ rfl _ _ 25 rfl w.heap.size 44 i0 z 1 16 Try.underlying25 hi hz0 hz1 hz2 hzs (by decide) (.slice (some ⟨w.heap.size, 0, none⟩) 0 0) 0 [] rfl (World.ownsRow_made w #[] 0 (Nat.le_refl _) (Nat.zero_le _) (by simp)) (some ad) 0 c [] rfl (by simp) (RowOf.nil _ _) (by intro h; cases h) (by simp) (by unfold maxLen; omega) (by omega) (by simp) ?_; intro a' cap' w1 hown hgrow _ _)
  go_ret
  exact ⟨a', cap', rfl, ((Below.refl _ w).alloc (Nat.le_refl _) _).grown hgrow (by simp) (by simp [Value.ownBlock])⟩
theorem clone_zero (a : Option Addr) (c : Nat) (w : World) :
    Calls Try.prog 125 #[.slice a 0 c] w fun e w' => ∃ a' cap', e = .returned (.slice a' 0 cap') ∧ Below w.heap.size w w' := by
  cases a with
  | none => exact (AnyE.slices_Clone_nil lClone 0 c w).mono (by rintro e w' ⟨rfl, rfl⟩; exact ⟨_, _, rfl, Below.refl _ _⟩)
  | some ad => exact clone_none ad c w
set_option maxRecDepth 100000 in
set_option maxHeartbeats 2000000 in
theorem compact_zero (a : Option Addr) (c : Nat) (w : World) :
    Calls Try.prog 128 #[.slice a 0 c] w fun e w' => e = .returned (.slice a 0 c) ∧ w = w' := by
  go_enter Try.func128, Try.ntmps128
  go_wp2
  go_ret
  exact ⟨rfl, rfl⟩
set_option maxRecDepth 100000 in
set_option maxHeartbeats 2000000 in
theorem sof_none (a : Option Addr) (c : Nat) (w : World) :
    Calls Try.prog 122 #[.slice a 0 c] w fun e w' => Made w w' e (ofE []) := by
  have hsort := fun (p : Option Addr) (cap : Nat) (fv : Value) (w : World) => AnyF.slices_SortFunc_none (P := Try.prog) { lSort with } p cap fv w
  go_enter Try.func122, Try.ntmps122
  go_wp2_with fail
  go_loopw [9] (fun t wr => t = .int .i64 0 ∧ wr = w) (fun _ _ => 0)
  case atStart => exact ⟨rfl, rfl⟩
  case round =>
    obtain ⟨rfl, rfl⟩ := hrel
    go_wp2_with fail
    refine (clone_zero a c _).mono ?_
    rintro e w1 ⟨a', cap', rfl, hb1⟩
    have HB := Lib.hid hb1
    clear hb1
    go_wp2_with fail
    refine (hsort a' cap' _ w1).mono ?_
    rintro e w2 ⟨rfl, rfl⟩
    go_wp2_with fail
    refine (compact_zero a' cap' w2).mono ?_
    rintro e w3 ⟨rfl, rfl⟩
    go_wp2_with fail
    go_ret2
    exact ⟨HB.out, .inl ⟨by decide, rfl⟩⟩
end Go.Proofs.Ytaepikkaogfhbaa

/- set.Of as a call that leaves all objects alone. -/
namespace Go.Proofs.Ytaepikkaogfhbaa
set_option linter.unusedSimpArgs false
set_option linter.unusedVariables false
open Go.RowKit Go.Lib

theorem ofE_snd (l : List ByteArray) (h : (ofE l).2 ≠ 0) : (ofE l).1 = [] := by
  unfold ofE at h ⊢
  split
  · rfl
  · next h1 =>
    rw [if_neg h1] at h
    split
    · next h2 => rw [if_pos h2] at h; exact absurd rfl h
    · rfl
theorem cells_news {g : Gh} {w w' : World} {b : Nat} {l : List ByteArray} (hb : w.heap.size ≤ b) (hc : ∀ i s, l[i]? = some s → w'.cell? ⟨b, i, none⟩ = some (.string s)) : CellsAt (g.news w w') b 0 (l.map .string) := by
  intro i v hv
  rw [List.getElem?_map] at hv
  cases hs : l[i]? with
  | none => rw [hs] at hv; cases hv
  | some s =>
    rw [hs] at hv
    cases hv
    rw [Nat.zero_add]
    exact news_new hb (hc i s hs) rfl
theorem repL_strs (g : Gh) : ∀ l : List ByteArray, RepL g (l.map .string) (l.map .str)
  | [] => .nil
  | s :: l => .cons (.str s) (repL_strs g l)
theorem plains_strs (l : List ByteArray) : plains (l.map .str) := by
  intro a ha
  obtain ⟨s, _, rfl⟩ := List.mem_map.1 ha
  rfl
theorem rep_new {g : Gh} {w w' : World} {b c : Nat} {f : Fl} {l : List ByteArray} (hb : w.heap.size ≤ b) (hn : l.length ≤ c) (hf : f = .clip → c = l.length) (hc : ∀ i s, l[i]? = some s → w'.cell? ⟨b, i, none⟩ = some (.string s)) : Rep (g.news w w') (.slice (some ⟨b, 0, none⟩) l.length c) (.lst f l.length (l.map .str)) :=
  .lst b 0 _ c f _ _ (cells_news hb hc) (plains_strs l) hn hf (repL_strs _ l)
theorem p_sof (l : List ByteArray) (hl : l.length ≤ 1000000) (hs : ∀ x ∈ l, x.size ≤ 9223372036854775807) : PCalls Try.prog 122 [.lst .ro l.length (l.map .str)] (vSet (ofE l)) := by
  refine pcalls_calls (by simp [free, free.frees, frees_str]) (free_vSet _) (by simp [vSet, plain]) (by kernel_rfl) ?_
  intro g w vargs hsim hr
  obtain ⟨v, vs, rfl, hv, hvs⟩ : ∃ v vs, vargs = v :: vs ∧ Rep g v (.lst .ro l.length (l.map .str)) ∧ RepL g vs [] := by
    cases hr with
    | cons h1 h2 => exact ⟨_, _, rfl, h1, h2⟩
  cases hvs
  obtain ⟨a, c, rfl, hrow⟩ := rep_strs hsim hv
  have hm : ∀ e w', Made w w' e (ofE l) → ∃ x, e = .returned x ∧ Below w.heap.size w w' ∧ Rep (g.news w w') x (vSet (ofE l)) := by
    rintro e w' ⟨hb, h | ⟨h0, b, c, hbb, rfl, hnc, hcell⟩⟩
    · obtain ⟨h1, rfl⟩ := h
      refine ⟨_, rfl, hb, ?_⟩
      unfold vSet
      rw [ofE_snd l h1]
      exact .tup [_, _] _ (by intro a ha; simp at ha; rcases ha with rfl | rfl <;> rfl) (.cons (.lst0 none 0 .ro (fun _ => rfl)) (.cons (.int .i64 _) .nil))
    · refine ⟨_, rfl, hb, ?_⟩
      unfold vSet
      rw [h0]
      exact .tup [_, _] _ (by intro a ha; simp at ha; rcases ha with rfl | rfl <;> rfl) (.cons (rep_new hbb hnc (fun h => nomatch h) hcell) (.cons (.int .i64 _) .nil))
  rcases hrow with h0 | ⟨b, off, rfl, hcells⟩
  · have hl0 : l = [] := by simpa using h0
    subst hl0
    exact (sof_none a c w).mono hm
  · by_cases h0 : l = []
    · subst h0
      exact (sof_none _ c w).mono hm
    · exact (sof_any b off c l.length l w rfl (List.length_pos_iff.2 h0) hl hcells hs).mono hm
end Go.Proofs.Ytaepikkaogfhbaa

/- slices.Concat of two sets. -/
namespace Go.Proofs.Ytaepikkaogfhbaa
set_option linter.unusedSimpArgs false
set_option linter.unusedVariables false
open Go.RowKit Go.Lib Go.Sort Go.Shelf

theorem ownr_ge {w : World} {B e n : Nat} {v : Value} {xs : List Value} (h : w.ownsRow B e 1 v n xs) : ∀ k, v.ownBlock = some k → B ≤ k := by
  intro k hk
  rcases h.2 with ⟨rfl, _⟩ | ⟨g, c, cur, rfl, hg, _⟩
  · cases hk
  · cases hk; exact hg
theorem rep_some {g : Gh} {v : Value} {f : Fl} {n : Nat} {x : AV} {l : List AV} (h : Rep g v (.lst f n (x :: l))) : ∃ b off c vs, v = .slice (some ⟨b, off, none⟩) n c ∧ CellsAt g b off vs ∧ n ≤ c ∧ RepL g vs (x :: l) := by
  cases h with
  | lst b off n c f vs l h1 h2 h3 h4 h5 => exact ⟨b, off, c, vs, rfl, h1, h3, h5⟩
theorem rep_somes {P : Program} {g : Gh} {h : Hp} {w : World} {v : Value} {f : Fl} {l : List ByteArray} (hs : Sim P g h w) (hl : l ≠ []) (hr : Rep g v (.lst f l.length (l.map .str))) :
    ∃ b off c, v = .slice (some ⟨b, off, none⟩) l.length c ∧ RowOf w (some ⟨b, off, none⟩) (l.map .string) := by
  obtain ⟨a, c, rfl, h2⟩ := rep_strs hs hr
  cases l with
  | nil => exact absurd rfl hl
  | cons x l =>
    obtain ⟨b, off, c', vs, h3, _⟩ := rep_some hr
    cases h3
    exact ⟨b, off, c, rfl, h2⟩
end Go.Proofs.Ytaepikkaogfhbaa

/- set.Within: a map that the call keeps to itself. -/
namespace Go.Proofs.Ytaepikkaogfhbaa
set_option linter.unusedSimpArgs false
set_option linter.unusedVariables false
open Go.RowKit Go.Lib Go.Maps Go.WideMaps

theorem lawW : Keyed Try.prog 44 := string_keyed Try.underlying44
theorem zeroU (w : World) : (zeroValue 157).run Try.prog w = .ok (.agg #[]) w := by kernel_rfl
def litW (s : ByteArray) : Lit := .string s.data.toList
def setW (l : List ByteArray) : DataW Unit := setOf (.agg []) (l.map litW)
theorem setW_snoc (l : List ByteArray) (s : ByteArray) : setW (l ++ [s]) = (setW l).put (litW s) (.agg []) := by
  unfold setW
  rw [List.map_append, List.map_cons, List.map_nil, setOf_snoc]
theorem has_setW (l : List ByteArray) (s : ByteArray) : Maps.has (setW l) (litW s) = hasW l s := by
  unfold setW
  rw [has_setOf]
  · unfold hasW
    rw [List.any_map]
    congr 1
    funext y
    simp only [Function.comp]
    by_cases h : s = y
    · subst h
      rw [decide_eq_true rfl, WideAt.sameKey_self (by exact trivial)]
    · rw [decide_eq_false h, sameKey_ne]
      intro e
      unfold litW at e
      injection e with e
      exact h (WideShapes.bytes_inj e.symm)
  · intro x hx
    obtain ⟨s, _, rfl⟩ := List.mem_map.1 hx
    exact trivial
theorem run_makeMap_hint (n : Int) (w : World) : (Instr.makeMap 156 (some (.int .i64 n))).run Try.prog w = .ok (.map (some w.heap.size)) (w.alloc (.map #[] 0)) := by
  simp only [Instr.makeMap, Sem.run_bind, run_underlying Try.underlying156, Result.andThen_ok, asInt, asIntOf]
  rfl
set_option maxRecDepth 100000 in
set_option maxHeartbeats 2000000 in
theorem within_any (a1 a2 : Option Addr) (n1 n2 c1 c2 : Nat) (l1 l2 : List ByteArray) (w : World) (h1 : n1 ≤ 1000000) (h2 : n2 ≤ 1000000) (hl1 : Hid (l1.length = n1)) (hl2 : Hid (l2.length = n2))
    (r1 : Hid (RowOf w a1 (l1.map .string))) (r2 : Hid (RowOf w a2 (l2.map .string))) (s1 : Hid (∀ x ∈ l1, x.size ≤ maxLen)) (s2 : Hid (∀ x ∈ l2, x.size ≤ maxLen)) :
    Calls Try.prog 130 #[.slice a1 n1 c1, .slice a2 n2 c2] w fun e w' => e = .returned (.bool (withinE l1 l2)) ∧ Below w.heap.size w w' := by
  have hmm := run_makeMap_hint
  go_enter Try.func130, Try.ntmps130
  go_wp2_with fail
  go_loopw [17] (fun t wr => ∃ k : Nat, k ≤ n2 ∧ t = .int .i64 k ∧ Hid (wr.ownsMap Try.prog 44 unitElem w.heap.size k (setW (l2.take k))) ∧ Hid (Below w.heap.size w wr)) (fun t _ => n2 - (intOf t).toNat)
  case atStart => exact ⟨0, Nat.zero_le _, rfl, World.ownsMap_made _ _ _ _, (Below.refl _ _).alloc (Nat.le_refl _) _⟩
  case round =>
    obtain ⟨k, hk, rfl, HO, HB⟩ := hrel
    by_cases hlt : k < n2
    · have hkl : k < l2.length := by have := hl2.out; omega
      obtain ⟨b, off, ha, hcell⟩ : ∃ b off, a2 = some ⟨b, off, none⟩ ∧ w.cell? ⟨b, off + k, none⟩ = some (.string l2[k]) := by
        rcases r2.out with h | ⟨b, off, h, hc⟩
        · simp at h; rw [h] at hkl; simp at hkl
        · exact ⟨b, off, h, hc k _ (by simp [hkl])⟩
      have hc : wr.cell? ⟨b, off + k, none⟩ = some (.string l2[k]) := (HB.out.cell (World.block_lt_of_cell? w _ hcell)).trans hcell
      have hkey : keyOf Try.prog 44 (.string l2[k]) = some (litW l2[k]) := keyOf_string_mk Try.underlying44 (s2.out _ (List.getElem_mem hkl))
      have hnext : Hid (setW (l2.take (k + 1)) = (setW (l2.take k)).put (litW l2[k]) (.agg [])) := by show _ = _; rw [List.take_succ_eq_append_getElem hkl, setW_snoc]
      generalize l2[k] = y at hc hkey hnext
      subst ha
      clear hcell r2
      go_wp2_with (first | (at_mapUpdate; refine wpList_mapUpdate_own _ rfl _ _ _ 156 rfl 44 157 lawW Try.underlying156 (unitElem (H := Unit)) w.heap.size k _ rfl HO.out (by unfold maxLen; omega) _ _ _ rfl rfl hkey _ [] unitElem_mk ?_; intro w1 hown1 hgrow1; have HO1 := Lib.hid hown1; have HB1 := Lib.hid (HB.out.grown hgrow1 HB.out.size (fun j hj => by cases hj; exact Nat.le_refl _)); clear hown1 hgrow1))
      exact ⟨⟨k + 1, by omega, by go_num, by rw [hnext.out]; exact HO1.out, HB1⟩, by simp [intOf]; omega⟩
    · have hkn : k = n2 := by omega
      subst hkn
      go_wp2_with fail
      have HO' : Hid (wr.ownsMap Try.prog 44 unitElem w.heap.size k (setW l2)) := by
        have := HO.out
        rw [List.take_of_length_le (by rw [hl2.out]; exact Nat.le_refl _)] at this
        exact this
      clear HO r2 s2
      go_loopw [27] (fun t wr => ∃ k' : Nat, k' ≤ n1 ∧ t = .int .i64 k' ∧ Hid (wr.ownsMap Try.prog 44 unitElem w.heap.size k (setW l2)) ∧ Hid (Below w.heap.size w wr) ∧ Hid (∀ x ∈ l1.take k', hasW l2 x = true)) (fun t _ => n1 - (intOf t).toNat)
      case atStart => exact ⟨0, Nat.zero_le _, rfl, HO', HB, by intro x hx; simp at hx⟩
      case round =>
        clear HO' HB
        obtain ⟨i, hi, rfl, HO, HB, HA⟩ := hrel
        by_cases hlt : i < n1
        · have hkl : i < l1.length := by have := hl1.out; omega
          obtain ⟨b, off, ha, hcell⟩ : ∃ b off, a1 = some ⟨b, off, none⟩ ∧ w.cell? ⟨b, off + i, none⟩ = some (.string l1[i]) := by
            rcases r1.out with h | ⟨b, off, h, hc⟩
            · simp at h; rw [h] at hkl; simp at hkl
            · exact ⟨b, off, h, hc i _ (by simp [hkl])⟩
          have hc : wr.cell? ⟨b, off + i, none⟩ = some (.string l1[i]) := (HB.out.cell (World.block_lt_of_cell? w _ hcell)).trans hcell
          have hkey : keyOf Try.prog 44 (.string l1[i]) = some (litW l1[i]) := keyOf_string_mk Try.underlying44 (s1.out _ (List.getElem_mem hkl))
          have hmem := Lib.hid (List.getElem_mem hkl)
          have hnext : Hid (hasW l2 l1[i] = true → ∀ x ∈ l1.take (i + 1), hasW l2 x = true) := by
            intro hw x hx
            rw [List.take_succ_eq_append_getElem hkl, List.mem_append] at hx
            rcases hx with hx | hx
            · exact HA.out x hx
            · simp at hx; subst hx; exact hw
          generalize l1[i] = y at hc hkey hnext hmem
          subst ha
          clear hcell r1
          cases hh : hasW l2 y with
          | true =>
            have HH : Maps.has (setW l2) (litW y) = true := by rw [has_setW]; exact hh
            have HN := Lib.hid (hnext.out hh)
            clear hh hnext
            go_wp2_with (first | (at_lookup; refine wpList_lookup_own_unit _ rfl _ _ 156 rfl 44 157 lawW Try.underlying156 (zeroU _) w.heap.size k _ rfl HO.out _ _ rfl hkey ?_; rw [HH]))
            exact ⟨⟨i + 1, by omega, by go_num, HO.out.alloc _, HB.out.alloc HB.out.size _, HN⟩, by simp [intOf]; omega⟩
          | false =>
            have HH : Maps.has (setW l2) (litW y) = false := by rw [has_setW]; exact hh
            have HN : Hid (withinE l1 l2 = false) := by
              show _ = _
              cases hb : withinE l1 l2 with
              | false => rfl
              | true => rw [hasW_iff.2 (withinE_iff.1 hb y hmem.out)] at hh; cases hh
            clear hh hnext
            go_wp2_with (first | (at_lookup; refine wpList_lookup_own_unit _ rfl _ _ 156 rfl 44 157 lawW Try.underlying156 (zeroU _) w.heap.size k _ rfl HO.out _ _ rfl hkey ?_; rw [HH]))
            go_ret
            exact ⟨ret_bool HN.out.symm, HB.out.alloc HB.out.size _⟩
        · have hin : i = n1 := by omega
          subst hin
          go_wp2_with fail
          go_ret
          refine ⟨ret_bool ?_, HB.out⟩
          have := HA.out
          rw [List.take_of_length_le (by rw [hl1.out]; exact Nat.le_refl _)] at this
          exact (withinE_iff.2 fun w hw => hasW_iff.1 (this w hw)).symm
theorem p_within (l1 l2 : List ByteArray) (h1 : l1.length ≤ 1000000) (h2 : l2.length ≤ 1000000) (s1 : ∀ x ∈ l1, x.size ≤ maxLen) (s2 : ∀ x ∈ l2, x.size ≤ maxLen) :
    PCalls Try.prog 130 [.lst .ro l1.length (l1.map .str), .lst .ro l2.length (l2.map .str)] (.bool (withinE l1 l2)) := by
  refine pcalls_calls (by simp [free, free.frees, frees_str]) rfl rfl (by kernel_rfl) ?_
  intro g w vargs hsim hr
  obtain ⟨v1, v2, rfl, hv1, hv2⟩ : ∃ v1 v2, vargs = [v1, v2] ∧ Rep g v1 (.lst .ro l1.length (l1.map .str)) ∧ Rep g v2 (.lst .ro l2.length (l2.map .str)) := by
    cases hr with
    | cons q1 q2 =>
      cases q2 with
      | cons q3 q4 => cases q4; exact ⟨_, _, rfl, q1, q3⟩
  obtain ⟨a1, c1, rfl, r1⟩ := rep_strs hsim hv1
  obtain ⟨a2, c2, rfl, r2⟩ := rep_strs hsim hv2
  refine (within_any a1 a2 l1.length l2.length c1 c2 l1 l2 w h1 h2 rfl rfl r1 r2 s1 s2).mono ?_
  rintro e w' ⟨rfl, hb⟩
  exact ⟨_, rfl, hb, .bool _⟩
theorem p_same (l1 l2 : List ByteArray) (h1 : l1.length ≤ 1000000) (h2 : l2.length ≤ 1000000) (s1 : ∀ x ∈ l1, x.size ≤ maxLen) (s2 : ∀ x ∈ l2, x.size ≤ maxLen) :
    PCalls Try.prog 123 [.lst .ro l1.length (l1.map .str), .lst .ro l2.length (l2.map .str)] (.bool (withinE l1 l2 && withinE l2 l1)) := by
  refine pcalls_of (by first | rfl | simp [free, free.frees, frees_str, frees_u8, frees_u16]) (by first | rfl | simp [free, free.frees, frees_str, frees_u8, frees_u16]) (acalls_of mixed J_set_Same_ok (Nat.le_of_ble_eq_true rfl) ?_); simp only [J_set_Same, wk,if_true,if_false,forall_const,implies_true,ne_eq,eq_self,Nat.reduceEqDiff,Nat.reduceAdd,Nat.reduceMul,Nat.reduceSub,Nat.reduceLeDiff,Nat.reduceLT,Int.reduceEq,Int.reduceLT,Int.reduceLE,Int.reduceAdd,Int.reduceSub,Int.reduceMul,Int.reduceNeg,Int.reduceNe,reduceCtorEq,Int.reduceToNat,↓reduceIte]
  refine PCalls.use (p_within l1 l2 h1 h2 s1 s2) ?_; simp only [wk,if_true,if_false,forall_const,implies_true,ne_eq,eq_self,Nat.reduceEqDiff,Nat.reduceAdd,Nat.reduceMul,Nat.reduceSub,Nat.reduceLeDiff,Nat.reduceLT,Int.reduceEq,Int.reduceLT,Int.reduceLE,Int.reduceAdd,Int.reduceSub,Int.reduceMul,Int.reduceNeg,Int.reduceNe,reduceCtorEq,Int.reduceToNat,↓reduceIte]
  cases hw : withinE l1 l2 with
  | true =>
    simp only [wk,if_true,if_false,forall_const,implies_true,ne_eq,eq_self,Nat.reduceEqDiff,Nat.reduceAdd,Nat.reduceMul,Nat.reduceSub,Nat.reduceLeDiff,Nat.reduceLT,Int.reduceEq,Int.reduceLT,Int.reduceLE,Int.reduceAdd,Int.reduceSub,Int.reduceMul,Int.reduceNeg,Int.reduceNe,reduceCtorEq,Int.reduceToNat,↓reduceIte]
    refine PCalls.use (p_within l2 l1 h2 h1 s2 s1) ?_; simp only [wk,if_true,if_false,forall_const,implies_true,ne_eq,eq_self,Nat.reduceEqDiff,Nat.reduceAdd,Nat.reduceMul,Nat.reduceSub,Nat.reduceLeDiff,Nat.reduceLT,Int.reduceEq,Int.reduceLT,Int.reduceLE,Int.reduceAdd,Int.reduceSub,Int.reduceMul,Int.reduceNeg,Int.reduceNe,reduceCtorEq,Int.reduceToNat,↓reduceIte]
    rfl
  | false =>
    simp only [wk,if_true,if_false,forall_const,implies_true,ne_eq,eq_self,Nat.reduceEqDiff,Nat.reduceAdd,Nat.reduceMul,Nat.reduceSub,Nat.reduceLeDiff,Nat.reduceLT,Int.reduceEq,Int.reduceLT,Int.reduceLE,Int.reduceAdd,Int.reduceSub,Int.reduceMul,Int.reduceNeg,Int.reduceNe,reduceCtorEq,Int.reduceToNat,↓reduceIte]
    rfl
end Go.Proofs.Ytaepikkaogfhbaa

/- And, Quote, As, For of package set. -/
namespace Go.Proofs.Ytaepikkaogfhbaa
set_option linter.unusedSimpArgs false
set_option linter.unusedVariables false
open Go.RowKit Go.Lib

theorem setMay_ne {l : List ByteArray} (h : setMay l = true) : l ≠ [] := by
  rintro rfl
  have := (setMay_words h).1.1
  simp at this
theorem wsize_app {x y : ByteArray} : (x ++ y).size = x.size + y.size := ByteArray.size_append
end Go.Proofs.Ytaepikkaogfhbaa

/- awake of the laws on sets: what each call comes to. -/
namespace Go.Proofs.Ytaepikkaogfhbaa
set_option linter.unusedSimpArgs false
set_option linter.unusedVariables false
open Go.RowKit Go.Lib

def wA : ByteArray := atomW 8193
def wB : ByteArray := atomW 8194
def wAB : ByteArray := ⟨#[32, 1, 32, 2]⟩
def wBB : ByteArray := ⟨#[32, 2, 32, 2]⟩
def wDB : ByteArray := ⟨#[0, 1, 32, 2]⟩
theorem k_app : wA ++ wB = wAB := by apply ByteArray.ext; apply Array.ext'; simp [wA, wB, wAB, atomW]
theorem k_app2 : wB ++ wB = wBB := by apply ByteArray.ext; apply Array.ext'; simp [wB, wBB, atomW]
theorem k_of : ofE [wAB, wA, wA] = ([wA, wAB], 0) := by kernel_rfl
theorem k_quote : quoteE [wA, wB] [wB] = ([wAB, wBB], 0) := by kernel_rfl
theorem k_for : forE [wA] [wB] = ([wDB, wAB], 0) := by kernel_rfl
theorem k_as : asE [wA, wAB] 8193 = ([], 1) := by kernel_rfl
theorem k_and : andE [wA] [wB] = ([wA, wB], 0) := by kernel_rfl
theorem k_none : ofE [] = ([], 3) := by kernel_rfl
theorem k_may : setMay [wA, wAB] = true := by kernel_rfl
theorem k_may0 : setMay [] = false := by kernel_rfl
theorem k_has : hasW [wA, wAB] wAB = true := by kernel_rfl
theorem k_within : withinE [wA] [wA, wAB] = true := by kernel_rfl
theorem k_same : withinE [wA, wAB] [wAB, wBB] = false := by kernel_rfl
theorem k_heavy : heavyE [wA, wAB] = 2 := by kernel_rfl
theorem q_a : PCalls Try.prog 49 [.lst .ro 1 [.int .u16 8193]] (.str wA) := by
  have := p_rof [8193] (by decide) (by decide)
  rw [atomBytes_one] at this
  exact this
theorem q_b : PCalls Try.prog 49 [.lst .ro 1 [.int .u16 8194]] (.str wB) := by
  have := p_rof [8194] (by decide) (by decide)
  rw [atomBytes_one] at this
  exact this
theorem q_db : PCalls Try.prog 49 [.lst .ro 2 [.int .u16 1, .int .u16 8194]] (.str wDB) := by
  have := p_rof [1, 8194] (by decide) (by decide)
  exact this
theorem sz_k : wA.size = 2 ∧ wB.size = 2 ∧ wAB.size = 4 ∧ wBB.size = 4 ∧ wDB.size = 4 := ⟨rfl, rfl, rfl, rfl, rfl⟩
theorem q_of : PCalls Try.prog 122 [.lst .ro 3 [.str wAB, .str wA, .str wA]] (.tup [.lst .ro 2 [.str wA, .str wAB], .int .i64 0]) := by
  have := p_sof [wAB, wA, wA] (by decide) (by obtain ⟨h1, h2, h3, h4, h5⟩ := sz_k; intro x hx; simp at hx; rcases hx with rfl | rfl <;> omega)
  rw [k_of] at this; exact this
theorem q_none : PCalls Try.prog 122 [.lst .ro 0 []] (.tup [.lst .ro 0 [], .int .i64 3]) := by
  have := p_sof [] (by decide) (by simp)
  rw [k_none] at this; exact this
theorem q_may : PCalls Try.prog 60 [.lst .ro 2 [.str wA, .str wAB]] (.bool true) := by
  have := p_smay [wA, wAB] (by decide) (by obtain ⟨h1, h2, h3, h4, h5⟩ := sz_k; intro x hx; simp at hx; rcases hx with rfl | rfl <;> omega)
  rw [k_may] at this; exact this
theorem q_may0 : PCalls Try.prog 60 [.lst .ro 0 []] (.bool false) := by
  have := p_smay [] (by decide) (by simp)
  rw [k_may0] at this; exact this
theorem q_within : PCalls Try.prog 130 [.lst .ro 1 [.str wA], .lst .ro 2 [.str wA, .str wAB]] (.bool true) := by
  have := p_within [wA] [wA, wAB] (by decide) (by decide) (by obtain ⟨h1, h2, h3, h4, h5⟩ := sz_k; unfold maxLen; intro x hx; simp at hx; subst hx; omega) (by obtain ⟨h1, h2, h3, h4, h5⟩ := sz_k; unfold maxLen; intro x hx; simp at hx; rcases hx with rfl | rfl <;> omega)
  rw [k_within] at this; exact this
theorem q_same : PCalls Try.prog 123 [.lst .ro 2 [.str wA, .str wAB], .lst .ro 2 [.str wAB, .str wBB]] (.bool false) := by
  have := p_same [wA, wAB] [wAB, wBB] (by decide) (by decide) (by obtain ⟨h1, h2, h3, h4, h5⟩ := sz_k; unfold maxLen; intro x hx; simp at hx; rcases hx with rfl | rfl <;> omega) (by obtain ⟨h1, h2, h3, h4, h5⟩ := sz_k; unfold maxLen; intro x hx; simp at hx; rcases hx with rfl | rfl <;> omega)
  rw [k_same] at this; exact this
theorem q_eq (x y : ByteArray) : PCalls Try.prog 75 [.lst .ro 2 [.str x, .str y], .lst .ro 2 [.str x, .str y]] (.bool true) := by
  have := p_requal [x, y] [x, y] (by simp)
  rw [decide_eq_true rfl] at this; exact this
theorem q_none' : PCalls Try.prog 122 [.lst .clip 0 []] (.tup [.lst .ro 0 [], .int .i64 3]) := PCalls.ro (args := [.lst .clip 0 []]) q_none
theorem q_may0' : PCalls Try.prog 60 [.lst .clip 0 []] (.bool false) := PCalls.ro (args := [.lst .clip 0 []]) q_may0
end Go.Proofs.Ytaepikkaogfhbaa

/- large of the laws on sets; what stays small. -/
namespace Go.Proofs.Ytaepikkaogfhbaa
set_option linter.unusedSimpArgs false
set_option linter.unusedVariables false
open Go.RowKit Go.Lib

/-- a set, as it is handed -/
def vSt (s : List ByteArray) : AV := .lst .ro s.length (s.map .str)
def smallS (s : List ByteArray) : Prop := s.length ≤ 60 ∧ ∀ x ∈ s, x.size ≤ 100
def largeS (ls : List (List ByteArray)) : Bool := ls.any fun s => decide (60 < s.length) || s.any fun x => decide (100 < x.size)
theorem largeS_no {ls : List (List ByteArray)} : largeS ls = false ↔ ∀ s ∈ ls, smallS s := by
  unfold largeS smallS
  rw [List.any_eq_false]
  refine forall_congr' fun s => forall_congr' fun _ => ?_
  simp only [Bool.or_eq_true, decide_eq_true_eq, List.any_eq_true, not_or, not_exists, not_and, Nat.not_lt]
theorem largeS_yes {ls : List (List ByteArray)} {s : List ByteArray} (hs : s ∈ ls) (h : ¬ smallS s) : largeS ls = true := by
  cases hl : largeS ls with
  | true => rfl
  | false => exact absurd (largeS_no.1 hl s hs) h
theorem drop_vS {ls : List (List ByteArray)} {i : Nat} (h : i < ls.length) : (ls.map vSt).drop i = .lst .ro ls[i].length (ls[i].map .str) :: (ls.map vSt).drop (i + 1) := by
  rw [← List.map_drop, List.drop_eq_getElem_cons h, List.map_cons, List.map_drop]; rfl
theorem frees_vS (ls : List (List ByteArray)) : free.frees (ls.map vSt) = true := by
  induction ls with
  | nil => rfl
  | cons s ls ih => simp only [List.map_cons, free.frees, ih, Bool.and_true]; unfold vSt; simp only [free]; exact frees_str _
theorem maxLen_of {s : List ByteArray} (h : smallS s) : ∀ x ∈ s, x.size ≤ maxLen := fun x hx => by have := h.2 x hx; unfold maxLen; omega
end Go.Proofs.Ytaepikkaogfhbaa

/- SetAnd: the plain law, and the walk. -/
namespace Go.Proofs.Ytaepikkaogfhbaa
set_option linter.unusedSimpArgs false
set_option linter.unusedVariables false
open Go.RowKit Go.Lib

theorem and_may {a b : List ByteArray} (ha : setMay a = true) (hb : setMay b = true) : andE a b = boundE (nrm (a ++ b)) := by
  unfold andE
  rw [if_neg (by simp [ha, hb]), ofE_may (fun x hx => by rcases List.mem_append.1 hx with h | h; exact (setMay_words ha).2 x h; exact (setMay_words hb).2 x h)]
theorem nrm_pos {l : List ByteArray} (h : l ≠ []) : 1 ≤ (nrm l).length := by
  cases l with
  | nil => exact absurd rfl h
  | cons x l => exact List.length_pos_of_mem (mem_nrm.2 (List.mem_cons_self ..))
theorem and_fit {a b : List ByteArray} (ha : setMay a = true) (hb : setMay b = true) (h : (nrm (a ++ b)).length ≤ 16) : andE a b = (nrm (a ++ b), 0) ∧ setMay (nrm (a ++ b)) = true := by
  have h1 := nrm_pos (l := a ++ b) (by simp [setMay_ne ha])
  refine ⟨by rw [and_may ha hb]; unfold boundE; rw [if_pos ⟨h1, h⟩], setMay_mk h1 h (fun x hx => ?_) (rising_nrm _)⟩
  rcases List.mem_append.1 (mem_nrm.1 hx) with h | h
  · exact (setMay_words ha).2 x h
  · exact (setMay_words hb).2 x h
theorem and_many {a b : List ByteArray} (ha : setMay a = true) (hb : setMay b = true) (h : ¬ (nrm (a ++ b)).length ≤ 16) : andE a b = ([], 3) := by
  rw [and_may ha hb]; unfold boundE; rw [if_neg (by omega)]
theorem and_self {a : List ByteArray} (ha : setMay a = true) : andE a a = (a, 0) := by
  have e : nrm (a ++ a) = a := (nrm_eq (setMay_rising ha) (fun x => by simp)).symm
  have := (and_fit ha ha (by rw [e]; exact (setMay_small ha).1)).1
  rwa [e] at this
theorem and_comm {a b : List ByteArray} (ha : setMay a = true) (hb : setMay b = true) : andE b a = andE a b := by
  rw [and_may ha hb, and_may hb ha, nrm_congr (a := b ++ a) (b := a ++ b) (fun x => by simp [or_comm])]
theorem and_assoc' {a b c : List ByteArray} (ha : setMay a = true) (hb : setMay b = true) (hc : setMay c = true) (h1 : (nrm (a ++ b)).length ≤ 16) (h2 : (nrm (b ++ c)).length ≤ 16) : andE (nrm (a ++ b)) c = andE a (nrm (b ++ c)) := by
  rw [and_may (and_fit ha hb h1).2 hc, and_may ha (and_fit hb hc h2).2, nrm_congr]
  intro x
  simp only [List.mem_append, mem_nrm, or_assoc]
theorem smallS_nrm {a : List ByteArray} (h : setMay a = true) : a.length ≤ 10000 ∧ (∀ x ∈ a, x.size ≤ 1000000) ∧ ∀ x ∈ a, x.size ≤ maxLen := by
  have := setMay_small h
  exact ⟨by omega, fun x hx => by have := this.2 x hx; omega, fun x hx => by have := this.2 x hx; unfold maxLen; omega⟩
theorem within_left {a b : List ByteArray} : withinE a (nrm (a ++ b)) = true := withinE_iff.2 fun x hx => mem_nrm.2 (by simp [hx])
theorem within_right {a b : List ByteArray} : withinE b (nrm (a ++ b)) = true := withinE_iff.2 fun x hx => mem_nrm.2 (by simp [hx])
theorem ofE_small (l : List ByteArray) : (ofE l).1.length ≤ 16 := by
  unfold ofE
  split
  · simp
  · split
    · next h => exact h.2
    · simp
theorem and_len (a b : List ByteArray) : (andE a b).1.length ≤ 16 := by
  unfold andE
  split
  · simp
  · exact ofE_small _
end Go.Proofs.Ytaepikkaogfhbaa

/- Certificates: the plain structure, and the small functions of cert and its reference. -/
namespace Go.Proofs.Ytaepikkaogfhbaa
set_option linter.unusedSimpArgs false
set_option linter.unusedVariables false
open Go.RowKit Go.Lib

structure Crt where
  kind : Int
  signer : Nat
  speaker : ByteArray
  words : List ByteArray
  since : Int
  till : Int
  serial : Int
/-- a certificate's cells -/
def cC (c : Crt) : List AV := [.int .i64 c.kind, .int .u16 c.signer, .str c.speaker, .lst .ro c.words.length (c.words.map .str), .int .i64 c.since, .int .i64 c.till, .int .i64 c.serial]
def vC (c : Crt) : AV := .agg (cC c)
theorem free_vC (c : Crt) : free (vC c) = true := by unfold vC cC; simp [free, free.frees, frees_str]
def sameE (a b : Crt) : Bool := decide (a.kind = b.kind ∧ a.signer = b.signer ∧ a.speaker = b.speaker ∧ a.words = b.words ∧ a.since = b.since ∧ a.till = b.till ∧ a.serial = b.serial)
def holdsE (c : Crt) (t : Int) : Bool := decide (c.since ≤ t) && decide (t ≤ c.till)
theorem drop_ints {l : List Int} {i : Nat} (h : i < l.length) : (l.map (AV.int .i64)).drop i = .int .i64 l[i] :: (l.map (AV.int .i64)).drop (i + 1) := by
  rw [← List.map_drop, List.drop_eq_getElem_cons h, List.map_cons, List.map_drop]
def idxI (x : Int) : List Int → Int
  | [] => -1
  | y :: l => if x = y then 0 else if idxI x l < 0 then -1 else idxI x l + 1
def hasI (l : List Int) (x : Int) : Bool := l.any fun y => decide (x = y)
theorem hasI_iff {l : List Int} {x : Int} : hasI l x = true ↔ x ∈ l := by
  unfold hasI
  rw [List.any_eq_true]
  constructor
  · rintro ⟨y, hy, h⟩; simp only [decide_eq_true_eq] at h; subst h; exact hy
  · intro h; exact ⟨x, h, by simp⟩
theorem idxI_none {x : Int} : ∀ {l : List Int}, x ∉ l → idxI x l = -1
  | [], _ => rfl
  | y :: r, h => by
    simp only [List.mem_cons, not_or] at h
    simp only [idxI]
    rw [if_neg h.1, idxI_none h.2]; rfl
theorem idxI_at {x : Int} : ∀ {l : List Int} {i : Nat}, l[i]? = some x → x ∉ l.take i → idxI x l = i
  | [], i, h, _ => by simp at h
  | y :: r, 0, h, _ => by simp at h; subst h; simp [idxI]
  | y :: r, i + 1, h, hn => by
    simp only [List.getElem?_cons_succ] at h
    simp only [List.take_succ_cons, List.mem_cons, not_or] at hn
    have := idxI_at h hn.2
    simp only [idxI]
    rw [if_neg hn.1, if_neg (by omega), this]; omega
theorem idxI_mem (x : Int) (l : List Int) : decide (0 ≤ idxI x l) = hasI l x := by
  by_cases h : x ∈ l
  · have hk : ∀ (l : List Int), x ∈ l → 0 ≤ idxI x l := by
      intro l
      induction l with
      | nil => intro h; simp at h
      | cons y r ih =>
        intro h
        simp only [idxI]
        split
        · omega
        · next hx =>
          have := ih (by rcases List.mem_cons.1 h with h | h; exact absurd h hx; exact h)
          rw [if_neg (by omega)]; omega
    rw [decide_eq_true (hk l h), hasI_iff.2 h]
  · rw [idxI_none h]
    cases hh : hasI l x with
    | false => rfl
    | true => exact absurd (hasI_iff.1 hh) h
theorem frees_ints (l : List Int) : free.frees (l.map (AV.int .i64)) = true := by
  induction l with
  | nil => rfl
  | cons s ls ih => simp only [List.map_cons, free.frees, ih, free, Bool.and_true]
set_option maxHeartbeats 1000000 in
theorem p_indexI (l : List Int) (x : Int) (hl : l.length ≤ 9223372036854775807) : PCalls Try.prog 120 [.lst .ro l.length (l.map (.int .i64)), .int .i64 x] (.int .i64 (idxI x l)) := by
  refine pcalls_of (by simp [free.frees, free, frees_ints]) rfl (acalls_of mixed J_slices_Index_int_int_ok (Nat.le_of_ble_eq_true rfl) ?_); simp only [J_slices_Index_int_int, wk,if_true,if_false,forall_const,implies_true,ne_eq,eq_self,Nat.reduceEqDiff,Nat.reduceAdd,Nat.reduceMul,Nat.reduceSub,Nat.reduceLeDiff,Nat.reduceLT,Int.reduceEq,Int.reduceLT,Int.reduceLE,Int.reduceAdd,Int.reduceSub,Int.reduceMul,Int.reduceNeg,Int.reduceNe,reduceCtorEq,Int.reduceToNat,↓reduceIte]
  refine W_loop (fun n fr h => ∃ i : Nat, i ≤ l.length ∧ n = l.length - i ∧ fr = [(0, .lst .ro l.length (l.map (.int .i64))), (1, .int .i64 x), (7, .int .i64 l.length), (8, .int .i64 i)] ∧ x ∉ l.take i) l.length ⟨0, by omega, by omega, rfl, by simp⟩ ?_
  rintro n fr h ⟨i, hi, rfl, rfl, hno⟩
  simp only [J_slices_Index_int_int_j2, J_slices_Index_int_int_j1, wk,if_true,if_false,forall_const,implies_true,ne_eq,eq_self,Nat.reduceEqDiff,Nat.reduceAdd,Nat.reduceMul,Nat.reduceSub,Nat.reduceLeDiff,Nat.reduceLT,Int.reduceEq,Int.reduceLT,Int.reduceLE,Int.reduceAdd,Int.reduceSub,Int.reduceMul,Int.reduceNeg,Int.reduceNe,reduceCtorEq,Int.reduceToNat,↓reduceIte]
  refine ⟨fun hlt => ?_, fun hge => int_eq ?_⟩
  · have hil : i < l.length := by omega
    (repeat (refine And.intro (by first | omega | exact inR_of (by omega) (by omega) | exact ⟨by omega, by omega⟩ | exact ⟨by omega, by omega, by omega⟩ | rfl) ?_))
    rw [show (i : Int).toNat = i by omega, drop_ints hil]
    simp only [wk,if_true,if_false,forall_const,implies_true,ne_eq,eq_self,Nat.reduceEqDiff,Nat.reduceAdd,Nat.reduceMul,Nat.reduceSub,Nat.reduceLeDiff,Nat.reduceLT,Int.reduceEq,Int.reduceLT,Int.reduceLE,Int.reduceAdd,Int.reduceSub,Int.reduceMul,Int.reduceNeg,Int.reduceNe,reduceCtorEq,Int.reduceToNat,↓reduceIte]
    refine ⟨fun he => int_eq ?_, fun hne => ⟨inR_of (by omega) (by omega), l.length - (i + 1), by omega, i + 1, by omega, rfl, rfl, fun hm => ?_⟩⟩
    · rw [idxI_at (i := i) (by rw [List.getElem?_eq_getElem hil, he]) hno]
    · rcases (take_mem_succ hil).1 hm with h | h
      · exact hno h
      · exact hne h
  · rw [List.take_of_length_le (by omega)] at hno
    rw [idxI_none hno]
theorem p_containsI (l : List Int) (x : Int) (hl : l.length ≤ 9223372036854775807) : PCalls Try.prog 105 [.lst .ro l.length (l.map (.int .i64)), .int .i64 x] (.bool (hasI l x)) := by
  refine pcalls_of (by simp [free.frees, free, frees_ints]) rfl (acalls_of mixed J_slices_Contains_int_int_ok (Nat.le_of_ble_eq_true rfl) ?_); simp only [J_slices_Contains_int_int, wk,if_true,if_false,forall_const,implies_true,ne_eq,eq_self,Nat.reduceEqDiff,Nat.reduceAdd,Nat.reduceMul,Nat.reduceSub,Nat.reduceLeDiff,Nat.reduceLT,Int.reduceEq,Int.reduceLT,Int.reduceLE,Int.reduceAdd,Int.reduceSub,Int.reduceMul,Int.reduceNeg,Int.reduceNe,reduceCtorEq,Int.reduceToNat,↓reduceIte]
  refine PCalls.use (p_indexI l x hl) ?_; simp only [wk,if_true,if_false,forall_const,implies_true,ne_eq,eq_self,Nat.reduceEqDiff,Nat.reduceAdd,Nat.reduceMul,Nat.reduceSub,Nat.reduceLeDiff,Nat.reduceLT,Int.reduceEq,Int.reduceLT,Int.reduceLE,Int.reduceAdd,Int.reduceSub,Int.reduceMul,Int.reduceNeg,Int.reduceNe,reduceCtorEq,Int.reduceToNat,↓reduceIte]
  exact bool_eq (idxI_mem x l)
theorem p_holds (c : Crt) (t : Int) : PCalls Try.prog 39 [vC c, .int .i64 t] (.bool (holdsE c t)) := by
  refine pcalls_of (by simp [free.frees, free_vC, free]) rfl (acalls_of mixed J_cert_Holds_ok (Nat.le_of_ble_eq_true rfl) ?_); simp only [J_cert_Holds, vC, cC, wk,if_true,if_false,forall_const,implies_true,ne_eq,eq_self,Nat.reduceEqDiff,Nat.reduceAdd,Nat.reduceMul,Nat.reduceSub,Nat.reduceLeDiff,Nat.reduceLT,Int.reduceEq,Int.reduceLT,Int.reduceLE,Int.reduceAdd,Int.reduceSub,Int.reduceMul,Int.reduceNeg,Int.reduceNe,reduceCtorEq,Int.reduceToNat,↓reduceIte]
  exact ⟨fun h => bool_eq (by simp [holdsE, h]), fun h => bool_eq (by simp [holdsE, h])⟩
theorem p_rholds (c : Crt) (t : Int) : PCalls Try.prog 40 [vC c, .int .i64 t] (.bool (holdsE c t)) := by
  refine pcalls_of (by simp [free.frees, free_vC, free]) rfl (acalls_of mixed J_ref08_Holds_ok (Nat.le_of_ble_eq_true rfl) ?_); simp only [J_ref08_Holds, vC, cC, wk,if_true,if_false,forall_const,implies_true,ne_eq,eq_self,Nat.reduceEqDiff,Nat.reduceAdd,Nat.reduceMul,Nat.reduceSub,Nat.reduceLeDiff,Nat.reduceLT,Int.reduceEq,Int.reduceLT,Int.reduceLE,Int.reduceAdd,Int.reduceSub,Int.reduceMul,Int.reduceNeg,Int.reduceNe,reduceCtorEq,Int.reduceToNat,↓reduceIte]
  exact ⟨fun h => bool_eq (by simp [holdsE, h]), fun h => bool_eq (by simp [holdsE, h])⟩
theorem p_kind (a : Nat) (h : a < 65536) : PCalls Try.prog 83 [.int .u16 a] (.int .i64 ((a / 8192 : Nat) : Int)) := by
  refine pcalls_of (by first | rfl | simp [free, free.frees, frees_str, frees_u8, frees_u16]) (by first | rfl | simp [free, free.frees, frees_str, frees_u8, frees_u16]) (acalls_of mixed J_ref01_Kind_ok (Nat.le_of_ble_eq_true rfl) ?_); simp only [J_ref01_Kind, wk,if_true,if_false,forall_const,implies_true,ne_eq,eq_self,Nat.reduceEqDiff,Nat.reduceAdd,Nat.reduceMul,Nat.reduceSub,Nat.reduceLeDiff,Nat.reduceLT,Int.reduceEq,Int.reduceLT,Int.reduceLE,Int.reduceAdd,Int.reduceSub,Int.reduceMul,Int.reduceNeg,Int.reduceNe,reduceCtorEq,Int.reduceToNat,↓reduceIte]
  have hw : IntKind.wrap .i64 (a : Int) = a := by rw [IntKind.wrap_i64]; omega
  have hm : (a : Int).tmod 8192 = ((a % 8192 : Nat) : Int) := by rw [Int.tmod_eq_emod_of_nonneg (by omega)]; omega
  have hd : ((a : Int) - ((a % 8192 : Nat) : Int)).tdiv 8192 = ((a / 8192 : Nat) : Int) := by rw [Int.tdiv_eq_ediv_of_nonneg (by omega)]; omega
  rw [hw, hm, hd]
  exact ⟨inR_of (by omega) (by omega), inR_of (by omega) (by omega), rfl⟩
theorem p_isOf (a : Nat) (l : List Int) (h : a < 65536) (hl : l.length ≤ 9223372036854775807) : PCalls Try.prog 78 [.int .u16 a, .lst .ro l.length (l.map (.int .i64))] (.bool (hasI l ((a / 8192 : Nat) : Int))) := by
  refine pcalls_of (by simp [free.frees, free, frees_ints]) rfl (acalls_of mixed J_cert_isOf_ok (Nat.le_of_ble_eq_true rfl) ?_); simp only [J_cert_isOf, wk,if_true,if_false,forall_const,implies_true,ne_eq,eq_self,Nat.reduceEqDiff,Nat.reduceAdd,Nat.reduceMul,Nat.reduceSub,Nat.reduceLeDiff,Nat.reduceLT,Int.reduceEq,Int.reduceLT,Int.reduceLE,Int.reduceAdd,Int.reduceSub,Int.reduceMul,Int.reduceNeg,Int.reduceNe,reduceCtorEq,Int.reduceToNat,↓reduceIte]
  have hw : IntKind.wrap .i64 (a : Int) = a := by rw [IntKind.wrap_i64]; omega
  have hd : (a : Int).tdiv 8192 = ((a / 8192 : Nat) : Int) := by rw [Int.tdiv_eq_ediv_of_nonneg (by omega)]; omega
  rw [hw, hd]
  refine ⟨inR_of (by omega) (by omega), ?_⟩
  refine PCalls.use (p_containsI l ((a / 8192 : Nat) : Int) hl) ?_; simp only [wk,if_true,if_false,forall_const,implies_true,ne_eq,eq_self,Nat.reduceEqDiff,Nat.reduceAdd,Nat.reduceMul,Nat.reduceSub,Nat.reduceLeDiff,Nat.reduceLT,Int.reduceEq,Int.reduceLT,Int.reduceLE,Int.reduceAdd,Int.reduceSub,Int.reduceMul,Int.reduceNeg,Int.reduceNe,reduceCtorEq,Int.reduceToNat,↓reduceIte]
theorem p_alone (w : ByteArray) (l : List Int) (hw : w.size ≤ 9223372036854775807) (hl : l.length ≤ 9223372036854775807) : PCalls Try.prog 109 [.str w, .lst .ro l.length (l.map (.int .i64))] (.bool (decide (w.size / 2 = 1) && hasI l ((atomAt w 0 / 8192 : Nat) : Int))) := by
  refine pcalls_of (by simp [free.frees, free, frees_ints]) rfl (acalls_of mixed J_cert_alone_ok (Nat.le_of_ble_eq_true rfl) ?_); simp only [J_cert_alone, wk,if_true,if_false,forall_const,implies_true,ne_eq,eq_self,Nat.reduceEqDiff,Nat.reduceAdd,Nat.reduceMul,Nat.reduceSub,Nat.reduceLeDiff,Nat.reduceLT,Int.reduceEq,Int.reduceLT,Int.reduceLE,Int.reduceAdd,Int.reduceSub,Int.reduceMul,Int.reduceNeg,Int.reduceNe,reduceCtorEq,Int.reduceToNat,↓reduceIte]
  refine PCalls.use (p_wlen w hw) ?_; simp only [wk,if_true,if_false,forall_const,implies_true,ne_eq,eq_self,Nat.reduceEqDiff,Nat.reduceAdd,Nat.reduceMul,Nat.reduceSub,Nat.reduceLeDiff,Nat.reduceLT,Int.reduceEq,Int.reduceLT,Int.reduceLE,Int.reduceAdd,Int.reduceSub,Int.reduceMul,Int.reduceNeg,Int.reduceNe,reduceCtorEq,Int.reduceToNat,↓reduceIte]
  refine ⟨fun h1 => ?_, fun h1 => bool_eq (by rw [decide_eq_false (by omega)]; rfl)⟩
  refine PCalls.use (p_wat w 0 hw (by omega)) ?_; simp only [wk,if_true,if_false,forall_const,implies_true,ne_eq,eq_self,Nat.reduceEqDiff,Nat.reduceAdd,Nat.reduceMul,Nat.reduceSub,Nat.reduceLeDiff,Nat.reduceLT,Int.reduceEq,Int.reduceLT,Int.reduceLE,Int.reduceAdd,Int.reduceSub,Int.reduceMul,Int.reduceNeg,Int.reduceNe,reduceCtorEq,Int.reduceToNat,↓reduceIte]
  refine PCalls.use (p_isOf (atomAt w 0) l (atomAt_lt w 0) hl) ?_; simp only [wk,if_true,if_false,forall_const,implies_true,ne_eq,eq_self,Nat.reduceEqDiff,Nat.reduceAdd,Nat.reduceMul,Nat.reduceSub,Nat.reduceLeDiff,Nat.reduceLT,Int.reduceEq,Int.reduceLT,Int.reduceLE,Int.reduceAdd,Int.reduceSub,Int.reduceMul,Int.reduceNeg,Int.reduceNe,reduceCtorEq,Int.reduceToNat,↓reduceIte]
  rw [decide_eq_true (show w.size / 2 = 1 by omega)]
  rfl
def numL (l : List Int) : Bool := l.all fun x => decide (0 ≤ x) && decide (x ≤ 4611686018427387904)
theorem p_cnum (l : List Int) (hl : l.length ≤ 9223372036854775807) : PCalls Try.prog 80 [.lst .ro l.length (l.map (.int .i64))] (.bool (numL l)) := by
  refine pcalls_of (by simp [free.frees, free, frees_ints]) rfl (acalls_of mixed J_cert_num_ok (Nat.le_of_ble_eq_true rfl) ?_); simp only [J_cert_num, wk,if_true,if_false,forall_const,implies_true,ne_eq,eq_self,Nat.reduceEqDiff,Nat.reduceAdd,Nat.reduceMul,Nat.reduceSub,Nat.reduceLeDiff,Nat.reduceLT,Int.reduceEq,Int.reduceLT,Int.reduceLE,Int.reduceAdd,Int.reduceSub,Int.reduceMul,Int.reduceNeg,Int.reduceNe,reduceCtorEq,Int.reduceToNat,↓reduceIte]
  refine W_loop (fun n fr h => ∃ i : Nat, i ≤ l.length ∧ n = l.length - i ∧ fr = [(5, .lst .ro l.length (l.map (.int .i64))), (6, .int .i64 l.length), (7, .int .i64 i)] ∧ ∀ x ∈ l.take i, 0 ≤ x ∧ x ≤ 4611686018427387904) l.length ⟨0, by omega, by omega, rfl, by simp⟩ ?_
  rintro n fr h ⟨i, hi, rfl, rfl, hall⟩
  simp only [J_cert_num_j2, J_cert_num_j1, wk,if_true,if_false,forall_const,implies_true,ne_eq,eq_self,Nat.reduceEqDiff,Nat.reduceAdd,Nat.reduceMul,Nat.reduceSub,Nat.reduceLeDiff,Nat.reduceLT,Int.reduceEq,Int.reduceLT,Int.reduceLE,Int.reduceAdd,Int.reduceSub,Int.reduceMul,Int.reduceNeg,Int.reduceNe,reduceCtorEq,Int.reduceToNat,↓reduceIte]
  refine ⟨fun hlt => ?_, fun hge => bool_eq ?_⟩
  · have hil : i < l.length := by omega
    (repeat (refine And.intro (by first | omega | exact inR_of (by omega) (by omega) | exact ⟨by omega, by omega⟩ | exact ⟨by omega, by omega, by omega⟩ | rfl) ?_))
    rw [show (i : Int).toNat = i by omega, drop_ints hil]
    simp only [wk,if_true,if_false,forall_const,implies_true,ne_eq,eq_self,Nat.reduceEqDiff,Nat.reduceAdd,Nat.reduceMul,Nat.reduceSub,Nat.reduceLeDiff,Nat.reduceLT,Int.reduceEq,Int.reduceLT,Int.reduceLE,Int.reduceAdd,Int.reduceSub,Int.reduceMul,Int.reduceNeg,Int.reduceNe,reduceCtorEq,Int.reduceToNat,↓reduceIte]
    have hno : ¬ (0 ≤ l[i] ∧ l[i] ≤ 4611686018427387904) → numL l = false := by
      intro h
      cases hn : numL l with
      | false => rfl
      | true =>
        have := List.all_eq_true.1 hn l[i] (List.getElem_mem hil)
        simp only [Bool.and_eq_true, decide_eq_true_eq] at this
        exact absurd this h
    have hyes : 0 ≤ l[i] → l[i] ≤ 4611686018427387904 → ∀ x ∈ l.take (i + 1), 0 ≤ x ∧ x ≤ 4611686018427387904 := by
      intro h1 h2 x hx
      rcases (take_mem_succ hil).1 hx with h | h
      · exact hall x h
      · subst h; exact ⟨h1, h2⟩
    refine ⟨fun h0 => ⟨fun h1 => bool_eq (hno (by omega)).symm, fun h1 => ⟨inR_of (by omega) (by omega), l.length - (i + 1), by omega, i + 1, by omega, rfl, rfl, hyes (by omega) (by omega)⟩⟩, fun h0 => bool_eq (hno (by omega)).symm⟩
  · rw [List.take_of_length_le (by omega)] at hall
    unfold numL
    symm
    rw [List.all_eq_true]
    intro x hx
    have := hall x hx
    simp only [Bool.and_eq_true, decide_eq_true_eq]
    exact this
theorem p_rcnum (a : Int) : PCalls Try.prog 85 [.int .i64 a] (.bool (decide (0 ≤ a ∧ a ≤ 4611686018427387904))) := by
  refine pcalls_of (by first | rfl | simp [free, free.frees, frees_str, frees_u8, frees_u16]) (by first | rfl | simp [free, free.frees, frees_str, frees_u8, frees_u16]) (acalls_of mixed J_ref08_num_ok (Nat.le_of_ble_eq_true rfl) ?_); simp only [J_ref08_num, wk,if_true,if_false,forall_const,implies_true,ne_eq,eq_self,Nat.reduceEqDiff,Nat.reduceAdd,Nat.reduceMul,Nat.reduceSub,Nat.reduceLeDiff,Nat.reduceLT,Int.reduceEq,Int.reduceLT,Int.reduceLE,Int.reduceAdd,Int.reduceSub,Int.reduceMul,Int.reduceNeg,Int.reduceNe,reduceCtorEq,Int.reduceToNat,↓reduceIte]
  exact ⟨fun h => bool_eq (by simp [h]), fun h => bool_eq (by simp [h])⟩
theorem p_csame (a b : Crt) (h : a.words.length ≤ 9223372036854775807) : PCalls Try.prog 47 [vC a, vC b] (.bool (sameE a b)) := by
  refine pcalls_of (by simp [free.frees, free_vC]) rfl (acalls_of mixed J_cert_Same_ok (Nat.le_of_ble_eq_true rfl) ?_); simp only [J_cert_Same, vC, cC, wk,if_true,if_false,forall_const,implies_true,ne_eq,eq_self,Nat.reduceEqDiff,Nat.reduceAdd,Nat.reduceMul,Nat.reduceSub,Nat.reduceLeDiff,Nat.reduceLT,Int.reduceEq,Int.reduceLT,Int.reduceLE,Int.reduceAdd,Int.reduceSub,Int.reduceMul,Int.reduceNeg,Int.reduceNe,reduceCtorEq,Int.reduceToNat,↓reduceIte]
  refine ⟨fun h1 => ⟨fun h2 => ⟨fun h3 => ?_, fun h3 => bool_eq (by simp [sameE, h3])⟩, fun h2 => bool_eq (by simp only [sameE]; symm; simp; intro _ h; omega)⟩, fun h1 => bool_eq (by simp [sameE, h1])⟩
  refine PCalls.use (p_sequal a.words b.words h) ?_; simp only [wk,if_true,if_false,forall_const,implies_true,ne_eq,eq_self,Nat.reduceEqDiff,Nat.reduceAdd,Nat.reduceMul,Nat.reduceSub,Nat.reduceLeDiff,Nat.reduceLT,Int.reduceEq,Int.reduceLT,Int.reduceLE,Int.reduceAdd,Int.reduceSub,Int.reduceMul,Int.reduceNeg,Int.reduceNe,reduceCtorEq,Int.reduceToNat,↓reduceIte]
  have hs : a.signer = b.signer := by omega
  refine ⟨fun h4 => ⟨fun h5 => ⟨fun h6 => bool_eq (by simp [sameE, h1, hs, h3, h4, h5, h6]), fun h6 => bool_eq (by simp [sameE, h6])⟩, fun h5 => bool_eq (by simp [sameE, h5])⟩, fun h4 => bool_eq (by simp [sameE, h4])⟩
theorem p_rcsame (a b : Crt) (h : a.words.length ≤ 9223372036854775807) : PCalls Try.prog 44 [vC a, vC b] (.bool (sameE a b)) := by
  refine pcalls_of (by simp [free.frees, free_vC]) rfl (acalls_of mixed J_ref08_Same_ok (Nat.le_of_ble_eq_true rfl) ?_); simp only [J_ref08_Same, vC, cC, wk,if_true,if_false,forall_const,implies_true,ne_eq,eq_self,Nat.reduceEqDiff,Nat.reduceAdd,Nat.reduceMul,Nat.reduceSub,Nat.reduceLeDiff,Nat.reduceLT,Int.reduceEq,Int.reduceLT,Int.reduceLE,Int.reduceAdd,Int.reduceSub,Int.reduceMul,Int.reduceNeg,Int.reduceNe,reduceCtorEq,Int.reduceToNat,↓reduceIte]
  refine ⟨fun h1 => ⟨fun h2 => ⟨fun h3 => ?_, fun h3 => bool_eq (by simp [sameE, h3])⟩, fun h2 => bool_eq (by simp only [sameE]; symm; simp; intro _ h; omega)⟩, fun h1 => bool_eq (by simp [sameE, h1])⟩
  refine PCalls.use (p_requal a.words b.words h) ?_; simp only [wk,if_true,if_false,forall_const,implies_true,ne_eq,eq_self,Nat.reduceEqDiff,Nat.reduceAdd,Nat.reduceMul,Nat.reduceSub,Nat.reduceLeDiff,Nat.reduceLT,Int.reduceEq,Int.reduceLT,Int.reduceLE,Int.reduceAdd,Int.reduceSub,Int.reduceMul,Int.reduceNeg,Int.reduceNe,reduceCtorEq,Int.reduceToNat,↓reduceIte]
  have hs : a.signer = b.signer := by omega
  refine ⟨fun h4 => ⟨fun h5 => ⟨fun h6 => bool_eq (by simp [sameE, h1, hs, h3, h4, h5, h6]), fun h6 => bool_eq (by simp [sameE, h6])⟩, fun h5 => bool_eq (by simp [sameE, h5])⟩, fun h4 => bool_eq (by simp [sameE, h4])⟩
/-- the kind of a word's only atom -/
def singleE (w : ByteArray) : Int := if w.size / 2 = 1 then ((atomAt w 0 / 8192 : Nat) : Int) else -1
theorem p_single (w : ByteArray) (hw : w.size ≤ 1000000) : PCalls Try.prog 112 [.str w] (.int .i64 (singleE w)) := by
  refine pcalls_of (by first | rfl | simp [free, free.frees, frees_str, frees_u8, frees_u16]) (by first | rfl | simp [free, free.frees, frees_str, frees_u8, frees_u16]) (acalls_of mixed J_ref08_single_ok (Nat.le_of_ble_eq_true rfl) ?_); simp only [J_ref08_single, wk,if_true,if_false,forall_const,implies_true,ne_eq,eq_self,Nat.reduceEqDiff,Nat.reduceAdd,Nat.reduceMul,Nat.reduceSub,Nat.reduceLeDiff,Nat.reduceLT,Int.reduceEq,Int.reduceLT,Int.reduceLE,Int.reduceAdd,Int.reduceSub,Int.reduceMul,Int.reduceNeg,Int.reduceNe,reduceCtorEq,Int.reduceToNat,↓reduceIte]
  refine PCalls.use (p_ratoms w (by omega)) ?_; simp only [wk,if_true,if_false,forall_const,implies_true,ne_eq,eq_self,Nat.reduceEqDiff,Nat.reduceAdd,Nat.reduceMul,Nat.reduceSub,Nat.reduceLeDiff,Nat.reduceLT,Int.reduceEq,Int.reduceLT,Int.reduceLE,Int.reduceAdd,Int.reduceSub,Int.reduceMul,Int.reduceNeg,Int.reduceNe,reduceCtorEq,Int.reduceToNat,↓reduceIte]
  refine ⟨fun h => int_eq (by unfold singleE; rw [if_neg (by omega)]), fun h => ⟨by omega, ?_⟩⟩
  have h1 : w.size / 2 = 1 := by omega
  rw [h1, show atomsL w 1 = [.int .u16 (atomAt w 0)] from rfl]
  simp only [wk,if_true,if_false,forall_const,implies_true,ne_eq,eq_self,Nat.reduceEqDiff,Nat.reduceAdd,Nat.reduceMul,Nat.reduceSub,Nat.reduceLeDiff,Nat.reduceLT,Int.reduceEq,Int.reduceLT,Int.reduceLE,Int.reduceAdd,Int.reduceSub,Int.reduceMul,Int.reduceNeg,Int.reduceNe,reduceCtorEq,Int.reduceToNat,↓reduceIte]
  refine PCalls.use (p_kind (atomAt w 0) (atomAt_lt w 0)) ?_; simp only [wk,if_true,if_false,forall_const,implies_true,ne_eq,eq_self,Nat.reduceEqDiff,Nat.reduceAdd,Nat.reduceMul,Nat.reduceSub,Nat.reduceLeDiff,Nat.reduceLT,Int.reduceEq,Int.reduceLT,Int.reduceLE,Int.reduceAdd,Int.reduceSub,Int.reduceMul,Int.reduceNeg,Int.reduceNe,reduceCtorEq,Int.reduceToNat,↓reduceIte]
  exact int_eq (by unfold singleE; rw [if_pos h1])
/-- what a certificate says: pairs, flat -/
def rulesL (c : Crt) (l : List ByteArray) : List AV := l.flatMap fun w => [.str w, .str c.speaker]
theorem frees_rules (c : Crt) (l : List ByteArray) : free.frees (rulesL c l) = true := by
  unfold rulesL
  induction l with
  | nil => rfl
  | cons w l ih => simp only [List.flatMap_cons, List.cons_append, List.nil_append, free.frees, free, Bool.true_and, ih]
theorem rulesL_succ {c : Crt} {l : List ByteArray} {i : Nat} (h : i < l.length) : rulesL c (l.take (i + 1)) = rulesL c (l.take i) ++ [.str l[i], .str c.speaker] := by
  unfold rulesL
  rw [List.take_succ_eq_append_getElem h, List.flatMap_append]; rfl
theorem p_rules (c : Crt) (h : c.words.length ≤ 10000) : PCalls Try.prog 42 [vC c] (.lst .ro c.words.length (rulesL c c.words)) := by
  refine pcalls_of (by simp [free.frees, free_vC]) (by simp only [free]; exact frees_rules _ _) (ACalls.weak (acalls_of mixed J_cert_Rules_ok (Nat.le_of_ble_eq_true rfl) ?_)); simp only [J_cert_Rules, vC, cC, wk,if_true,if_false,forall_const,implies_true,ne_eq,eq_self,Nat.reduceEqDiff,Nat.reduceAdd,Nat.reduceMul,Nat.reduceSub,Nat.reduceLeDiff,Nat.reduceLT,Int.reduceEq,Int.reduceLT,Int.reduceLE,Int.reduceAdd,Int.reduceSub,Int.reduceMul,Int.reduceNeg,Int.reduceNe,reduceCtorEq,Int.reduceToNat,↓reduceIte]
  refine ⟨⟨by omega, by omega, by omega⟩, ?_⟩
  refine W_loop (fun n fr h => ∃ i : Nat, i ≤ c.words.length ∧ n = c.words.length - i ∧ h = [some (false, cC c)] ∧ fr = [(1, .ptr 0 0), (3, .lst (.own 70) i (rulesL c (c.words.take i))), (11, .lst .ro c.words.length (c.words.map .str)), (12, .int .i64 c.words.length), (13, .int .i64 i)]) c.words.length ⟨0, by omega, by omega, rfl, rfl⟩ ?_
  rintro n fr h ⟨i, hi, rfl, rfl, rfl⟩
  simp only [J_cert_Rules_j2, cC, wk,if_true,if_false,forall_const,implies_true,ne_eq,eq_self,Nat.reduceEqDiff,Nat.reduceAdd,Nat.reduceMul,Nat.reduceSub,Nat.reduceLeDiff,Nat.reduceLT,Int.reduceEq,Int.reduceLT,Int.reduceLE,Int.reduceAdd,Int.reduceSub,Int.reduceMul,Int.reduceNeg,Int.reduceNe,reduceCtorEq,Int.reduceToNat,↓reduceIte]
  refine ⟨fun hlt => ?_, fun hge => ?_⟩
  · have hil : i < c.words.length := by omega
    have hd : (c.words.map AV.str).drop (i : Int).toNat = .str c.words[i] :: (c.words.map AV.str).drop (i + 1) := by rw [show (i : Int).toNat = i by omega, drop_str hil]
    refine ⟨⟨by omega, by omega⟩, ?_⟩
    simp only [hd, wk,if_true,if_false,forall_const,implies_true,ne_eq,eq_self,Nat.reduceEqDiff,Nat.reduceAdd,Nat.reduceMul,Nat.reduceSub,Nat.reduceLeDiff,Nat.reduceLT,Int.reduceEq,Int.reduceLT,Int.reduceLE,Int.reduceAdd,Int.reduceSub,Int.reduceMul,Int.reduceNeg,Int.reduceNe,reduceCtorEq,Int.reduceToNat,↓reduceIte]
    refine ⟨⟨by omega, by omega⟩, inR_of (by omega) (by omega), c.words.length - (i + 1), by omega, i + 1, by omega, rfl, ?_⟩
    rw [rulesL_succ hil]; rfl
  · obtain rfl : i = c.words.length := by omega
    simp only [J_cert_Rules_j1, wk,if_true,if_false,forall_const,implies_true,ne_eq,eq_self,Nat.reduceEqDiff,Nat.reduceAdd,Nat.reduceMul,Nat.reduceSub,Nat.reduceLeDiff,Nat.reduceLT,Int.reduceEq,Int.reduceLT,Int.reduceLE,Int.reduceAdd,Int.reduceSub,Int.reduceMul,Int.reduceNeg,Int.reduceNe,reduceCtorEq,Int.reduceToNat,↓reduceIte]
    rw [List.take_length]
    exact ro_ro _ _
theorem p_rrules (c : Crt) (h : c.words.length ≤ 10000) : PCalls Try.prog 43 [vC c] (.lst .ro c.words.length (rulesL c c.words)) := by
  refine pcalls_of (by simp [free.frees, free_vC]) (by simp only [free]; exact frees_rules _ _) (ACalls.weak (acalls_of mixed J_ref08_Rules_ok (Nat.le_of_ble_eq_true rfl) ?_)); simp only [J_ref08_Rules, vC, cC, wk,if_true,if_false,forall_const,implies_true,ne_eq,eq_self,Nat.reduceEqDiff,Nat.reduceAdd,Nat.reduceMul,Nat.reduceSub,Nat.reduceLeDiff,Nat.reduceLT,Int.reduceEq,Int.reduceLT,Int.reduceLE,Int.reduceAdd,Int.reduceSub,Int.reduceMul,Int.reduceNeg,Int.reduceNe,reduceCtorEq,Int.reduceToNat,↓reduceIte]
  refine W_loop (fun n fr h => ∃ i : Nat, i ≤ c.words.length ∧ n = c.words.length - i ∧ h = [some (false, cC c)] ∧ fr = [(1, .ptr 0 0), (3, .lst (.own 70) i (rulesL c (c.words.take i))), (4, .int .i64 i)]) c.words.length ⟨0, by omega, by omega, rfl, rfl⟩ ?_
  rintro n fr h ⟨i, hi, rfl, rfl, rfl⟩
  simp only [J_ref08_Rules_j2, cC, wk,if_true,if_false,forall_const,implies_true,ne_eq,eq_self,Nat.reduceEqDiff,Nat.reduceAdd,Nat.reduceMul,Nat.reduceSub,Nat.reduceLeDiff,Nat.reduceLT,Int.reduceEq,Int.reduceLT,Int.reduceLE,Int.reduceAdd,Int.reduceSub,Int.reduceMul,Int.reduceNeg,Int.reduceNe,reduceCtorEq,Int.reduceToNat,↓reduceIte]
  refine ⟨fun hlt => ?_, fun hge => ?_⟩
  · have hil : i < c.words.length := by omega
    have hd : (c.words.map AV.str).drop (i : Int).toNat = .str c.words[i] :: (c.words.map AV.str).drop (i + 1) := by rw [show (i : Int).toNat = i by omega, drop_str hil]
    refine ⟨⟨by omega, by omega⟩, ?_⟩
    simp only [hd, wk,if_true,if_false,forall_const,implies_true,ne_eq,eq_self,Nat.reduceEqDiff,Nat.reduceAdd,Nat.reduceMul,Nat.reduceSub,Nat.reduceLeDiff,Nat.reduceLT,Int.reduceEq,Int.reduceLT,Int.reduceLE,Int.reduceAdd,Int.reduceSub,Int.reduceMul,Int.reduceNeg,Int.reduceNe,reduceCtorEq,Int.reduceToNat,↓reduceIte]
    refine ⟨⟨by omega, by omega⟩, inR_of (by omega) (by omega), c.words.length - (i + 1), by omega, i + 1, by omega, rfl, ?_⟩
    rw [rulesL_succ hil]; rfl
  · obtain rfl : i = c.words.length := by omega
    simp only [J_ref08_Rules_j1, wk,if_true,if_false,forall_const,implies_true,ne_eq,eq_self,Nat.reduceEqDiff,Nat.reduceAdd,Nat.reduceMul,Nat.reduceSub,Nat.reduceLeDiff,Nat.reduceLT,Int.reduceEq,Int.reduceLT,Int.reduceLE,Int.reduceAdd,Int.reduceSub,Int.reduceMul,Int.reduceNeg,Int.reduceNe,reduceCtorEq,Int.reduceToNat,↓reduceIte]
    rw [List.take_length]
    exact ro_ro _ _
end Go.Proofs.Ytaepikkaogfhbaa

/- SetQuote, SetFor: the plain laws. -/
namespace Go.Proofs.Ytaepikkaogfhbaa
set_option linter.unusedSimpArgs false
set_option linter.unusedVariables false
open Go.RowKit Go.Lib

theorem all_congr' {p : ByteArray → Bool} {a b : List ByteArray} (h : ∀ x, x ∈ a ↔ x ∈ b) : a.all p = b.all p := by
  rw [Bool.eq_iff_iff, List.all_eq_true, List.all_eq_true]
  exact ⟨fun q x hx => q x ((h x).2 hx), fun q x hx => q x ((h x).1 hx)⟩
theorem any_congr' {p : ByteArray → Bool} {a b : List ByteArray} (h : ∀ x, x ∈ a ↔ x ∈ b) : a.any p = b.any p := by
  rw [Bool.eq_iff_iff, List.any_eq_true, List.any_eq_true]
  exact ⟨fun ⟨x, hx, q⟩ => ⟨x, (h x).1 hx, q⟩, fun ⟨x, hx, q⟩ => ⟨x, (h x).2 hx, q⟩⟩
theorem ofE_congr {a b : List ByteArray} (h : ∀ x, x ∈ a ↔ x ∈ b) : ofE a = ofE b := by
  unfold ofE
  rw [all_congr' h, nrm_congr h]
theorem quote_eq {a b : List ByteArray} (ha : setMay a = true) (hb : setMay b = true) : quoteE a b = if (prodW a b).any (fun w => decide (8 < w.size / 2)) then ([], 4) else ofE (prodW a b) := by
  unfold quoteE
  rw [if_neg (by simp [ha, hb])]
theorem and_eq {a b : List ByteArray} (ha : setMay a = true) (hb : setMay b = true) : andE a b = ofE (a ++ b) := by
  unfold andE
  rw [if_neg (by simp [ha, hb])]
theorem quote_congr {a b a' b' : List ByteArray} (ha : setMay a = true) (hb : setMay b = true) (ha' : setMay a' = true) (hb' : setMay b' = true) (h : ∀ w, w ∈ prodW a b ↔ w ∈ prodW a' b') : quoteE a b = quoteE a' b' := by
  rw [quote_eq ha hb, quote_eq ha' hb', any_congr' h, ofE_congr h]
theorem ofE_ok {l : List ByteArray} (h : (ofE l).2 = 0) : ofE l = (nrm l, 0) := by
  unfold ofE at h ⊢
  split at h
  · cases h
  · next h1 =>
    split at h
    · next h2 => rw [if_neg h1, if_pos h2]
    · cases h
/-- a quoting that goes well -/
theorem quote_ok {a b : List ByteArray} (h : (quoteE a b).2 = 0) : setMay a = true ∧ setMay b = true ∧ (∀ w ∈ prodW a b, w.size / 2 ≤ 8) ∧ quoteE a b = (nrm (prodW a b), 0) ∧ setMay (nrm (prodW a b)) = true := by
  have hg := quoteE_good h
  unfold quoteE at h
  split at h
  · cases h
  · next h1 =>
    split at h
    · cases h
    · next h2 =>
      have e : quoteE a b = (nrm (prodW a b), 0) := by
        unfold quoteE
        rw [if_neg h1, if_neg h2, ofE_ok h]
      rw [e] at hg
      simp only [not_or, Bool.not_eq_false] at h1
      refine ⟨h1.1, h1.2, fun w hw => ?_, e, hg⟩
      rw [List.any_eq_true] at h2
      refine Nat.le_of_not_lt fun h8 => h2 ⟨w, hw, by simpa using h8⟩
theorem app_assoc (x y z : ByteArray) : x ++ y ++ z = x ++ (y ++ z) := ByteArray.append_assoc
theorem quote_assoc {a b c : List ByteArray} (h1 : (quoteE a b).2 = 0) (h2 : (quoteE b c).2 = 0) : quoteE (quoteE a b).1 c = quoteE a (quoteE b c).1 := by
  obtain ⟨ha, hb, _, e1, g1⟩ := quote_ok h1
  obtain ⟨_, hc, _, e2, g2⟩ := quote_ok h2
  rw [e1, e2]
  refine quote_congr g1 hc ha g2 fun w => ?_
  simp only [mem_prodW, mem_nrm]
  constructor
  · rintro ⟨_, ⟨x, hx, y, hy, rfl⟩, z, hz, rfl⟩
    exact ⟨x, hx, y ++ z, ⟨y, hy, z, hz, rfl⟩, app_assoc x y z⟩
  · rintro ⟨x, hx, _, ⟨y, hy, z, hz, rfl⟩, rfl⟩
    exact ⟨x ++ y, ⟨x, hx, y, hy, rfl⟩, z, hz, (app_assoc x y z).symm⟩
theorem and_ok {a b : List ByteArray} (ha : setMay a = true) (hb : setMay b = true) (h : (andE a b).2 = 0) : andE a b = (nrm (a ++ b), 0) ∧ setMay (nrm (a ++ b)) = true := by
  by_cases h1 : (nrm (a ++ b)).length ≤ 16
  · exact and_fit ha hb h1
  · rw [and_many ha hb h1] at h; cases h
theorem quote_and {a b c : List ByteArray} (h1 : (quoteE a b).2 = 0) (h2 : (quoteE a c).2 = 0) (h3 : (andE b c).2 = 0) : quoteE a (andE b c).1 = andE (quoteE a b).1 (quoteE a c).1 := by
  obtain ⟨ha, hb, f1, e1, g1⟩ := quote_ok h1
  obtain ⟨_, hc, f2, e2, g2⟩ := quote_ok h2
  obtain ⟨e3, g3⟩ := and_ok hb hc h3
  rw [e1, e2, e3]
  have hmem : ∀ w, w ∈ prodW a (nrm (b ++ c)) ↔ w ∈ prodW a b ∨ w ∈ prodW a c := by
    intro w
    simp only [mem_prodW, mem_nrm, List.mem_append]
    constructor
    · rintro ⟨x, hx, y, hy | hy, rfl⟩
      · exact .inl ⟨x, hx, y, hy, rfl⟩
      · exact .inr ⟨x, hx, y, hy, rfl⟩
    · rintro (⟨x, hx, y, hy, rfl⟩ | ⟨x, hx, y, hy, rfl⟩)
      · exact ⟨x, hx, y, .inl hy, rfl⟩
      · exact ⟨x, hx, y, .inr hy, rfl⟩
  rw [quote_eq ha g3, and_eq g1 g2, if_neg, ofE_congr]
  · intro w
    rw [hmem]
    simp only [List.mem_append, mem_nrm]
  · rw [List.any_eq_true]
    rintro ⟨w, hw, h8⟩
    simp only [decide_eq_true_eq] at h8
    rcases (hmem w).1 hw with h | h
    · have := f1 w h; omega
    · have := f2 w h; omega
theorem for_zero {a b : List ByteArray} (h : (forE a b).2 ≠ 0) : (forE a b).1 = [] := by
  unfold forE at h ⊢
  split
  · next h1 =>
    rw [if_pos h1] at h
    split
    · next h2 => rw [if_pos h2] at h; exact andE_zero h
    · rfl
  · rfl
theorem prodW_one_len (x : ByteArray) (b : List ByteArray) : (prodW [x] b).length = b.length := by simp [prodW]
theorem for_ok {a b : List ByteArray} (h : (forE a b).2 = 0) : (quoteE a b).2 = 0 ∧ (quoteE [atomW 1] b).2 = 0 ∧ andE (quoteE a b).1 (quoteE [atomW 1] b).1 = forE a b ∧ (forE a b).1 = nrm ((quoteE a b).1 ++ (quoteE [atomW 1] b).1) ∧ setMay (forE a b).1 = true := by
  by_cases h1 : (quoteE a b).2 = 0
  · by_cases h2 : (quoteE [atomW 1] b).2 = 0
    · have e : forE a b = andE (quoteE a b).1 (quoteE [atomW 1] b).1 := by unfold forE; rw [if_pos h1, if_pos h2]
      rw [e] at h
      obtain ⟨e2, g⟩ := and_ok (quoteE_good h1) (quoteE_good h2) h
      refine ⟨h1, h2, e.symm, ?_, ?_⟩
      · rw [e, e2]
      · rw [e, e2]; exact g
    · unfold forE at h; rw [if_pos h1, if_neg h2] at h; exact absurd h h2
  · unfold forE at h; rw [if_neg h1] at h; exact absurd h h1
theorem for_has {a b : List ByteArray} (h : (forE a b).2 = 0) {y : ByteArray} (hy : y ∈ b) : atomW 1 ++ y ∈ (forE a b).1 := by
  obtain ⟨_, h2, _, e, _⟩ := for_ok h
  rw [e, mem_nrm, List.mem_append]
  right
  rw [(quote_ok h2).2.2.2.1]
  exact mem_nrm.2 (mem_prodW.2 ⟨atomW 1, by simp, y, hy, rfl⟩)
theorem for_within {a b : List ByteArray} (h : (forE a b).2 = 0) : withinE (quoteE a b).1 (forE a b).1 = true := by
  obtain ⟨_, _, _, e, _⟩ := for_ok h
  rw [e]; exact within_left
theorem for_len {a b : List ByteArray} (h : (forE a b).2 = 0) : (forE a b).1.length ≤ (quoteE a b).1.length + b.length := by
  obtain ⟨_, h2, _, e, _⟩ := for_ok h
  have h3 := nrm_len ((quoteE a b).1 ++ (quoteE [atomW 1] b).1)
  have h4 := nrm_len (prodW [atomW 1] b)
  rw [prodW_one_len] at h4
  rw [List.length_append] at h3
  have h5 : (quoteE [atomW 1] b).1 = nrm (prodW [atomW 1] b) := by rw [(quote_ok h2).2.2.2.1]
  rw [e]
  rw [h5] at h3 ⊢
  omega
end Go.Proofs.Ytaepikkaogfhbaa

/- cert.delegate: a certificate of delegation. -/
namespace Go.Proofs.Ytaepikkaogfhbaa
set_option linter.unusedSimpArgs false
set_option linter.unusedVariables false
open Go.RowKit Go.Lib

theorem p_wwithin (w : ByteArray) (hw : w.size ≤ 1000000) (h : 2 ≤ w.size) : PCalls Try.prog 124 [.str w, .int .i64 0, .int .i64 1] (.bool true) := by
  refine pcalls_of (by first | rfl | simp [free, free.frees, frees_str, frees_u8, frees_u16]) (by first | rfl | simp [free, free.frees, frees_str, frees_u8, frees_u16]) (acalls_of mixed J_word_within_ok (Nat.le_of_ble_eq_true rfl) ?_); simp only [J_word_within, wk,if_true,if_false,forall_const,implies_true,ne_eq,eq_self,Nat.reduceEqDiff,Nat.reduceAdd,Nat.reduceMul,Nat.reduceSub,Nat.reduceLeDiff,Nat.reduceLT,Int.reduceEq,Int.reduceLT,Int.reduceLE,Int.reduceAdd,Int.reduceSub,Int.reduceMul,Int.reduceNeg,Int.reduceNe,reduceCtorEq,Int.reduceToNat,↓reduceIte]
  refine PCalls.use (p_wlen w (by omega)) ?_; simp only [wk,if_true,if_false,forall_const,implies_true,ne_eq,eq_self,Nat.reduceEqDiff,Nat.reduceAdd,Nat.reduceMul,Nat.reduceSub,Nat.reduceLeDiff,Nat.reduceLT,Int.reduceEq,Int.reduceLT,Int.reduceLE,Int.reduceAdd,Int.reduceSub,Int.reduceMul,Int.reduceNeg,Int.reduceNe,reduceCtorEq,Int.reduceToNat,↓reduceIte]
  refine ⟨fun _ => ?_, fun h0 => by omega⟩
  refine PCalls.use (p_wlen w (by omega)) ?_; simp only [wk,if_true,if_false,forall_const,implies_true,ne_eq,eq_self,Nat.reduceEqDiff,Nat.reduceAdd,Nat.reduceMul,Nat.reduceSub,Nat.reduceLeDiff,Nat.reduceLT,Int.reduceEq,Int.reduceLT,Int.reduceLE,Int.reduceAdd,Int.reduceSub,Int.reduceMul,Int.reduceNeg,Int.reduceNe,reduceCtorEq,Int.reduceToNat,↓reduceIte]
  exact ⟨inR_of (by omega) (by omega), bool_eq (decide_eq_true (by omega))⟩
/-- the speaker's word with its first atom turned to D -/
def toldW (w : ByteArray) : ByteArray := atomW 1 ++ w.extract 2 w.size
theorem p_swap (w : ByteArray) (hev : w.size % 2 = 0) (hw : w.size ≤ 16) (h : 4 ≤ w.size) : PCalls Try.prog 121 [.str w, .int .i64 0, .int .i64 1, .str (atomW 1)] (.tup [.str (toldW w), .int .i64 0]) := by
  refine pcalls_of (by first | rfl | simp [free, free.frees, frees_str, frees_u8, frees_u16]) (by first | rfl | simp [free, free.frees, frees_str, frees_u8, frees_u16]) (acalls_of mixed J_word_Swap_ok (Nat.le_of_ble_eq_true rfl) ?_); simp only [J_word_Swap, wk,if_true,if_false,forall_const,implies_true,ne_eq,eq_self,Nat.reduceEqDiff,Nat.reduceAdd,Nat.reduceMul,Nat.reduceSub,Nat.reduceLeDiff,Nat.reduceLT,Int.reduceEq,Int.reduceLT,Int.reduceLE,Int.reduceAdd,Int.reduceSub,Int.reduceMul,Int.reduceNeg,Int.reduceNe,reduceCtorEq,Int.reduceToNat,↓reduceIte]
  refine PCalls.use (p_wodd w) ?_; simp only [wk,if_true,if_false,forall_const,implies_true,ne_eq,eq_self,Nat.reduceEqDiff,Nat.reduceAdd,Nat.reduceMul,Nat.reduceSub,Nat.reduceLeDiff,Nat.reduceLT,Int.reduceEq,Int.reduceLT,Int.reduceLE,Int.reduceAdd,Int.reduceSub,Int.reduceMul,Int.reduceNeg,Int.reduceNe,reduceCtorEq,Int.reduceToNat,↓reduceIte]
  refine ⟨fun _ => ?_, fun h0 => absurd hev h0⟩
  refine PCalls.use (p_wodd (atomW 1)) ?_; simp only [wk,if_true,if_false,forall_const,implies_true,ne_eq,eq_self,Nat.reduceEqDiff,Nat.reduceAdd,Nat.reduceMul,Nat.reduceSub,Nat.reduceLeDiff,Nat.reduceLT,Int.reduceEq,Int.reduceLT,Int.reduceLE,Int.reduceAdd,Int.reduceSub,Int.reduceMul,Int.reduceNeg,Int.reduceNe,reduceCtorEq,Int.reduceToNat,↓reduceIte]
  refine ⟨fun h0 => absurd rfl h0, fun _ => ?_⟩
  refine PCalls.use (p_wwithin w (by omega) (by omega)) ?_; simp only [wk,if_true,if_false,forall_const,implies_true,ne_eq,eq_self,Nat.reduceEqDiff,Nat.reduceAdd,Nat.reduceMul,Nat.reduceSub,Nat.reduceLeDiff,Nat.reduceLT,Int.reduceEq,Int.reduceLT,Int.reduceLE,Int.reduceAdd,Int.reduceSub,Int.reduceMul,Int.reduceNeg,Int.reduceNe,reduceCtorEq,Int.reduceToNat,↓reduceIte]
  refine PCalls.use (p_wlen w (by omega)) ?_; simp only [wk,if_true,if_false,forall_const,implies_true,ne_eq,eq_self,Nat.reduceEqDiff,Nat.reduceAdd,Nat.reduceMul,Nat.reduceSub,Nat.reduceLeDiff,Nat.reduceLT,Int.reduceEq,Int.reduceLT,Int.reduceLE,Int.reduceAdd,Int.reduceSub,Int.reduceMul,Int.reduceNeg,Int.reduceNe,reduceCtorEq,Int.reduceToNat,↓reduceIte]
  refine ⟨inR_of (by omega) (by omega), ?_⟩
  refine PCalls.use (p_wlen (atomW 1) (by decide)) ?_; simp only [wk,if_true,if_false,forall_const,implies_true,ne_eq,eq_self,Nat.reduceEqDiff,Nat.reduceAdd,Nat.reduceMul,Nat.reduceSub,Nat.reduceLeDiff,Nat.reduceLT,Int.reduceEq,Int.reduceLT,Int.reduceLE,Int.reduceAdd,Int.reduceSub,Int.reduceMul,Int.reduceNeg,Int.reduceNe,reduceCtorEq,Int.reduceToNat,↓reduceIte]
  have hD : (atomW 1).size = 2 := rfl
  rw [hD]
  refine ⟨inR_of (by omega) (by omega), fun h0 => by omega, fun _ => ?_⟩
  have e0 : w.extract 0 0 ++ atomW 1 = atomW 1 := by apply ByteArray.ext; apply Array.ext'; simp
  have e1 : (w.extract 0 0).size = 0 := by simp [ByteArray.size_extract]
  have e2 : (w.size : Int).toNat = w.size := by omega
  rw [e0, e1, e2, hD]
  refine ⟨inR_of (by omega) (by omega), by omega, by omega, inR_of (by omega) (by omega), inR_of (by omega) (by omega), ⟨by omega, by omega⟩, ?_, rfl⟩
  rw [ByteArray.size_extract]; omega
theorem q_wd : PCalls Try.prog 110 [.lst .ro 1 [.int .u16 1]] (.str (atomW 1)) := by
  have := p_wof [1] (by decide) (by decide)
  rw [atomBytes_one] at this
  exact this
/-- is it like one of delegation? -/
def delegE (c : Crt) : Bool := decide (2 ≤ c.speaker.size / 2) && (decide ((ofE [c.speaker, toldW c.speaker]).2 = 0) && (withinE c.words (ofE [c.speaker, toldW c.speaker]).1 && withinE (ofE [c.speaker, toldW c.speaker]).1 c.words))
theorem told_size {w : ByteArray} (h : 2 ≤ w.size) : (toldW w).size = w.size := by
  unfold toldW
  rw [ByteArray.size_append, ByteArray.size_extract]
  have hD : (atomW 1).size = 2 := rfl
  omega
set_option maxRecDepth 100000 in
theorem p_deleg (c : Crt) (hm : wordMay c.speaker = true) (hs : setMay c.words = true) : PCalls Try.prog 108 [vC c] (.bool (delegE c)) := by
  have hsz := wordMay_even hm
  have hsm := smallS_nrm hs
  refine pcalls_of (by simp [free.frees, free_vC]) rfl (acalls_of mixed J_cert_delegate_ok (Nat.le_of_ble_eq_true rfl) ?_); simp only [J_cert_delegate, vC, cC, wk,if_true,if_false,forall_const,implies_true,ne_eq,eq_self,Nat.reduceEqDiff,Nat.reduceAdd,Nat.reduceMul,Nat.reduceSub,Nat.reduceLeDiff,Nat.reduceLT,Int.reduceEq,Int.reduceLT,Int.reduceLE,Int.reduceAdd,Int.reduceSub,Int.reduceMul,Int.reduceNeg,Int.reduceNe,reduceCtorEq,Int.reduceToNat,↓reduceIte]
  refine PCalls.use (p_wlen c.speaker (by omega)) ?_; simp only [wk,if_true,if_false,forall_const,implies_true,ne_eq,eq_self,Nat.reduceEqDiff,Nat.reduceAdd,Nat.reduceMul,Nat.reduceSub,Nat.reduceLeDiff,Nat.reduceLT,Int.reduceEq,Int.reduceLT,Int.reduceLE,Int.reduceAdd,Int.reduceSub,Int.reduceMul,Int.reduceNeg,Int.reduceNe,reduceCtorEq,Int.reduceToNat,↓reduceIte]
  refine ⟨fun h2 => bool_eq (by unfold delegE; rw [decide_eq_false (by omega)]; rfl), fun h2 => ?_⟩
  have hd : decide (2 ≤ c.speaker.size / 2) = true := decide_eq_true (by omega)
  refine ⟨_, q_wd, _, p_swap c.speaker hsz.1 hsz.2 (by omega), ?_⟩
  simp only [wk,if_true,if_false,forall_const,implies_true,ne_eq,eq_self,Nat.reduceEqDiff,Nat.reduceAdd,Nat.reduceMul,Nat.reduceSub,Nat.reduceLeDiff,Nat.reduceLT,Int.reduceEq,Int.reduceLT,Int.reduceLE,Int.reduceAdd,Int.reduceSub,Int.reduceMul,Int.reduceNeg,Int.reduceNe,reduceCtorEq,Int.reduceToNat,↓reduceIte]
  have hts := told_size (w := c.speaker) (by omega)
  have ho := p_sof [c.speaker, toldW c.speaker] (by simp) (by intro x hx; simp at hx; rcases hx with rfl | rfl <;> omega)
  refine PCalls.use ho ?_
  simp only [vSet, wk,if_true,if_false,forall_const,implies_true,ne_eq,eq_self,Nat.reduceEqDiff,Nat.reduceAdd,Nat.reduceMul,Nat.reduceSub,Nat.reduceLeDiff,Nat.reduceLT,Int.reduceEq,Int.reduceLT,Int.reduceLE,Int.reduceAdd,Int.reduceSub,Int.reduceMul,Int.reduceNeg,Int.reduceNe,reduceCtorEq,Int.reduceToNat,↓reduceIte]
  have hos := ofE_small [c.speaker, toldW c.speaker]
  refine ⟨fun h0 => ?_, fun h0 => bool_eq (by unfold delegE; rw [hd, decide_eq_false h0]; rfl)⟩
  have hg : setMay (ofE [c.speaker, toldW c.speaker]).1 = true := by
    have e := ofE_ok h0
    have := ofE_good e
    rw [e]; exact this
  refine PCalls.use (p_same c.words (ofE [c.speaker, toldW c.speaker]).1 (by omega) (by omega) hsm.2.2 (smallS_nrm hg).2.2) ?_; simp only [wk,if_true,if_false,forall_const,implies_true,ne_eq,eq_self,Nat.reduceEqDiff,Nat.reduceAdd,Nat.reduceMul,Nat.reduceSub,Nat.reduceLeDiff,Nat.reduceLT,Int.reduceEq,Int.reduceLT,Int.reduceLE,Int.reduceAdd,Int.reduceSub,Int.reduceMul,Int.reduceNeg,Int.reduceNe,reduceCtorEq,Int.reduceToNat,↓reduceIte]
  exact bool_eq (by unfold delegE; rw [hd, decide_eq_true h0]; rfl)
end Go.Proofs.Ytaepikkaogfhbaa

/- cert.like. -/
namespace Go.Proofs.Ytaepikkaogfhbaa
set_option linter.unusedSimpArgs false
set_option linter.unusedVariables false
open Go.RowKit Go.Lib

def kindAt (w : ByteArray) (i : Nat) : Int := ((atomAt w i / 8192 : Nat) : Int)
def aloneE (w : ByteArray) (l : List Int) : Bool := decide (w.size / 2 = 1) && hasI l (kindAt w 0)
/-- is a certificate of one word like its kind must be? -/
def likeOne (c : Crt) (w : ByteArray) : Bool :=
  if c.kind = 1 then aloneE c.speaker [1] && (decide (w.size / 2 = 2) && (hasI [3] (kindAt w 0) && hasI [5] (kindAt w 1)))
  else if c.kind = 2 then aloneE c.speaker [1] && decide (w = atomW c.signer)
  else if c.kind = 3 then aloneE c.speaker [2]
  else if c.kind = 4 then aloneE c.speaker [3] && aloneE w [4]
  else if c.kind = 5 then aloneE c.speaker [1, 2] && (decide (2 ≤ w.size / 2) && hasI [5] (kindAt w (w.size / 2 - 1)))
  else false
def likeE (c : Crt) : Bool :=
  if c.kind = 6 then true else if c.kind = 7 then delegE c else match c.words with
    | [w] => likeOne c w
    | _ => false
set_option maxRecDepth 100000 in
set_option maxHeartbeats 2000000 in
theorem p_like (c : Crt) (hm : wordMay c.speaker = true) (hs : setMay c.words = true) (hg : c.signer < 65536) : PCalls Try.prog 82 [vC c] (.bool (likeE c)) := by
  have hsz := wordMay_even hm
  have hsm := setMay_small hs
  refine pcalls_of (by simp [free.frees, free_vC]) rfl (acalls_of mixed J_cert_like_ok (Nat.le_of_ble_eq_true rfl) ?_); simp only [J_cert_like, vC, cC, wk,if_true,if_false,forall_const,implies_true,ne_eq,eq_self,Nat.reduceEqDiff,Nat.reduceAdd,Nat.reduceMul,Nat.reduceSub,Nat.reduceLeDiff,Nat.reduceLT,Int.reduceEq,Int.reduceLT,Int.reduceLE,Int.reduceAdd,Int.reduceSub,Int.reduceMul,Int.reduceNeg,Int.reduceNe,reduceCtorEq,Int.reduceToNat,↓reduceIte]
  refine ⟨fun h6 => bool_eq (by simp [likeE, h6]), fun h6 => ⟨fun h7 => ?_, fun h7 => ⟨fun h1 => bool_eq ?_, fun h1 => ⟨by omega, ?_⟩⟩⟩⟩
  · have hp := p_deleg c hm hs
    unfold vC cC at hp
    refine PCalls.use (hp) ?_; simp only [wk,if_true,if_false,forall_const,implies_true,ne_eq,eq_self,Nat.reduceEqDiff,Nat.reduceAdd,Nat.reduceMul,Nat.reduceSub,Nat.reduceLeDiff,Nat.reduceLT,Int.reduceEq,Int.reduceLT,Int.reduceLE,Int.reduceAdd,Int.reduceSub,Int.reduceMul,Int.reduceNeg,Int.reduceNe,reduceCtorEq,Int.reduceToNat,↓reduceIte]
    exact bool_eq (by unfold likeE; rw [if_neg h6, if_pos h7])
  · unfold likeE
    rw [if_neg h6, if_neg h7]
    split
    · next w e => rw [e] at h1; exact absurd rfl h1
    · rfl
  obtain ⟨w, hw⟩ : ∃ w, c.words = [w] := by
    cases e : c.words with
    | nil => rw [e] at h1; cases h1
    | cons w l =>
      cases l with
      | nil => exact ⟨w, rfl⟩
      | cons x l => rw [e] at h1; simp at h1; omega
  have hL : likeE c = likeOne c w := by unfold likeE; rw [if_neg h6, if_neg h7, hw]
  have hwz : w.size ≤ 16 := hsm.2 w (by rw [hw]; simp)
  have hmw := (setMay_words hs).2 w (by rw [hw]; simp)
  rw [hL]
  simp only [hw, List.map_cons, List.map_nil, wk,if_true,if_false,forall_const,implies_true,ne_eq,eq_self,Nat.reduceEqDiff,Nat.reduceAdd,Nat.reduceMul,Nat.reduceSub,Nat.reduceLeDiff,Nat.reduceLT,Int.reduceEq,Int.reduceLT,Int.reduceLE,Int.reduceAdd,Int.reduceSub,Int.reduceMul,Int.reduceNeg,Int.reduceNe,reduceCtorEq,Int.reduceToNat,↓reduceIte]
  refine PCalls.use (p_wlen w (by omega)) ?_; simp only [wk,if_true,if_false,forall_const,implies_true,ne_eq,eq_self,Nat.reduceEqDiff,Nat.reduceAdd,Nat.reduceMul,Nat.reduceSub,Nat.reduceLeDiff,Nat.reduceLT,Int.reduceEq,Int.reduceLT,Int.reduceLE,Int.reduceAdd,Int.reduceSub,Int.reduceMul,Int.reduceNeg,Int.reduceNe,reduceCtorEq,Int.reduceToNat,↓reduceIte]
  have qa : ∀ (s : ByteArray) (l : List Int), s.size ≤ 16 → l.length ≤ 2 → PCalls Try.prog 109 [.str s, .lst .ro l.length (l.map (.int .i64))] (.bool (aloneE s l)) := fun s l hz hl => p_alone s l (by omega) (by omega)
  have qo : ∀ (i : Nat) (l : List Int), l.length ≤ 2 → PCalls Try.prog 78 [.int .u16 (atomAt w i), .lst .ro l.length (l.map (.int .i64))] (.bool (hasI l (kindAt w i))) := fun i l hl => p_isOf (atomAt w i) l (atomAt_lt w i) (by omega)
  refine ⟨fun k1 => ?_, fun k1 => ⟨fun k2 => ?_, fun k2 => ⟨fun k3 => ?_, fun k3 => ⟨fun k4 => ?_, fun k4 => ⟨fun k5 => ?_, fun k5 => bool_eq ?_⟩⟩⟩⟩⟩
  · have e : likeOne c w = (aloneE c.speaker [1] && (decide (w.size / 2 = 2) && (hasI [3] (kindAt w 0) && hasI [5] (kindAt w 1)))) := by unfold likeOne; rw [if_pos k1]
    rw [e]
    refine PCalls.use (qa c.speaker [1] hsz.2 (by simp)) ?_; simp only [wk,if_true,if_false,forall_const,implies_true,ne_eq,eq_self,Nat.reduceEqDiff,Nat.reduceAdd,Nat.reduceMul,Nat.reduceSub,Nat.reduceLeDiff,Nat.reduceLT,Int.reduceEq,Int.reduceLT,Int.reduceLE,Int.reduceAdd,Int.reduceSub,Int.reduceMul,Int.reduceNeg,Int.reduceNe,reduceCtorEq,Int.reduceToNat,↓reduceIte]
    cases ha : aloneE c.speaker [1] with
    | false => simp only [wk,if_true,if_false,forall_const,implies_true,ne_eq,eq_self,Nat.reduceEqDiff,Nat.reduceAdd,Nat.reduceMul,Nat.reduceSub,Nat.reduceLeDiff,Nat.reduceLT,Int.reduceEq,Int.reduceLT,Int.reduceLE,Int.reduceAdd,Int.reduceSub,Int.reduceMul,Int.reduceNeg,Int.reduceNe,reduceCtorEq,Int.reduceToNat,↓reduceIte]; rfl
    | true =>
      simp only [wk,if_true,if_false,forall_const,implies_true,ne_eq,eq_self,Nat.reduceEqDiff,Nat.reduceAdd,Nat.reduceMul,Nat.reduceSub,Nat.reduceLeDiff,Nat.reduceLT,Int.reduceEq,Int.reduceLT,Int.reduceLE,Int.reduceAdd,Int.reduceSub,Int.reduceMul,Int.reduceNeg,Int.reduceNe,reduceCtorEq,Int.reduceToNat,↓reduceIte]
      refine ⟨fun h2 => ?_, fun h2 => bool_eq (by rw [decide_eq_false (by omega)]; rfl)⟩
      refine PCalls.use (p_wat w 0 (by omega) (by omega)) ?_; simp only [wk,if_true,if_false,forall_const,implies_true,ne_eq,eq_self,Nat.reduceEqDiff,Nat.reduceAdd,Nat.reduceMul,Nat.reduceSub,Nat.reduceLeDiff,Nat.reduceLT,Int.reduceEq,Int.reduceLT,Int.reduceLE,Int.reduceAdd,Int.reduceSub,Int.reduceMul,Int.reduceNeg,Int.reduceNe,reduceCtorEq,Int.reduceToNat,↓reduceIte]
      refine PCalls.use (qo 0 [3] (by simp)) ?_; simp only [wk,if_true,if_false,forall_const,implies_true,ne_eq,eq_self,Nat.reduceEqDiff,Nat.reduceAdd,Nat.reduceMul,Nat.reduceSub,Nat.reduceLeDiff,Nat.reduceLT,Int.reduceEq,Int.reduceLT,Int.reduceLE,Int.reduceAdd,Int.reduceSub,Int.reduceMul,Int.reduceNeg,Int.reduceNe,reduceCtorEq,Int.reduceToNat,↓reduceIte]
      rw [decide_eq_true (show w.size / 2 = 2 by omega)]
      cases h3 : hasI [3] (kindAt w 0) with
      | false => simp only [wk,if_true,if_false,forall_const,implies_true,ne_eq,eq_self,Nat.reduceEqDiff,Nat.reduceAdd,Nat.reduceMul,Nat.reduceSub,Nat.reduceLeDiff,Nat.reduceLT,Int.reduceEq,Int.reduceLT,Int.reduceLE,Int.reduceAdd,Int.reduceSub,Int.reduceMul,Int.reduceNeg,Int.reduceNe,reduceCtorEq,Int.reduceToNat,↓reduceIte]; rfl
      | true =>
        simp only [wk,if_true,if_false,forall_const,implies_true,ne_eq,eq_self,Nat.reduceEqDiff,Nat.reduceAdd,Nat.reduceMul,Nat.reduceSub,Nat.reduceLeDiff,Nat.reduceLT,Int.reduceEq,Int.reduceLT,Int.reduceLE,Int.reduceAdd,Int.reduceSub,Int.reduceMul,Int.reduceNeg,Int.reduceNe,reduceCtorEq,Int.reduceToNat,↓reduceIte]
        refine PCalls.use (p_wat w 1 (by omega) (by omega)) ?_; simp only [wk,if_true,if_false,forall_const,implies_true,ne_eq,eq_self,Nat.reduceEqDiff,Nat.reduceAdd,Nat.reduceMul,Nat.reduceSub,Nat.reduceLeDiff,Nat.reduceLT,Int.reduceEq,Int.reduceLT,Int.reduceLE,Int.reduceAdd,Int.reduceSub,Int.reduceMul,Int.reduceNeg,Int.reduceNe,reduceCtorEq,Int.reduceToNat,↓reduceIte]
        refine PCalls.use (qo 1 [5] (by simp)) ?_; simp only [wk,if_true,if_false,forall_const,implies_true,ne_eq,eq_self,Nat.reduceEqDiff,Nat.reduceAdd,Nat.reduceMul,Nat.reduceSub,Nat.reduceLeDiff,Nat.reduceLT,Int.reduceEq,Int.reduceLT,Int.reduceLE,Int.reduceAdd,Int.reduceSub,Int.reduceMul,Int.reduceNeg,Int.reduceNe,reduceCtorEq,Int.reduceToNat,↓reduceIte]
        rfl
  · have e : likeOne c w = (aloneE c.speaker [1] && decide (w = atomW c.signer)) := by unfold likeOne; rw [if_neg k1, if_pos k2]
    rw [e]
    refine PCalls.use (qa c.speaker [1] hsz.2 (by simp)) ?_; simp only [wk,if_true,if_false,forall_const,implies_true,ne_eq,eq_self,Nat.reduceEqDiff,Nat.reduceAdd,Nat.reduceMul,Nat.reduceSub,Nat.reduceLeDiff,Nat.reduceLT,Int.reduceEq,Int.reduceLT,Int.reduceLE,Int.reduceAdd,Int.reduceSub,Int.reduceMul,Int.reduceNeg,Int.reduceNe,reduceCtorEq,Int.reduceToNat,↓reduceIte]
    cases ha : aloneE c.speaker [1] with
    | false => simp only [wk,if_true,if_false,forall_const,implies_true,ne_eq,eq_self,Nat.reduceEqDiff,Nat.reduceAdd,Nat.reduceMul,Nat.reduceSub,Nat.reduceLeDiff,Nat.reduceLT,Int.reduceEq,Int.reduceLT,Int.reduceLE,Int.reduceAdd,Int.reduceSub,Int.reduceMul,Int.reduceNeg,Int.reduceNe,reduceCtorEq,Int.reduceToNat,↓reduceIte]; rfl
    | true =>
      simp only [wk,if_true,if_false,forall_const,implies_true,ne_eq,eq_self,Nat.reduceEqDiff,Nat.reduceAdd,Nat.reduceMul,Nat.reduceSub,Nat.reduceLeDiff,Nat.reduceLT,Int.reduceEq,Int.reduceLT,Int.reduceLE,Int.reduceAdd,Int.reduceSub,Int.reduceMul,Int.reduceNeg,Int.reduceNe,reduceCtorEq,Int.reduceToNat,↓reduceIte]
      refine PCalls.use (p_wof [c.signer] (by simp) (by simpa using hg)) ?_; simp only [wk,if_true,if_false,forall_const,implies_true,ne_eq,eq_self,Nat.reduceEqDiff,Nat.reduceAdd,Nat.reduceMul,Nat.reduceSub,Nat.reduceLeDiff,Nat.reduceLT,Int.reduceEq,Int.reduceLT,Int.reduceLE,Int.reduceAdd,Int.reduceSub,Int.reduceMul,Int.reduceNeg,Int.reduceNe,reduceCtorEq,Int.reduceToNat,↓reduceIte]
      rw [atomBytes_one]
      rfl
  · have e : likeOne c w = aloneE c.speaker [2] := by unfold likeOne; rw [if_neg k1, if_neg k2, if_pos k3]
    rw [e]
    refine PCalls.use (qa c.speaker [2] hsz.2 (by simp)) ?_; simp only [wk,if_true,if_false,forall_const,implies_true,ne_eq,eq_self,Nat.reduceEqDiff,Nat.reduceAdd,Nat.reduceMul,Nat.reduceSub,Nat.reduceLeDiff,Nat.reduceLT,Int.reduceEq,Int.reduceLT,Int.reduceLE,Int.reduceAdd,Int.reduceSub,Int.reduceMul,Int.reduceNeg,Int.reduceNe,reduceCtorEq,Int.reduceToNat,↓reduceIte]
  · have e : likeOne c w = (aloneE c.speaker [3] && aloneE w [4]) := by unfold likeOne; rw [if_neg k1, if_neg k2, if_neg k3, if_pos k4]
    rw [e]
    refine PCalls.use (qa c.speaker [3] hsz.2 (by simp)) ?_; simp only [wk,if_true,if_false,forall_const,implies_true,ne_eq,eq_self,Nat.reduceEqDiff,Nat.reduceAdd,Nat.reduceMul,Nat.reduceSub,Nat.reduceLeDiff,Nat.reduceLT,Int.reduceEq,Int.reduceLT,Int.reduceLE,Int.reduceAdd,Int.reduceSub,Int.reduceMul,Int.reduceNeg,Int.reduceNe,reduceCtorEq,Int.reduceToNat,↓reduceIte]
    cases ha : aloneE c.speaker [3] with
    | false => simp only [wk,if_true,if_false,forall_const,implies_true,ne_eq,eq_self,Nat.reduceEqDiff,Nat.reduceAdd,Nat.reduceMul,Nat.reduceSub,Nat.reduceLeDiff,Nat.reduceLT,Int.reduceEq,Int.reduceLT,Int.reduceLE,Int.reduceAdd,Int.reduceSub,Int.reduceMul,Int.reduceNeg,Int.reduceNe,reduceCtorEq,Int.reduceToNat,↓reduceIte]; rfl
    | true =>
      simp only [wk,if_true,if_false,forall_const,implies_true,ne_eq,eq_self,Nat.reduceEqDiff,Nat.reduceAdd,Nat.reduceMul,Nat.reduceSub,Nat.reduceLeDiff,Nat.reduceLT,Int.reduceEq,Int.reduceLT,Int.reduceLE,Int.reduceAdd,Int.reduceSub,Int.reduceMul,Int.reduceNeg,Int.reduceNe,reduceCtorEq,Int.reduceToNat,↓reduceIte]
      refine PCalls.use (qa w [4] hwz (by simp)) ?_; simp only [wk,if_true,if_false,forall_const,implies_true,ne_eq,eq_self,Nat.reduceEqDiff,Nat.reduceAdd,Nat.reduceMul,Nat.reduceSub,Nat.reduceLeDiff,Nat.reduceLT,Int.reduceEq,Int.reduceLT,Int.reduceLE,Int.reduceAdd,Int.reduceSub,Int.reduceMul,Int.reduceNeg,Int.reduceNe,reduceCtorEq,Int.reduceToNat,↓reduceIte]
      rfl
  · have e : likeOne c w = (aloneE c.speaker [1, 2] && (decide (2 ≤ w.size / 2) && hasI [5] (kindAt w (w.size / 2 - 1)))) := by unfold likeOne; rw [if_neg k1, if_neg k2, if_neg k3, if_neg k4, if_pos k5]
    rw [e]
    refine PCalls.use (qa c.speaker [1, 2] hsz.2 (by simp)) ?_; simp only [wk,if_true,if_false,forall_const,implies_true,ne_eq,eq_self,Nat.reduceEqDiff,Nat.reduceAdd,Nat.reduceMul,Nat.reduceSub,Nat.reduceLeDiff,Nat.reduceLT,Int.reduceEq,Int.reduceLT,Int.reduceLE,Int.reduceAdd,Int.reduceSub,Int.reduceMul,Int.reduceNeg,Int.reduceNe,reduceCtorEq,Int.reduceToNat,↓reduceIte]
    cases ha : aloneE c.speaker [1, 2] with
    | false => simp only [wk,if_true,if_false,forall_const,implies_true,ne_eq,eq_self,Nat.reduceEqDiff,Nat.reduceAdd,Nat.reduceMul,Nat.reduceSub,Nat.reduceLeDiff,Nat.reduceLT,Int.reduceEq,Int.reduceLT,Int.reduceLE,Int.reduceAdd,Int.reduceSub,Int.reduceMul,Int.reduceNeg,Int.reduceNe,reduceCtorEq,Int.reduceToNat,↓reduceIte]; rfl
    | true =>
      simp only [wk,if_true,if_false,forall_const,implies_true,ne_eq,eq_self,Nat.reduceEqDiff,Nat.reduceAdd,Nat.reduceMul,Nat.reduceSub,Nat.reduceLeDiff,Nat.reduceLT,Int.reduceEq,Int.reduceLT,Int.reduceLE,Int.reduceAdd,Int.reduceSub,Int.reduceMul,Int.reduceNeg,Int.reduceNe,reduceCtorEq,Int.reduceToNat,↓reduceIte]
      refine ⟨fun h2 => ?_, fun h2 => bool_eq (by rw [decide_eq_false (by omega)]; rfl)⟩
      refine ⟨inR_of (by omega) (by omega), ?_⟩
      rw [show ((w.size / 2 : Nat) : Int) - 1 = ((w.size / 2 - 1 : Nat) : Int) by omega]
      refine PCalls.use (p_wat w (w.size / 2 - 1) (by omega) (by omega)) ?_; simp only [wk,if_true,if_false,forall_const,implies_true,ne_eq,eq_self,Nat.reduceEqDiff,Nat.reduceAdd,Nat.reduceMul,Nat.reduceSub,Nat.reduceLeDiff,Nat.reduceLT,Int.reduceEq,Int.reduceLT,Int.reduceLE,Int.reduceAdd,Int.reduceSub,Int.reduceMul,Int.reduceNeg,Int.reduceNe,reduceCtorEq,Int.reduceToNat,↓reduceIte]
      refine PCalls.use (qo (w.size / 2 - 1) [5] (by simp)) ?_; simp only [wk,if_true,if_false,forall_const,implies_true,ne_eq,eq_self,Nat.reduceEqDiff,Nat.reduceAdd,Nat.reduceMul,Nat.reduceSub,Nat.reduceLeDiff,Nat.reduceLT,Int.reduceEq,Int.reduceLT,Int.reduceLE,Int.reduceAdd,Int.reduceSub,Int.reduceMul,Int.reduceNeg,Int.reduceNe,reduceCtorEq,Int.reduceToNat,↓reduceIte]
      rw [decide_eq_true (show 2 ≤ w.size / 2 by omega)]
      rfl
  · unfold likeOne; rw [if_neg k1, if_neg k2, if_neg k3, if_neg k4, if_neg k5]
end Go.Proofs.Ytaepikkaogfhbaa

/- cert.Check. -/
namespace Go.Proofs.Ytaepikkaogfhbaa
set_option linter.unusedSimpArgs false
set_option linter.unusedVariables false
open Go.RowKit Go.Lib

/-- what is wrong with a certificate -/
def checkE (c : Crt) : Int :=
  if c.kind < 1 ∨ 7 < c.kind then 1
  else if hasI [1] ((c.signer / 8192 : Nat) : Int) = true ∧ wordMay c.speaker = true ∧ setMay c.words = true ∧ numL [c.since, c.till, c.serial] = true then
    (if c.till < c.since then 5 else if c.words.any (fun w => decide (w.size / 2 < c.speaker.size / 2)) = true then 4 else if likeE c = true then 0 else 13)
  else 2
/-- small enough to be looked at -/
def smallC (c : Crt) : Prop := c.signer < 65536 ∧ c.speaker.size ≤ 1000000 ∧ c.words.length ≤ 10000 ∧ ∀ x ∈ c.words, x.size ≤ 1000000
set_option maxRecDepth 100000 in
set_option maxHeartbeats 2000000 in
theorem p_check (c : Crt) (h : smallC c) : PCalls Try.prog 37 [vC c] (.int .i64 (checkE c)) := by
  obtain ⟨hg, hz, hl, hx⟩ := h
  refine pcalls_of (by simp [free.frees, free_vC]) rfl (acalls_of mixed J_cert_Check_ok (Nat.le_of_ble_eq_true rfl) ?_); simp only [J_cert_Check, vC, cC, wk,if_true,if_false,forall_const,implies_true,ne_eq,eq_self,Nat.reduceEqDiff,Nat.reduceAdd,Nat.reduceMul,Nat.reduceSub,Nat.reduceLeDiff,Nat.reduceLT,Int.reduceEq,Int.reduceLT,Int.reduceLE,Int.reduceAdd,Int.reduceSub,Int.reduceMul,Int.reduceNeg,Int.reduceNe,reduceCtorEq,Int.reduceToNat,↓reduceIte]
  have e1 : c.kind < 1 ∨ 7 < c.kind → AV.int .i64 1 = .int .i64 (checkE c) := fun h => int_eq (by unfold checkE; rw [if_pos h])
  have e2 : ¬ (c.kind < 1 ∨ 7 < c.kind) → ¬ (hasI [1] ((c.signer / 8192 : Nat) : Int) = true ∧ wordMay c.speaker = true ∧ setMay c.words = true ∧ numL [c.since, c.till, c.serial] = true) → AV.int .i64 2 = .int .i64 (checkE c) := fun h h' => int_eq (by unfold checkE; rw [if_neg h, if_neg h'])
  refine ⟨fun k1 => ⟨fun k2 => e1 (.inr k2), fun k2 => ?_⟩, fun k1 => e1 (.inl k1)⟩
  have hk : ¬ (c.kind < 1 ∨ 7 < c.kind) := by omega
  refine PCalls.use (p_isOf c.signer [1] hg (by simp)) ?_; simp only [wk,if_true,if_false,forall_const,implies_true,ne_eq,eq_self,Nat.reduceEqDiff,Nat.reduceAdd,Nat.reduceMul,Nat.reduceSub,Nat.reduceLeDiff,Nat.reduceLT,Int.reduceEq,Int.reduceLT,Int.reduceLE,Int.reduceAdd,Int.reduceSub,Int.reduceMul,Int.reduceNeg,Int.reduceNe,reduceCtorEq,Int.reduceToNat,↓reduceIte]
  refine ⟨fun a1 => ?_, fun a1 => e2 hk (fun h => by rw [a1] at h; exact absurd h.1 (by simp))⟩
  refine PCalls.use (p_wmay c.speaker (by omega)) ?_; simp only [wk,if_true,if_false,forall_const,implies_true,ne_eq,eq_self,Nat.reduceEqDiff,Nat.reduceAdd,Nat.reduceMul,Nat.reduceSub,Nat.reduceLeDiff,Nat.reduceLT,Int.reduceEq,Int.reduceLT,Int.reduceLE,Int.reduceAdd,Int.reduceSub,Int.reduceMul,Int.reduceNeg,Int.reduceNe,reduceCtorEq,Int.reduceToNat,↓reduceIte]
  refine ⟨fun a2 => ?_, fun a2 => e2 hk (fun h => by rw [a2] at h; exact absurd h.2.1 (by simp))⟩
  refine PCalls.use (p_smay c.words (by omega) (fun x q => by have := hx x q; omega)) ?_; simp only [wk,if_true,if_false,forall_const,implies_true,ne_eq,eq_self,Nat.reduceEqDiff,Nat.reduceAdd,Nat.reduceMul,Nat.reduceSub,Nat.reduceLeDiff,Nat.reduceLT,Int.reduceEq,Int.reduceLT,Int.reduceLE,Int.reduceAdd,Int.reduceSub,Int.reduceMul,Int.reduceNeg,Int.reduceNe,reduceCtorEq,Int.reduceToNat,↓reduceIte]
  refine ⟨fun a3 => ?_, fun a3 => e2 hk (fun h => by rw [a3] at h; exact absurd h.2.2.1 (by simp))⟩
  refine PCalls.use (p_cnum [c.since, c.till, c.serial] (by simp)) ?_; simp only [wk,if_true,if_false,forall_const,implies_true,ne_eq,eq_self,Nat.reduceEqDiff,Nat.reduceAdd,Nat.reduceMul,Nat.reduceSub,Nat.reduceLeDiff,Nat.reduceLT,Int.reduceEq,Int.reduceLT,Int.reduceLE,Int.reduceAdd,Int.reduceSub,Int.reduceMul,Int.reduceNeg,Int.reduceNe,reduceCtorEq,Int.reduceToNat,↓reduceIte]
  refine ⟨fun a4 => e2 hk (fun h => by rw [a4] at h; exact absurd h.2.2.2 (by simp)), fun a4 => ?_⟩
  have e3 : checkE c = (if c.till < c.since then 5 else if c.words.any (fun w => decide (w.size / 2 < c.speaker.size / 2)) = true then 4 else if likeE c = true then 0 else 13) := by
    unfold checkE; rw [if_neg hk, if_pos ⟨a1, a2, a3, a4⟩]
  refine ⟨fun a5 => int_eq (by rw [e3, if_pos a5]), fun a5 => ?_⟩
  rw [if_neg a5] at e3
  refine W_loop (fun n fr h => ∃ i : Nat, i ≤ c.words.length ∧ n = c.words.length - i ∧ h = [some (false, cC c)] ∧ fr = [(1, .ptr 0 0), (47, .lst .ro c.words.length (c.words.map .str)), (48, .int .i64 c.words.length), (49, .int .i64 i)] ∧ ∀ w ∈ c.words.take i, ¬ w.size / 2 < c.speaker.size / 2) c.words.length ⟨0, by omega, by omega, rfl, rfl, by simp⟩ ?_
  rintro n fr h ⟨i, hi, rfl, rfl, rfl, hall⟩
  simp only [J_cert_Check_j2, cC, wk,if_true,if_false,forall_const,implies_true,ne_eq,eq_self,Nat.reduceEqDiff,Nat.reduceAdd,Nat.reduceMul,Nat.reduceSub,Nat.reduceLeDiff,Nat.reduceLT,Int.reduceEq,Int.reduceLT,Int.reduceLE,Int.reduceAdd,Int.reduceSub,Int.reduceMul,Int.reduceNeg,Int.reduceNe,reduceCtorEq,Int.reduceToNat,↓reduceIte]
  refine ⟨fun hlt => ?_, fun hge => ?_⟩
  · have hil : i < c.words.length := by omega
    have hd : (c.words.map AV.str).drop (i : Int).toNat = .str c.words[i] :: (c.words.map AV.str).drop (i + 1) := by rw [show (i : Int).toNat = i by omega, drop_str hil]
    have z := hx _ (List.getElem_mem hil)
    refine ⟨⟨by omega, by omega⟩, ?_⟩
    simp only [hd, wk,if_true,if_false,forall_const,implies_true,ne_eq,eq_self,Nat.reduceEqDiff,Nat.reduceAdd,Nat.reduceMul,Nat.reduceSub,Nat.reduceLeDiff,Nat.reduceLT,Int.reduceEq,Int.reduceLT,Int.reduceLE,Int.reduceAdd,Int.reduceSub,Int.reduceMul,Int.reduceNeg,Int.reduceNe,reduceCtorEq,Int.reduceToNat,↓reduceIte]
    refine PCalls.use (p_wlen c.speaker (by omega)) ?_; simp only [wk,if_true,if_false,forall_const,implies_true,ne_eq,eq_self,Nat.reduceEqDiff,Nat.reduceAdd,Nat.reduceMul,Nat.reduceSub,Nat.reduceLeDiff,Nat.reduceLT,Int.reduceEq,Int.reduceLT,Int.reduceLE,Int.reduceAdd,Int.reduceSub,Int.reduceMul,Int.reduceNeg,Int.reduceNe,reduceCtorEq,Int.reduceToNat,↓reduceIte]
    refine PCalls.use (p_wlen c.words[i] (by omega)) ?_; simp only [wk,if_true,if_false,forall_const,implies_true,ne_eq,eq_self,Nat.reduceEqDiff,Nat.reduceAdd,Nat.reduceMul,Nat.reduceSub,Nat.reduceLeDiff,Nat.reduceLT,Int.reduceEq,Int.reduceLT,Int.reduceLE,Int.reduceAdd,Int.reduceSub,Int.reduceMul,Int.reduceNeg,Int.reduceNe,reduceCtorEq,Int.reduceToNat,↓reduceIte]
    refine ⟨fun h4 => int_eq ?_, fun h4 => ⟨inR_of (by omega) (by omega), c.words.length - (i + 1), by omega, i + 1, by omega, rfl, rfl, fun w hw => ?_⟩⟩
    · rw [e3, if_pos]
      rw [List.any_eq_true]
      exact ⟨_, List.getElem_mem hil, by simp; omega⟩
    · rcases (take_mem_succ hil).1 hw with h | h
      · exact hall w h
      · subst h; omega
  · rw [List.take_of_length_le (by omega)] at hall
    have e4 : ¬ (c.words.any (fun w => decide (w.size / 2 < c.speaker.size / 2)) = true) := by
      rw [List.any_eq_true]
      rintro ⟨w, hw, h1⟩
      simp only [decide_eq_true_eq] at h1
      exact hall w hw h1
    rw [if_neg e4] at e3
    simp only [J_cert_Check_j1, wk,if_true,if_false,forall_const,implies_true,ne_eq,eq_self,Nat.reduceEqDiff,Nat.reduceAdd,Nat.reduceMul,Nat.reduceSub,Nat.reduceLeDiff,Nat.reduceLT,Int.reduceEq,Int.reduceLT,Int.reduceLE,Int.reduceAdd,Int.reduceSub,Int.reduceMul,Int.reduceNeg,Int.reduceNe,reduceCtorEq,Int.reduceToNat,↓reduceIte]
    have hp := p_like c a2 a3 hg
    unfold vC cC at hp
    refine PCalls.use (hp) ?_; simp only [wk,if_true,if_false,forall_const,implies_true,ne_eq,eq_self,Nat.reduceEqDiff,Nat.reduceAdd,Nat.reduceMul,Nat.reduceSub,Nat.reduceLeDiff,Nat.reduceLT,Int.reduceEq,Int.reduceLT,Int.reduceLE,Int.reduceAdd,Int.reduceSub,Int.reduceMul,Int.reduceNeg,Int.reduceNe,reduceCtorEq,Int.reduceToNat,↓reduceIte]
    refine ⟨fun h0 => int_eq ?_, fun h0 => int_eq ?_⟩
    · rw [e3, if_neg (by rw [h0]; simp)]
    · rw [e3, if_pos h0]
end Go.Proofs.Ytaepikkaogfhbaa

/- The reference's like. -/
namespace Go.Proofs.Ytaepikkaogfhbaa
set_option linter.unusedSimpArgs false
set_option linter.unusedVariables false
open Go.RowKit Go.Lib

theorem word_one {w : ByteArray} (h : w.size = 2) : w = atomW (atomAt w 0) := by
  have := atomBytes_atoms (s := w) (by omega)
  rw [show atomNs w = [atomAt w 0] by unfold atomNs; rw [h]; rfl] at this
  rw [← atomBytes_one]
  apply ByteArray.ext
  apply Array.ext'
  simpa using this.symm
theorem atom_back {a : Nat} (h : a < 65536) : atomAt (atomW a) 0 = a := by
  have e : atomAt (atomW a) 0 = (UInt8.ofNat (a / 256)).toNat * 256 + (UInt8.ofNat (a % 256)).toNat := rfl
  rw [e]
  simp
  omega
theorem one_is {w : ByteArray} {a : Nat} (h : w.size = 2) (ha : a < 65536) : (atomAt w 0 = a) ↔ w = atomW a := by
  constructor
  · intro e; rw [← e]; exact word_one h
  · intro e; rw [e]; exact atom_back ha
theorem told_eq {s : ByteArray} (h : s.size % 2 = 0) (h2 : 2 ≤ s.size) : (⟨(atomBytes (1 :: (atomNs s).drop 1)).toArray⟩ : ByteArray) = toldW s := by
  have hb := atomBytes_atoms h
  cases hn : atomNs s with
  | nil => have := atomNs_len s; rw [hn] at this; simp at this; omega
  | cons a r =>
    rw [hn] at hb
    have e1 : atomBytes (a :: r) = [UInt8.ofNat (a / 256), UInt8.ofNat (a % 256)] ++ atomBytes r := by simp [atomBytes]
    rw [e1] at hb
    have e2 : atomBytes r = s.data.toList.drop 2 := by rw [← hb]; rfl
    have e3 : atomBytes (1 :: r) = [UInt8.ofNat (1 / 256), UInt8.ofNat (1 % 256)] ++ atomBytes r := by simp [atomBytes]
    apply ByteArray.ext
    apply Array.ext'
    unfold toldW
    simp only [List.drop_succ_cons, List.drop_zero, e3, e2, ByteArray.data_append, Array.toList_append, ByteArray.data_extract, Array.toList_extract]
    rw [List.extract_eq_take_drop, List.take_of_length_le (by rw [List.length_drop]; exact Nat.le_refl _)]
    rfl
theorem deleg_eq {c : Crt} (hm : wordMay c.speaker = true) (hs : setMay c.words = true) (h2 : 2 ≤ c.speaker.size / 2) : delegE c = decide (c.words = nrm [c.speaker, toldW c.speaker]) := by
  unfold delegE
  rw [decide_eq_true h2, Bool.true_and]
  by_cases e : c.words = nrm [c.speaker, toldW c.speaker]
  · have hall : ∀ x ∈ [c.speaker, toldW c.speaker], wordMay x = true := fun x hx => (setMay_words hs).2 x (by rw [e]; exact mem_nrm.2 hx)
    have hl := (setMay_words hs).1
    rw [e] at hl
    have ho : ofE [c.speaker, toldW c.speaker] = (nrm [c.speaker, toldW c.speaker], 0) := by
      rw [ofE_may hall]; unfold boundE; rw [if_pos hl]
    rw [ho, decide_eq_true e, ← e, decide_eq_true rfl, withinE_iff.2 (fun w hw => hw)]; rfl
  · rw [decide_eq_false e]
    by_cases h0 : (ofE [c.speaker, toldW c.speaker]).2 = 0
    · rw [decide_eq_true h0, Bool.true_and, ofE_ok h0]
      cases hw : (withinE c.words (nrm [c.speaker, toldW c.speaker]) && withinE (nrm [c.speaker, toldW c.speaker]) c.words) with
      | false => rfl
      | true =>
        rw [Bool.and_eq_true, withinE_iff, withinE_iff] at hw
        exact absurd (rising_ext (setMay_rising hs) (rising_nrm _) fun x => ⟨hw.1 x, hw.2 x⟩) e
    · rw [decide_eq_false h0]; rfl
theorem hasI_one {k x : Int} : hasI [k] x = decide (x = k) := by simp [hasI]
theorem alone_single {s : ByteArray} {k : Int} (hk : 0 ≤ k) : aloneE s [k] = decide (singleE s = k) := by
  unfold aloneE singleE kindAt
  rw [hasI_one]
  by_cases h : s.size / 2 = 1
  · rw [if_pos h, decide_eq_true h]; rfl
  · rw [if_neg h, decide_eq_false h, Bool.false_and, decide_eq_false (by omega)]
theorem like_many {c : Crt} {w x : ByteArray} {l : List ByteArray} (h : c.words = w :: x :: l) (h6 : c.kind ≠ 6) (h7 : c.kind ≠ 7) : likeE c = false := by
  unfold likeE
  rw [if_neg h6, if_neg h7, h]
set_option maxRecDepth 100000 in
set_option maxHeartbeats 2000000 in
theorem p_rlike (c : Crt) (hm : wordMay c.speaker = true) (hs : setMay c.words = true) (hg : c.signer < 65536) (hk : 1 ≤ c.kind ∧ c.kind ≤ 7) : PCalls Try.prog 86 [vC c] (.bool (likeE c)) := by
  have hsz := wordMay_even hm
  have hsm := setMay_small hs
  have hne := setMay_ne hs
  obtain ⟨w, l, hw⟩ : ∃ w l, c.words = w :: l := by
    cases e : c.words with
    | nil => exact absurd e hne
    | cons w l => exact ⟨w, l, rfl⟩
  have hmw := (setMay_words hs).2 w (by rw [hw]; simp)
  have hwz := wordMay_size hmw
  refine pcalls_of (by simp [free.frees, free_vC]) rfl (acalls_of mixed J_ref08_like_ok (Nat.le_of_ble_eq_true rfl) ?_); simp only [J_ref08_like, vC, cC, hw, List.map_cons, List.length_cons, wk,if_true,if_false,forall_const,implies_true,ne_eq,eq_self,Nat.reduceEqDiff,Nat.reduceAdd,Nat.reduceMul,Nat.reduceSub,Nat.reduceLeDiff,Nat.reduceLT,Int.reduceEq,Int.reduceLT,Int.reduceLE,Int.reduceAdd,Int.reduceSub,Int.reduceMul,Int.reduceNeg,Int.reduceNe,reduceCtorEq,Int.reduceToNat,↓reduceIte]
  refine ⟨by omega, ?_⟩
  refine PCalls.use (p_ratoms w (by omega)) ?_; simp only [wk,if_true,if_false,forall_const,implies_true,ne_eq,eq_self,Nat.reduceEqDiff,Nat.reduceAdd,Nat.reduceMul,Nat.reduceSub,Nat.reduceLeDiff,Nat.reduceLT,Int.reduceEq,Int.reduceLT,Int.reduceLE,Int.reduceAdd,Int.reduceSub,Int.reduceMul,Int.reduceNeg,Int.reduceNe,reduceCtorEq,Int.reduceToNat,↓reduceIte]
  refine ⟨inR_of (by omega) (by omega), ⟨by omega, by omega⟩, ?_⟩
  have hd : (atomsL w (w.size / 2)).drop (((w.size / 2 : Nat) : Int) - 1).toNat = .int .u16 (atomAt w (w.size / 2 - 1)) :: (atomsL w (w.size / 2)).drop (w.size / 2 - 1 + 1) := by
    rw [show (((w.size / 2 : Nat) : Int) - 1).toNat = w.size / 2 - 1 by omega, atomsL_drop (by omega)]
  simp only [hd, wk,if_true,if_false,forall_const,implies_true,ne_eq,eq_self,Nat.reduceEqDiff,Nat.reduceAdd,Nat.reduceMul,Nat.reduceSub,Nat.reduceLeDiff,Nat.reduceLT,Int.reduceEq,Int.reduceLT,Int.reduceLE,Int.reduceAdd,Int.reduceSub,Int.reduceMul,Int.reduceNeg,Int.reduceNe,reduceCtorEq,Int.reduceToNat,↓reduceIte]
  refine PCalls.use (p_kind (atomAt w (w.size / 2 - 1)) (atomAt_lt _ _)) ?_; simp only [wk,if_true,if_false,forall_const,implies_true,ne_eq,eq_self,Nat.reduceEqDiff,Nat.reduceAdd,Nat.reduceMul,Nat.reduceSub,Nat.reduceLeDiff,Nat.reduceLT,Int.reduceEq,Int.reduceLT,Int.reduceLE,Int.reduceAdd,Int.reduceSub,Int.reduceMul,Int.reduceNeg,Int.reduceNe,reduceCtorEq,Int.reduceToNat,↓reduceIte]
  refine PCalls.use (p_single c.speaker (by omega)) ?_; simp only [wk,if_true,if_false,forall_const,implies_true,ne_eq,eq_self,Nat.reduceEqDiff,Nat.reduceAdd,Nat.reduceMul,Nat.reduceSub,Nat.reduceLeDiff,Nat.reduceLT,Int.reduceEq,Int.reduceLT,Int.reduceLE,Int.reduceAdd,Int.reduceSub,Int.reduceMul,Int.reduceNeg,Int.reduceNe,reduceCtorEq,Int.reduceToNat,↓reduceIte]
  have hmany : ¬ ((l.length + 1 : Nat) : Int) = 1 → c.kind ≠ 6 → c.kind ≠ 7 → AV.bool false = .bool (likeE c) := by
    intro h h6 h7
    cases l with
    | nil => exact absurd rfl h
    | cons x l => exact bool_eq (like_many hw h6 h7).symm
  have hone : ((l.length + 1 : Nat) : Int) = 1 → c.kind ≠ 6 → c.kind ≠ 7 → likeE c = likeOne c w := by
    intro h h6 h7
    cases l with
    | nil => unfold likeE; rw [if_neg h6, if_neg h7, hw]
    | cons x l => simp at h; omega
  refine ⟨fun k1 => ⟨fun h1 => ?_, fun h1 => hmany h1 (by omega) (by omega)⟩, fun k1 => ⟨fun k2 => ⟨fun h1 => ?_, fun h1 => hmany h1 (by omega) (by omega)⟩, fun k2 => ⟨fun k3 => ⟨fun h1 => ?_, fun h1 => hmany h1 (by omega) (by omega)⟩, fun k3 => ⟨fun k4 => ⟨fun h1 => ?_, fun h1 => hmany h1 (by omega) (by omega)⟩, fun k4 => ⟨fun k5 => ⟨fun h1 => ?_, fun h1 => hmany h1 (by omega) (by omega)⟩, fun k5 => ⟨fun k7 => ?_, fun k7 => ?_⟩⟩⟩⟩⟩⟩
  · rw [hone h1 (by omega) (by omega)]
    have e : likeOne c w = (decide (singleE c.speaker = 1) && (decide (w.size / 2 = 2) && (decide (kindAt w 0 = 3) && decide (kindAt w 1 = 5)))) := by unfold likeOne; rw [if_pos k1, alone_single (by omega), hasI_one, hasI_one]
    rw [e]
    refine ⟨fun q1 => ⟨fun q2 => ⟨by omega, ?_⟩, fun q2 => bool_eq ?_⟩, fun q1 => bool_eq ?_⟩
    · have h2 : w.size / 2 = 2 := by omega
      rw [h2, show atomsL w 2 = [.int .u16 (atomAt w 0), .int .u16 (atomAt w 1)] from rfl]
      simp only [wk,if_true,if_false,forall_const,implies_true,ne_eq,eq_self,Nat.reduceEqDiff,Nat.reduceAdd,Nat.reduceMul,Nat.reduceSub,Nat.reduceLeDiff,Nat.reduceLT,Int.reduceEq,Int.reduceLT,Int.reduceLE,Int.reduceAdd,Int.reduceSub,Int.reduceMul,Int.reduceNeg,Int.reduceNe,reduceCtorEq,Int.reduceToNat,↓reduceIte]
      refine PCalls.use (p_kind (atomAt w 0) (atomAt_lt _ _)) ?_; simp only [wk,if_true,if_false,forall_const,implies_true,ne_eq,eq_self,Nat.reduceEqDiff,Nat.reduceAdd,Nat.reduceMul,Nat.reduceSub,Nat.reduceLeDiff,Nat.reduceLT,Int.reduceEq,Int.reduceLT,Int.reduceLE,Int.reduceAdd,Int.reduceSub,Int.reduceMul,Int.reduceNeg,Int.reduceNe,reduceCtorEq,Int.reduceToNat,↓reduceIte]
      rw [decide_eq_true q1]
      refine ⟨fun q3 => bool_eq ?_, fun q3 => bool_eq ?_⟩
      · rw [decide_eq_true (show kindAt w 0 = 3 from q3)]; rfl
      · rw [decide_eq_false (show ¬ kindAt w 0 = 3 from q3)]; rfl
    · rw [decide_eq_false (show ¬ w.size / 2 = 2 by omega)]; simp
    · rw [decide_eq_false q1]; rfl
  · rw [hone h1 (by omega) (by omega)]
    have e : likeOne c w = (decide (singleE c.speaker = 1) && decide (w = atomW c.signer)) := by unfold likeOne; rw [if_neg k1, if_pos k2, alone_single (by omega)]
    rw [e]
    refine ⟨fun q1 => ⟨fun q2 => ⟨by omega, ?_⟩, fun q2 => bool_eq ?_⟩, fun q1 => bool_eq ?_⟩
    · have h2 : w.size / 2 = 1 := by omega
      rw [h2, show atomsL w 1 = [.int .u16 (atomAt w 0)] from rfl]
      simp only [wk,if_true,if_false,forall_const,implies_true,ne_eq,eq_self,Nat.reduceEqDiff,Nat.reduceAdd,Nat.reduceMul,Nat.reduceSub,Nat.reduceLeDiff,Nat.reduceLT,Int.reduceEq,Int.reduceLT,Int.reduceLE,Int.reduceAdd,Int.reduceSub,Int.reduceMul,Int.reduceNeg,Int.reduceNe,reduceCtorEq,Int.reduceToNat,↓reduceIte]
      rw [decide_eq_true q1, Bool.true_and]
      refine bool_eq (decide_eq_decide.2 ?_)
      rw [← one_is (by omega) hg]
      omega
    · rw [decide_eq_false (show ¬ w = atomW c.signer from fun h => q2 (by rw [h]; have : (atomW c.signer).size = 2 := rfl; omega)), Bool.and_false]
    · rw [decide_eq_false q1]; rfl
  · rw [hone h1 (by omega) (by omega)]
    unfold likeOne
    rw [if_neg k1, if_neg k2, if_pos k3, alone_single (by omega)]
  · rw [hone h1 (by omega) (by omega)]
    have e : likeOne c w = (decide (singleE c.speaker = 3) && aloneE w [4]) := by unfold likeOne; rw [if_neg k1, if_neg k2, if_neg k3, if_pos k4, alone_single (by omega)]
    rw [e]
    refine ⟨fun q1 => ⟨fun q2 => bool_eq ?_, fun q2 => bool_eq ?_⟩, fun q1 => bool_eq ?_⟩
    · have h2 : w.size / 2 = 1 := by omega
      rw [decide_eq_true q1]; unfold aloneE kindAt; rw [hasI_one, decide_eq_true h2, h2]; rfl
    · unfold aloneE; rw [decide_eq_false (show ¬ w.size / 2 = 1 by omega)]; simp
    · rw [decide_eq_false q1]; rfl
  · rw [hone h1 (by omega) (by omega)]
    have e : likeOne c w = ((decide (singleE c.speaker = 1) || decide (singleE c.speaker = 2)) && (decide (2 ≤ w.size / 2) && decide (kindAt w (w.size / 2 - 1) = 5))) := by
      unfold likeOne
      rw [if_neg k1, if_neg k2, if_neg k3, if_neg k4, if_pos k5, hasI_one, ← alone_single (k := 1) (by omega), ← alone_single (k := 2) (by omega)]
      congr 1
      unfold aloneE
      rw [hasI_one, hasI_one, ← Bool.and_or_distrib_left]
      congr 1
      simp [hasI]
    rw [e]
    refine ⟨fun q1 => ⟨fun q2 => ⟨fun q3 => bool_eq ?_, fun q3 => bool_eq ?_⟩, fun q2 => bool_eq ?_⟩, fun q1 => ⟨fun q3 => bool_eq ?_, fun q3 => bool_eq ?_⟩⟩
    · rw [decide_eq_true q2, decide_eq_true (show 2 ≤ w.size / 2 by omega), Bool.or_true]; rfl
    · rw [decide_eq_false (show ¬ 2 ≤ w.size / 2 by omega)]; simp
    · rw [decide_eq_false q1, decide_eq_false q2]; rfl
    · rw [decide_eq_true q1, decide_eq_true (show 2 ≤ w.size / 2 by omega), Bool.true_or]; rfl
    · rw [decide_eq_false (show ¬ 2 ≤ w.size / 2 by omega)]; simp
  · have hE : likeE c = delegE c := by unfold likeE; rw [if_neg (by omega), if_pos k7]
    rw [hE]
    refine PCalls.use (p_ratoms c.speaker (by omega)) ?_; simp only [wk,if_true,if_false,forall_const,implies_true,ne_eq,eq_self,Nat.reduceEqDiff,Nat.reduceAdd,Nat.reduceMul,Nat.reduceSub,Nat.reduceLeDiff,Nat.reduceLT,Int.reduceEq,Int.reduceLT,Int.reduceLE,Int.reduceAdd,Int.reduceSub,Int.reduceMul,Int.reduceNeg,Int.reduceNe,reduceCtorEq,Int.reduceToNat,↓reduceIte]
    refine ⟨fun h2 => bool_eq (by unfold delegE; rw [decide_eq_false (by omega)]; rfl), fun h2 => ?_⟩
    have hn : ((c.speaker.size / 2 : Nat) : Int).toNat = c.speaker.size / 2 := by omega
    rw [hn]
    have hta : List.take (c.speaker.size / 2 - 1) (List.drop 1 (atomsL c.speaker (c.speaker.size / 2))) = u16s ((atomNs c.speaker).drop 1) := by
      rw [List.take_of_length_le (by rw [List.length_drop, atomsL_len]; exact Nat.le_refl _)]
      unfold atomsL u16s atomNs
      simp only [List.map_drop, List.map_map]
      rfl
    have hlr : ((atomNs c.speaker).drop 1).length = c.speaker.size / 2 - 1 := by rw [List.length_drop, atomNs_len]
    have hof := p_rof (1 :: (atomNs c.speaker).drop 1) (by rw [List.length_cons, hlr]; omega) (by
      intro a ha
      rcases List.mem_cons.1 ha with rfl | ha
      · omega
      · exact atomNs_lt _ a (List.mem_of_mem_drop ha))
    rw [List.length_cons, hlr] at hof
    rw [hta, Nat.add_comm 1]
    refine ⟨⟨by omega, by omega, atomsL_len _ _⟩, ⟨by unfold u16s; rw [List.length_map, hlr], by omega, by omega⟩, _, hof, ⟨rfl, rfl⟩, ?_⟩
    rw [told_eq hsz.1 (by omega)]
    have hts := told_size (w := c.speaker) (by omega)
    have hr := p_rright [c.speaker, toldW c.speaker] (by simp) (by intro x hx; simp at hx; rcases hx with rfl | rfl <;> omega)
    have hq := p_requal c.words (nrm [c.speaker, toldW c.speaker]) (by omega)
    rw [deleg_eq hm hs (by omega)]
    rw [hw] at hq ⊢
    exact ⟨_, hr, _, hq, rfl⟩
  · exact bool_eq (by unfold likeE; rw [if_pos (by omega)])
end Go.Proofs.Ytaepikkaogfhbaa

/- The reference's Check. -/
namespace Go.Proofs.Ytaepikkaogfhbaa
set_option linter.unusedSimpArgs false
set_option linter.unusedVariables false
open Go.RowKit Go.Lib

set_option maxRecDepth 100000 in
set_option maxHeartbeats 2000000 in
theorem p_rcheck (c : Crt) (h : smallC c) : PCalls Try.prog 38 [vC c] (.int .i64 (checkE c)) := by
  obtain ⟨hg, hz, hl, hx⟩ := h
  refine pcalls_of (by simp [free.frees, free_vC]) rfl (acalls_of mixed J_ref08_Check_ok (Nat.le_of_ble_eq_true rfl) ?_); simp only [J_ref08_Check, vC, cC, wk,if_true,if_false,forall_const,implies_true,ne_eq,eq_self,Nat.reduceEqDiff,Nat.reduceAdd,Nat.reduceMul,Nat.reduceSub,Nat.reduceLeDiff,Nat.reduceLT,Int.reduceEq,Int.reduceLT,Int.reduceLE,Int.reduceAdd,Int.reduceSub,Int.reduceMul,Int.reduceNeg,Int.reduceNe,reduceCtorEq,Int.reduceToNat,↓reduceIte]
  have e1 : c.kind < 1 ∨ 7 < c.kind → AV.int .i64 1 = .int .i64 (checkE c) := fun h => int_eq (by unfold checkE; rw [if_pos h])
  have e2 : ¬ (c.kind < 1 ∨ 7 < c.kind) → ¬ (hasI [1] ((c.signer / 8192 : Nat) : Int) = true ∧ wordMay c.speaker = true ∧ setMay c.words = true ∧ numL [c.since, c.till, c.serial] = true) → AV.int .i64 2 = .int .i64 (checkE c) := fun h h' => int_eq (by unfold checkE; rw [if_neg h, if_neg h'])
  refine ⟨fun k1 => ⟨fun k2 => e1 (.inr k2), fun k2 => ?_⟩, fun k1 => e1 (.inl k1)⟩
  have hk : ¬ (c.kind < 1 ∨ 7 < c.kind) := by omega
  refine PCalls.use (p_kind c.signer hg) ?_; simp only [wk,if_true,if_false,forall_const,implies_true,ne_eq,eq_self,Nat.reduceEqDiff,Nat.reduceAdd,Nat.reduceMul,Nat.reduceSub,Nat.reduceLeDiff,Nat.reduceLT,Int.reduceEq,Int.reduceLT,Int.reduceLE,Int.reduceAdd,Int.reduceSub,Int.reduceMul,Int.reduceNeg,Int.reduceNe,reduceCtorEq,Int.reduceToNat,↓reduceIte]
  refine ⟨fun a1 => ?_, fun a1 => e2 hk (fun h => a1 (by have := h.1; rw [hasI_one, decide_eq_true_eq] at this; exact this))⟩
  have b1 : hasI [1] ((c.signer / 8192 : Nat) : Int) = true := by rw [hasI_one, decide_eq_true a1]
  refine PCalls.use (p_rwmay c.speaker (by omega)) ?_; simp only [wk,if_true,if_false,forall_const,implies_true,ne_eq,eq_self,Nat.reduceEqDiff,Nat.reduceAdd,Nat.reduceMul,Nat.reduceSub,Nat.reduceLeDiff,Nat.reduceLT,Int.reduceEq,Int.reduceLT,Int.reduceLE,Int.reduceAdd,Int.reduceSub,Int.reduceMul,Int.reduceNeg,Int.reduceNe,reduceCtorEq,Int.reduceToNat,↓reduceIte]
  refine ⟨fun a2 => ?_, fun a2 => e2 hk (fun h => by rw [a2] at h; exact absurd h.2.1 (by simp))⟩
  refine PCalls.use (p_rsmay c.words (by omega) (fun x q => by have := hx x q; omega)) ?_; simp only [wk,if_true,if_false,forall_const,implies_true,ne_eq,eq_self,Nat.reduceEqDiff,Nat.reduceAdd,Nat.reduceMul,Nat.reduceSub,Nat.reduceLeDiff,Nat.reduceLT,Int.reduceEq,Int.reduceLT,Int.reduceLE,Int.reduceAdd,Int.reduceSub,Int.reduceMul,Int.reduceNeg,Int.reduceNe,reduceCtorEq,Int.reduceToNat,↓reduceIte]
  refine ⟨fun a3 => ?_, fun a3 => e2 hk (fun h => by rw [a3] at h; exact absurd h.2.2.1 (by simp))⟩
  have hnum : numL [c.since, c.till, c.serial] = (decide (0 ≤ c.since ∧ c.since ≤ 4611686018427387904) && (decide (0 ≤ c.till ∧ c.till ≤ 4611686018427387904) && decide (0 ≤ c.serial ∧ c.serial ≤ 4611686018427387904))) := by simp [numL, Bool.decide_and]
  refine PCalls.use (p_rcnum c.since) ?_; simp only [wk,if_true,if_false,forall_const,implies_true,ne_eq,eq_self,Nat.reduceEqDiff,Nat.reduceAdd,Nat.reduceMul,Nat.reduceSub,Nat.reduceLeDiff,Nat.reduceLT,Int.reduceEq,Int.reduceLT,Int.reduceLE,Int.reduceAdd,Int.reduceSub,Int.reduceMul,Int.reduceNeg,Int.reduceNe,reduceCtorEq,Int.reduceToNat,↓reduceIte]
  refine ⟨fun b2 => ?_, fun b2 => e2 hk (fun h => by have := h.2.2.2; rw [hnum, decide_eq_false b2] at this; cases this)⟩
  refine PCalls.use (p_rcnum c.till) ?_; simp only [wk,if_true,if_false,forall_const,implies_true,ne_eq,eq_self,Nat.reduceEqDiff,Nat.reduceAdd,Nat.reduceMul,Nat.reduceSub,Nat.reduceLeDiff,Nat.reduceLT,Int.reduceEq,Int.reduceLT,Int.reduceLE,Int.reduceAdd,Int.reduceSub,Int.reduceMul,Int.reduceNeg,Int.reduceNe,reduceCtorEq,Int.reduceToNat,↓reduceIte]
  refine ⟨fun b3 => ?_, fun b3 => e2 hk (fun h => by have := h.2.2.2; rw [hnum, decide_eq_false b3, Bool.false_and, Bool.and_false] at this; cases this)⟩
  refine PCalls.use (p_rcnum c.serial) ?_; simp only [wk,if_true,if_false,forall_const,implies_true,ne_eq,eq_self,Nat.reduceEqDiff,Nat.reduceAdd,Nat.reduceMul,Nat.reduceSub,Nat.reduceLeDiff,Nat.reduceLT,Int.reduceEq,Int.reduceLT,Int.reduceLE,Int.reduceAdd,Int.reduceSub,Int.reduceMul,Int.reduceNeg,Int.reduceNe,reduceCtorEq,Int.reduceToNat,↓reduceIte]
  refine ⟨fun b4 => e2 hk (fun h => by have := h.2.2.2; rw [hnum, decide_eq_false b4, Bool.and_false, Bool.and_false] at this; cases this), fun b4 => ?_⟩
  have a4 : numL [c.since, c.till, c.serial] = true := by rw [hnum, decide_eq_true b2, decide_eq_true b3, decide_eq_true b4]; rfl
  have e3 : checkE c = (if c.till < c.since then 5 else if c.words.any (fun w => decide (w.size / 2 < c.speaker.size / 2)) = true then 4 else if likeE c = true then 0 else 13) := by
    unfold checkE; rw [if_neg hk, if_pos ⟨b1, a2, a3, a4⟩]
  refine ⟨fun a5 => int_eq (by rw [e3, if_pos a5]), fun a5 => ?_⟩
  rw [if_neg a5] at e3
  have hsz := wordMay_even a2
  refine W_loop (fun n fr h => ∃ i : Nat, i ≤ c.words.length ∧ n = c.words.length - i ∧ h = [some (false, cC c)] ∧ fr = [(1, .ptr 0 0), (3, .int .i64 i)] ∧ ∀ w ∈ c.words.take i, ¬ w.size / 2 < c.speaker.size / 2) c.words.length ⟨0, by omega, by omega, rfl, rfl, by simp⟩ ?_
  rintro n fr h ⟨i, hi, rfl, rfl, rfl, hall⟩
  simp only [J_ref08_Check_j2, cC, wk,if_true,if_false,forall_const,implies_true,ne_eq,eq_self,Nat.reduceEqDiff,Nat.reduceAdd,Nat.reduceMul,Nat.reduceSub,Nat.reduceLeDiff,Nat.reduceLT,Int.reduceEq,Int.reduceLT,Int.reduceLE,Int.reduceAdd,Int.reduceSub,Int.reduceMul,Int.reduceNeg,Int.reduceNe,reduceCtorEq,Int.reduceToNat,↓reduceIte]
  refine ⟨fun hlt => ?_, fun hge => ?_⟩
  · have hil : i < c.words.length := by omega
    have hd : (c.words.map AV.str).drop (i : Int).toNat = .str c.words[i] :: (c.words.map AV.str).drop (i + 1) := by rw [show (i : Int).toNat = i by omega, drop_str hil]
    have z := wordMay_even ((setMay_words a3).2 _ (List.getElem_mem hil))
    refine ⟨⟨by omega, by omega⟩, ?_⟩
    simp only [hd, wk,if_true,if_false,forall_const,implies_true,ne_eq,eq_self,Nat.reduceEqDiff,Nat.reduceAdd,Nat.reduceMul,Nat.reduceSub,Nat.reduceLeDiff,Nat.reduceLT,Int.reduceEq,Int.reduceLT,Int.reduceLE,Int.reduceAdd,Int.reduceSub,Int.reduceMul,Int.reduceNeg,Int.reduceNe,reduceCtorEq,Int.reduceToNat,↓reduceIte]
    refine ⟨fun h4 => int_eq ?_, fun h4 => ⟨inR_of (by omega) (by omega), c.words.length - (i + 1), by omega, i + 1, by omega, rfl, rfl, fun w hw => ?_⟩⟩
    · rw [e3, if_pos]
      rw [List.any_eq_true]
      exact ⟨_, List.getElem_mem hil, by simp; omega⟩
    · rcases (take_mem_succ hil).1 hw with h | h
      · exact hall w h
      · subst h; omega
  · rw [List.take_of_length_le (by omega)] at hall
    have e4 : ¬ (c.words.any (fun w => decide (w.size / 2 < c.speaker.size / 2)) = true) := by
      rw [List.any_eq_true]
      rintro ⟨w, hw, h1⟩
      simp only [decide_eq_true_eq] at h1
      exact hall w hw h1
    rw [if_neg e4] at e3
    simp only [J_ref08_Check_j1, wk,if_true,if_false,forall_const,implies_true,ne_eq,eq_self,Nat.reduceEqDiff,Nat.reduceAdd,Nat.reduceMul,Nat.reduceSub,Nat.reduceLeDiff,Nat.reduceLT,Int.reduceEq,Int.reduceLT,Int.reduceLE,Int.reduceAdd,Int.reduceSub,Int.reduceMul,Int.reduceNeg,Int.reduceNe,reduceCtorEq,Int.reduceToNat,↓reduceIte]
    have hp := p_rlike c a2 a3 hg ⟨by omega, by omega⟩
    unfold vC cC at hp
    refine PCalls.use (hp) ?_; simp only [wk,if_true,if_false,forall_const,implies_true,ne_eq,eq_self,Nat.reduceEqDiff,Nat.reduceAdd,Nat.reduceMul,Nat.reduceSub,Nat.reduceLeDiff,Nat.reduceLT,Int.reduceEq,Int.reduceLT,Int.reduceLE,Int.reduceAdd,Int.reduceSub,Int.reduceMul,Int.reduceNeg,Int.reduceNe,reduceCtorEq,Int.reduceToNat,↓reduceIte]
    refine ⟨fun h0 => int_eq ?_, fun h0 => int_eq ?_⟩
    · rw [e3, if_neg (by rw [h0]; simp)]
    · rw [e3, if_pos h0]
end Go.Proofs.Ytaepikkaogfhbaa

/- Encode of certificates, over the abstract code. -/
namespace Go.Proofs.Ytaepikkaogfhbaa
set_option linter.unusedSimpArgs false
set_option linter.unusedVariables false
open Go.RowKit Go.Lib

def encBytes (c : Crt) : List UInt8 := num c.kind.toNat ++ (num c.signer ++ (wordBytes c.speaker ++ (setBytes c.words ++ (num c.since.toNat ++ (num (c.till - c.since).toNat ++ num c.serial.toNat)))))
def encV (c : Crt) : AV := if checkE c = 0 then .tup [.str ⟨(encBytes c).toArray⟩, .int .i64 0] else .tup [.str ⟨#[]⟩, .int .i64 (checkE c)]
theorem free_encV (c : Crt) : free (encV c) = true := by unfold encV; split <;> rfl
structure Good (c : Crt) : Prop where
  kind : 1 ≤ c.kind ∧ c.kind ≤ 7
  signer : c.signer / 8192 = 1
  speaker : wordMay c.speaker = true
  words : setMay c.words = true
  since : 0 ≤ c.since ∧ c.since ≤ 4611686018427387904
  till : 0 ≤ c.till ∧ c.till ≤ 4611686018427387904
  serial : 0 ≤ c.serial ∧ c.serial ≤ 4611686018427387904
  order : c.since ≤ c.till
  short : ∀ w ∈ c.words, c.speaker.size / 2 ≤ w.size / 2
  like : likeE c = true
theorem good_of {c : Crt} (h : checkE c = 0) : Good c := by
  unfold checkE at h
  split at h
  · simp at h
  · next h1 =>
    split at h
    · next h2 =>
      obtain ⟨a1, a2, a3, a4⟩ := h2
      split at h
      · simp at h
      · next h3 =>
        split at h
        · simp at h
        · next h4 =>
          split at h
          · next h5 =>
            simp only [numL, List.all_cons, List.all_nil, Bool.and_true, Bool.and_eq_true, decide_eq_true_eq] at a4
            refine ⟨by omega, ?_, a2, a3, a4.1, a4.2.1, a4.2.2, by omega, fun w hw => ?_, h5⟩
            · rw [hasI_one] at a1
              simp only [decide_eq_true_eq] at a1
              omega
            · have h4' : ¬ c.words.any (fun w => decide (w.size / 2 < c.speaker.size / 2)) = true := h4
              rw [List.any_eq_true] at h4'
              apply Nat.le_of_not_lt
              intro hlt
              exact h4' ⟨w, hw, by simpa using hlt⟩
          · simp at h
    · simp at h
theorem okNum_of {z : Int} (h0 : 0 ≤ z) (h1 : z ≤ 4611686018427387904) : okNum z = true := by simp [okNum, h0, h1]
theorem wordMay_le {x : ByteArray} (h : wordMay x = true) : x.size ≤ 16 := by
  have := wordMay_size h; omega
set_option maxRecDepth 100000 in
set_option maxHeartbeats 2000000 in
theorem p_cenc (c : Crt) (h : smallC c) : PCalls Try.prog 35 [vC c] (encV c) := by
  refine pcalls_of (by simp [free.frees, free_vC]) (free_encV c) (acalls_of mixed J_cert_Encode_ok (Nat.le_of_ble_eq_true rfl) ?_); simp only [J_cert_Encode, vC, cC, wk,if_true,if_false,forall_const,implies_true,ne_eq,eq_self,Nat.reduceEqDiff,Nat.reduceAdd,Nat.reduceMul,Nat.reduceSub,Nat.reduceLeDiff,Nat.reduceLT,Int.reduceEq,Int.reduceLT,Int.reduceLE,Int.reduceAdd,Int.reduceSub,Int.reduceMul,Int.reduceNeg,Int.reduceNe,reduceCtorEq,Int.reduceToNat,↓reduceIte]
  refine PCalls.use (p_check c h) ?_; simp only [wk,if_true,if_false,forall_const,implies_true,ne_eq,eq_self,Nat.reduceEqDiff,Nat.reduceAdd,Nat.reduceMul,Nat.reduceSub,Nat.reduceLeDiff,Nat.reduceLT,Int.reduceEq,Int.reduceLT,Int.reduceLE,Int.reduceAdd,Int.reduceSub,Int.reduceMul,Int.reduceNeg,Int.reduceNe,reduceCtorEq,Int.reduceToNat,↓reduceIte]
  refine ⟨fun he => ?_, fun he => ?_⟩
  · unfold encV; rw [if_neg he]
  · have g := good_of he
    obtain ⟨w16, ws⟩ := setMay_small g.words
    have wl := wordMay_le g.speaker
    have ws' : ∀ x ∈ c.words, x.size ≤ 1000 := fun x hx => by have := ws x hx; omega
    have l1 : (num c.kind.toNat).length ≤ 9 := (num_len9 (by have := g.kind; omega)).2
    have l2 : (num c.signer).length ≤ 9 := (num_len9 (by have := h.1; omega)).2
    have l3 : (wordBytes c.speaker).length ≤ 17 := by simp [wordBytes]; omega
    have l4 : (setBytes c.words).length ≤ 1002000 := setBytes_len c.words (by omega) ws'
    have l5 : (num c.since.toNat).length ≤ 9 := (num_len9 (by have := g.since; omega)).2
    have l6 : (num (c.till - c.since).toNat).length ≤ 9 := (num_len9 (by have := g.since; have := g.till; omega)).2
    have hw : IntKind.i64.wrap (c.signer : Int) = c.signer := wrap_small (by omega) (by have := h.1; omega)
    have s1 := @wri_yes (num c.kind.toNat) []
    refine ACalls.use (a_onum (s := (false, [])) c.kind rfl (by simp)) ?_; rintro _ _ ⟨rfl, rfl⟩; simp only [wk,if_true,if_false,forall_const,implies_true,ne_eq,eq_self,Nat.reduceEqDiff,Nat.reduceAdd,Nat.reduceMul,Nat.reduceSub,Nat.reduceLeDiff,Nat.reduceLT,Int.reduceEq,Int.reduceLT,Int.reduceLE,Int.reduceAdd,Int.reduceSub,Int.reduceMul,Int.reduceNeg,Int.reduceNe,reduceCtorEq,Int.reduceToNat,↓reduceIte]
    rw [okNum_of (by have := g.kind; omega) (by have := g.kind; omega)]
    simp only [wri_yes, List.nil_append, hw, wk,if_true,if_false,forall_const,implies_true,ne_eq,eq_self,Nat.reduceEqDiff,Nat.reduceAdd,Nat.reduceMul,Nat.reduceSub,Nat.reduceLeDiff,Nat.reduceLT,Int.reduceEq,Int.reduceLT,Int.reduceLE,Int.reduceAdd,Int.reduceSub,Int.reduceMul,Int.reduceNeg,Int.reduceNe,reduceCtorEq,Int.reduceToNat,↓reduceIte]
    refine ACalls.use (a_onum (s := (false, num c.kind.toNat)) c.signer rfl (by simp; omega)) ?_; rintro _ _ ⟨rfl, rfl⟩; simp only [wk,if_true,if_false,forall_const,implies_true,ne_eq,eq_self,Nat.reduceEqDiff,Nat.reduceAdd,Nat.reduceMul,Nat.reduceSub,Nat.reduceLeDiff,Nat.reduceLT,Int.reduceEq,Int.reduceLT,Int.reduceLE,Int.reduceAdd,Int.reduceSub,Int.reduceMul,Int.reduceNeg,Int.reduceNe,reduceCtorEq,Int.reduceToNat,↓reduceIte]
    rw [okNum_of (by omega) (by have := h.1; omega)]
    simp only [wri_yes, Int.toNat_natCast, wk,if_true,if_false,forall_const,implies_true,ne_eq,eq_self,Nat.reduceEqDiff,Nat.reduceAdd,Nat.reduceMul,Nat.reduceSub,Nat.reduceLeDiff,Nat.reduceLT,Int.reduceEq,Int.reduceLT,Int.reduceLE,Int.reduceAdd,Int.reduceSub,Int.reduceMul,Int.reduceNeg,Int.reduceNe,reduceCtorEq,Int.reduceToNat,↓reduceIte]
    refine ACalls.use (a_oword (s := (false, num c.kind.toNat ++ num c.signer)) c.speaker rfl (by simp; omega) (by omega)) ?_; rintro _ _ ⟨rfl, rfl⟩; simp only [wk,if_true,if_false,forall_const,implies_true,ne_eq,eq_self,Nat.reduceEqDiff,Nat.reduceAdd,Nat.reduceMul,Nat.reduceSub,Nat.reduceLeDiff,Nat.reduceLT,Int.reduceEq,Int.reduceLT,Int.reduceLE,Int.reduceAdd,Int.reduceSub,Int.reduceMul,Int.reduceNeg,Int.reduceNe,reduceCtorEq,Int.reduceToNat,↓reduceIte]
    simp only [g.speaker, wri_yes, wk,if_true,if_false,forall_const,implies_true,ne_eq,eq_self,Nat.reduceEqDiff,Nat.reduceAdd,Nat.reduceMul,Nat.reduceSub,Nat.reduceLeDiff,Nat.reduceLT,Int.reduceEq,Int.reduceLT,Int.reduceLE,Int.reduceAdd,Int.reduceSub,Int.reduceMul,Int.reduceNeg,Int.reduceNe,reduceCtorEq,Int.reduceToNat,↓reduceIte]
    refine ACalls.use (a_oset (s := (false, num c.kind.toNat ++ num c.signer ++ wordBytes c.speaker)) c.words rfl (by simp; omega) (by omega) (fun x hx => by have := ws x hx; omega)) ?_; rintro _ _ ⟨rfl, rfl⟩; simp only [wk,if_true,if_false,forall_const,implies_true,ne_eq,eq_self,Nat.reduceEqDiff,Nat.reduceAdd,Nat.reduceMul,Nat.reduceSub,Nat.reduceLeDiff,Nat.reduceLT,Int.reduceEq,Int.reduceLT,Int.reduceLE,Int.reduceAdd,Int.reduceSub,Int.reduceMul,Int.reduceNeg,Int.reduceNe,reduceCtorEq,Int.reduceToNat,↓reduceIte]
    simp only [g.words, wri_yes, wk,if_true,if_false,forall_const,implies_true,ne_eq,eq_self,Nat.reduceEqDiff,Nat.reduceAdd,Nat.reduceMul,Nat.reduceSub,Nat.reduceLeDiff,Nat.reduceLT,Int.reduceEq,Int.reduceLT,Int.reduceLE,Int.reduceAdd,Int.reduceSub,Int.reduceMul,Int.reduceNeg,Int.reduceNe,reduceCtorEq,Int.reduceToNat,↓reduceIte]
    refine ACalls.use (a_onum (s := (false, num c.kind.toNat ++ num c.signer ++ wordBytes c.speaker ++ setBytes c.words)) c.since rfl (by simp; omega)) ?_; rintro _ _ ⟨rfl, rfl⟩; simp only [wk,if_true,if_false,forall_const,implies_true,ne_eq,eq_self,Nat.reduceEqDiff,Nat.reduceAdd,Nat.reduceMul,Nat.reduceSub,Nat.reduceLeDiff,Nat.reduceLT,Int.reduceEq,Int.reduceLT,Int.reduceLE,Int.reduceAdd,Int.reduceSub,Int.reduceMul,Int.reduceNeg,Int.reduceNe,reduceCtorEq,Int.reduceToNat,↓reduceIte]
    rw [okNum_of g.since.1 g.since.2]
    simp only [wri_yes, wk,if_true,if_false,forall_const,implies_true,ne_eq,eq_self,Nat.reduceEqDiff,Nat.reduceAdd,Nat.reduceMul,Nat.reduceSub,Nat.reduceLeDiff,Nat.reduceLT,Int.reduceEq,Int.reduceLT,Int.reduceLE,Int.reduceAdd,Int.reduceSub,Int.reduceMul,Int.reduceNeg,Int.reduceNe,reduceCtorEq,Int.reduceToNat,↓reduceIte]
    refine ⟨inR_of (by have := g.since; have := g.till; omega) (by have := g.since; have := g.till; omega), ?_⟩
    refine ACalls.use (a_onum (s := (false, num c.kind.toNat ++ num c.signer ++ wordBytes c.speaker ++ setBytes c.words ++ num c.since.toNat)) (c.till - c.since) rfl (by simp; omega)) ?_; rintro _ _ ⟨rfl, rfl⟩; simp only [wk,if_true,if_false,forall_const,implies_true,ne_eq,eq_self,Nat.reduceEqDiff,Nat.reduceAdd,Nat.reduceMul,Nat.reduceSub,Nat.reduceLeDiff,Nat.reduceLT,Int.reduceEq,Int.reduceLT,Int.reduceLE,Int.reduceAdd,Int.reduceSub,Int.reduceMul,Int.reduceNeg,Int.reduceNe,reduceCtorEq,Int.reduceToNat,↓reduceIte]
    rw [okNum_of (by have := g.order; omega) (by have := g.since; have := g.till; omega)]
    simp only [wri_yes, wk,if_true,if_false,forall_const,implies_true,ne_eq,eq_self,Nat.reduceEqDiff,Nat.reduceAdd,Nat.reduceMul,Nat.reduceSub,Nat.reduceLeDiff,Nat.reduceLT,Int.reduceEq,Int.reduceLT,Int.reduceLE,Int.reduceAdd,Int.reduceSub,Int.reduceMul,Int.reduceNeg,Int.reduceNe,reduceCtorEq,Int.reduceToNat,↓reduceIte]
    refine ACalls.use (a_onum (s := (false, num c.kind.toNat ++ num c.signer ++ wordBytes c.speaker ++ setBytes c.words ++ num c.since.toNat ++ num (c.till - c.since).toNat)) c.serial rfl (by simp; omega)) ?_; rintro _ _ ⟨rfl, rfl⟩; simp only [wk,if_true,if_false,forall_const,implies_true,ne_eq,eq_self,Nat.reduceEqDiff,Nat.reduceAdd,Nat.reduceMul,Nat.reduceSub,Nat.reduceLeDiff,Nat.reduceLT,Int.reduceEq,Int.reduceLT,Int.reduceLE,Int.reduceAdd,Int.reduceSub,Int.reduceMul,Int.reduceNeg,Int.reduceNe,reduceCtorEq,Int.reduceToNat,↓reduceIte]
    rw [okNum_of g.serial.1 g.serial.2]
    simp only [wri_yes, wk,if_true,if_false,forall_const,implies_true,ne_eq,eq_self,Nat.reduceEqDiff,Nat.reduceAdd,Nat.reduceMul,Nat.reduceSub,Nat.reduceLeDiff,Nat.reduceLT,Int.reduceEq,Int.reduceLT,Int.reduceLE,Int.reduceAdd,Int.reduceSub,Int.reduceMul,Int.reduceNeg,Int.reduceNe,reduceCtorEq,Int.reduceToNat,↓reduceIte]
    refine ACalls.use (a_odone (s := (false, num c.kind.toNat ++ num c.signer ++ wordBytes c.speaker ++ setBytes c.words ++ num c.since.toNat ++ num (c.till - c.since).toNat ++ num c.serial.toNat)) rfl) ?_; rintro _ _ ⟨rfl, rfl⟩; simp only [wk,if_true,if_false,forall_const,implies_true,ne_eq,eq_self,Nat.reduceEqDiff,Nat.reduceAdd,Nat.reduceMul,Nat.reduceSub,Nat.reduceLeDiff,Nat.reduceLT,Int.reduceEq,Int.reduceLT,Int.reduceLE,Int.reduceAdd,Int.reduceSub,Int.reduceMul,Int.reduceNeg,Int.reduceNe,reduceCtorEq,Int.reduceToNat,↓reduceIte]
    simp only [told, eI, wk,if_true,if_false,forall_const,implies_true,ne_eq,eq_self,Nat.reduceEqDiff,Nat.reduceAdd,Nat.reduceMul,Nat.reduceSub,Nat.reduceLeDiff,Nat.reduceLT,Int.reduceEq,Int.reduceLT,Int.reduceLE,Int.reduceAdd,Int.reduceSub,Int.reduceMul,Int.reduceNeg,Int.reduceNe,reduceCtorEq,Int.reduceToNat,↓reduceIte]
    unfold encV; rw [if_pos he]
    simp [encBytes, List.append_assoc]
end Go.Proofs.Ytaepikkaogfhbaa

/- Decode of certificates: what is read. -/
namespace Go.Proofs.Ytaepikkaogfhbaa
set_option linter.unusedSimpArgs false
set_option linter.unusedVariables false
open Go.RowKit Go.Lib

def nI : Option (Nat × Nat) → Nat
  | some (n, _) => n
  | none => 0
def nS : Option (ByteArray × Nat) → ByteArray
  | some (s, _) => s
  | none => ⟨#[]⟩
def nL : Option (List ByteArray × Nat) → List ByteArray
  | some (l, _) => l
  | none => []
theorem vI_n (r : Option (Nat × Nat)) : vI r = .int .i64 (nI r) := by cases r <;> rfl
theorem vS_n (r : Option (ByteArray × Nat)) : vS r = .str (nS r) := by cases r <;> rfl
/-- what is read where nothing was wrong yet -/
def rN (S : ByteArray) (m : Int) (s : Bool × Nat) : Option (Nat × Nat) := if s.1 = true then none else rNum S m s.2
def rW (S : ByteArray) (s : Bool × Nat) : Option (ByteArray × Nat) := if s.1 = true then none else rWord S s.2
def rL (S : ByteArray) (s : Bool × Nat) : Option (List ByteArray × Nat) := if s.1 = true then none else rSet S s.2
theorem rN_eq (S : ByteArray) (m : Int) (s : Bool × Nat) : (if s.1 = true then none else rNum S m s.2) = rN S m s := rfl
theorem rW_eq (S : ByteArray) (s : Bool × Nat) : (if s.1 = true then none else rWord S s.2) = rW S s := rfl
theorem rL_eq (S : ByteArray) (s : Bool × Nat) : (if s.1 = true then none else rSet S s.2) = rL S s := rfl
theorem rN_le {S : ByteArray} {m : Int} {s : Bool × Nat} {q : Nat} (hs : s.2 ≤ S.size) (hq : q ≤ S.size) : (stO (rN S m s) q).2 ≤ S.size := by
  unfold rN
  split
  · exact hq
  · cases h : rNum S m s.2 with
    | none => exact hq
    | some x => obtain ⟨n, p⟩ := x; exact (rNum_le h hs).2.1
theorem rW_le {S : ByteArray} {s : Bool × Nat} {q : Nat} (hq : q ≤ S.size) : (stO (rW S s) q).2 ≤ S.size := by
  unfold rW
  split
  · exact hq
  · cases h : rWord S s.2 with
    | none => exact hq
    | some x => obtain ⟨n, p⟩ := x; exact (rWord_le h).2.1
theorem rL_le {S : ByteArray} {s : Bool × Nat} {q : Nat} (hq : q ≤ S.size) : (stO (rL S s) q).2 ≤ S.size := by
  unfold rL
  split
  · exact hq
  · cases h : rSet S s.2 with
    | none => exact hq
    | some x => obtain ⟨n, p⟩ := x; exact (upTo_set h).2.2.2
theorem nI_le {S : ByteArray} {m : Int} {s : Bool × Nat} (hs : s.2 ≤ S.size) : nI (rN S m s) ≤ 4611686018427387904 ∧ (0 ≤ m → (nI (rN S m s) : Int) ≤ m) := by
  unfold rN
  split
  · exact ⟨by simp [nI], fun h => by simpa [nI] using h⟩
  · cases h : rNum S m s.2 with
    | none => exact ⟨by simp [nI], fun h => by simpa [nI] using h⟩
    | some x => obtain ⟨n, p⟩ := x; obtain ⟨_, _, h3, h4⟩ := rNum_le h hs; exact ⟨h3, fun _ => h4⟩
/-- which certificate bytes are -/
def decP (S : ByteArray) (m2 : Int) (m6 : Nat → Int) (tl : Nat → Nat → Int) : Option Crt :=
  match rNum S 7 0 with
  | none => none
  | some (k, p1) => match rNum S m2 p1 with
  | none => none
  | some (g, p2) => match rWord S p2 with
  | none => none
  | some (w, p3) => match rSet S p3 with
  | none => none
  | some (l, p4) => match rNum S 4611686018427387904 p4 with
  | none => none
  | some (f, p5) => match rNum S (m6 f) p5 with
  | none => none
  | some (d, p6) => match rNum S 4611686018427387904 p6 with
  | none => none
  | some (n, p7) => if p7 < S.size then none else if checkE ⟨k, g, w, l, f, tl f d, n⟩ = 0 then some ⟨k, g, w, l, f, tl f d, n⟩ else none
def decE (S : ByteArray) : Option Crt := decP S 49151 (fun f => 4611686018427387904 - f) (fun f d => f + d)
theorem decP_some {S : ByteArray} {m2 : Int} {m6 : Nat → Int} {tl : Nat → Nat → Int} {c : Crt} : decP S m2 m6 tl = some c ↔ ∃ k p1 g p2 w p3 l p4 f p5 d p6 n p7, rNum S 7 0 = some (k, p1) ∧ rNum S m2 p1 = some (g, p2) ∧ rWord S p2 = some (w, p3) ∧ rSet S p3 = some (l, p4) ∧ rNum S 4611686018427387904 p4 = some (f, p5) ∧
    rNum S (m6 f) p5 = some (d, p6) ∧ rNum S 4611686018427387904 p6 = some (n, p7) ∧ ¬ p7 < S.size ∧ checkE c = 0 ∧ c = ⟨k, g, w, l, f, tl f d, n⟩ := by
  constructor
  · intro h
    unfold decP at h
    split at h
    · cases h
    · next k p1 e1 =>
    split at h
    · cases h
    · next g p2 e2 =>
    split at h
    · cases h
    · next w p3 e3 =>
    split at h
    · cases h
    · next l p4 e4 =>
    split at h
    · cases h
    · next f p5 e5 =>
    split at h
    · cases h
    · next d p6 e6 =>
    split at h
    · cases h
    · next n p7 e7 =>
    split at h
    · cases h
    · next hp =>
    split at h
    · next hc =>
      simp only [Option.some.injEq] at h
      subst h
      exact ⟨k, p1, g, p2, w, p3, l, p4, f, p5, d, p6, n, p7, e1, e2, e3, e4, e5, e6, e7, hp, hc, rfl⟩
    · cases h
  · rintro ⟨k, p1, g, p2, w, p3, l, p4, f, p5, d, p6, n, p7, e1, e2, e3, e4, e5, e6, e7, hp, hc, rfl⟩
    simp only [decP, e1, e2, e3, e4, e5, e6, e7]
    rw [if_neg hp, if_pos hc]
def zeroC : Crt := ⟨0, 0, ⟨#[]⟩, [], 0, 0, 0⟩
def decV (r : Option Crt) : AV :=
  match r with
  | some c => .tup [vC c, .int .i64 0]
  | none => .tup [vC zeroC, .int .i64 2]
theorem free_decV (r : Option Crt) : free (decV r) = true := by cases r <;> simp [decV, free, free.frees, free_vC]
/-- the chain of readings -/
theorem dec_chain {S : ByteArray} {m2 : Int} {m6 : Nat → Int} {tl : Nat → Nat → Int} {r1 r2 r5 r6 r7 : Option (Nat × Nat)} {r3 : Option (ByteArray × Nat)} {r4 : Option (List ByteArray × Nat)} {q1 q2 q3 q4 q5 q6 q7 : Nat}
    (e1 : r1 = rN S 7 (false, 0)) (e2 : r2 = rN S m2 (stO r1 q1)) (e3 : r3 = rW S (stO r2 q2)) (e4 : r4 = rL S (stO r3 q3)) (e5 : r5 = rN S 4611686018427387904 (stO r4 q4))
    (e6 : r6 = rN S (m6 (nI r5)) (stO r5 q5)) (e7 : r7 = rN S 4611686018427387904 (stO r6 q6)) :
    ((stO r7 q7).1 = true → decP S m2 m6 tl = none) ∧ ((stO r7 q7).1 = false → (∃ p, r4 = some (nL r4, p)) ∧ decP S m2 m6 tl = if (stO r7 q7).2 < S.size then none else if checkE ⟨nI r1, nI r2, nS r3, nL r4, nI r5, tl (nI r5) (nI r6), nI r7⟩ = 0 then some ⟨nI r1, nI r2, nS r3, nL r4, nI r5, tl (nI r5) (nI r6), nI r7⟩ else none) := by
  have bad : ∀ {α : Type} (q : Nat), stO (none : Option (α × Nat)) q = (true, q) := fun _ => rfl
  have ok : ∀ {α : Type} (x : α) (p q : Nat), stO (some (x, p)) q = (false, p) := fun _ _ _ => rfl
  have b1 : ∀ m q, rN S m (true, q) = none := fun _ _ => rfl
  have b2 : ∀ q, rW S (true, q) = none := fun _ => rfl
  have b3 : ∀ q, rL S (true, q) = none := fun _ => rfl
  have g1 : ∀ m q, rN S m (false, q) = rNum S m q := fun _ _ => rfl
  have g2 : ∀ q, rW S (false, q) = rWord S q := fun _ => rfl
  have g3 : ∀ q, rL S (false, q) = rSet S q := fun _ => rfl
  rw [g1] at e1
  unfold decP
  rw [← e1]
  cases r1 with
  | none => subst e7 e6 e5 e4 e3 e2; simp [bad, b1, b2, b3]
  | some x1 =>
  obtain ⟨k, p1⟩ := x1
  rw [ok, g1] at e2
  simp only
  rw [← e2]
  cases r2 with
  | none => subst e7 e6 e5 e4 e3; simp [bad, b1, b2, b3]
  | some x2 =>
  obtain ⟨g, p2⟩ := x2
  rw [ok, g2] at e3
  simp only
  rw [← e3]
  cases r3 with
  | none => subst e7 e6 e5 e4; simp [bad, b1, b2, b3]
  | some x3 =>
  obtain ⟨w, p3⟩ := x3
  rw [ok, g3] at e4
  simp only
  rw [← e4]
  cases r4 with
  | none => subst e7 e6 e5; simp [bad, b1, b2, b3]
  | some x4 =>
  obtain ⟨l, p4⟩ := x4
  rw [ok, g1] at e5
  simp only
  rw [← e5]
  cases r5 with
  | none => subst e7 e6; simp [bad, b1, b2, b3]
  | some x5 =>
  obtain ⟨f, p5⟩ := x5
  rw [ok, g1] at e6
  simp only [nI] at e6 ⊢
  rw [← e6]
  cases r6 with
  | none => subst e7; simp [bad, b1, b2, b3]
  | some x6 =>
  obtain ⟨d, p6⟩ := x6
  rw [ok, g1] at e7
  simp only
  rw [← e7]
  cases r7 with
  | none => simp [bad]
  | some x7 =>
  obtain ⟨n, p7⟩ := x7
  exact ⟨fun h => (nomatch h), fun _ => ⟨⟨p4, rfl⟩, rfl⟩⟩
end Go.Proofs.Ytaepikkaogfhbaa

/- Decode of certificates, over the abstract code. -/
namespace Go.Proofs.Ytaepikkaogfhbaa
set_option linter.unusedSimpArgs false
set_option linter.unusedVariables false
open Go.RowKit Go.Lib

theorem chk_small {k f t n : Int} {g : Nat} {w : ByteArray} {l : List ByteArray} (hg : g < 65536) (hw : w.size ≤ 1000000) (hl : l.length ≤ 10000) (hx : ∀ x ∈ l, x.size ≤ 1000000) : smallC ⟨k, g, w, l, f, t, n⟩ := ⟨hg, hw, hl, hx⟩
theorem rW_small {S : ByteArray} {s : Bool × Nat} : (nS (rW S s)).size ≤ 16 := by
  unfold rW
  split
  · exact Nat.zero_le _
  · cases h : rWord S s.2 with
    | none => exact Nat.zero_le _
    | some x => obtain ⟨n, p⟩ := x; exact wordMay_le (rWord_le h).2.2.1
theorem rL_small {S : ByteArray} {s : Bool × Nat} : (nL (rL S s)).length ≤ 16 ∧ ∀ x ∈ nL (rL S s), x.size ≤ 16 := by
  unfold rL
  split
  · simp [nL]
  · cases h : rSet S s.2 with
    | none => simp [nL]
    | some x => obtain ⟨n, p⟩ := x; exact setMay_small (upTo_set h).2.1
theorem wrap16 {n : Nat} (h : n < 65536) : IntKind.u16.wrap (n : Int) = n := by rw [IntKind.wrap_u16]; omega
def fL (r : Option (List ByteArray × Nat)) : Fl := match r with
  | some _ => .ro
  | none => .clip
theorem vL_n (r : Option (List ByteArray × Nat)) : vL r = .lst (fL r) (nL r).length ((nL r).map .str) := by cases r <;> rfl
theorem deg_fL (r : Option (List ByteArray × Nat)) (n : Nat) (l : List AV) : deg (.lst (fL r) n l) = .lst (fL r) n l := by cases r <;> rfl
theorem a_num' {h : Hp} {id : Nat} {S : ByteArray} {s : Bool × Nat} (most : Int) (ho : h[id]? = some (iObj S s)) (hs : S.size ≤ 1000000) (hp : s.2 ≤ S.size) {r : Option (Nat × Nat)} (e : r = rN S most s) {s' : Bool × Nat} (d : s' = stO r s.2) :
    ACalls Try.prog 68 [.ptr id 0, .int .i64 most] h (fun a h' => a = .int .i64 (nI r) ∧ h' = h.set id (iObj S s')) := by
  have := a_inum most ho (by omega) hp
  rw [rN_eq, ← e, vI_n, ← d] at this
  exact this
theorem a_word' {h : Hp} {id : Nat} {S : ByteArray} {s : Bool × Nat} (ho : h[id]? = some (iObj S s)) (hs : S.size ≤ 1000000) (hp : s.2 ≤ S.size) {r : Option (ByteArray × Nat)} (e : r = rW S s) :
    ∃ q, q ≤ S.size ∧ ACalls Try.prog 87 [.ptr id 0] h (fun a h' => a = .str (nS r) ∧ h' = h.set id (iObj S (stO r q))) := by
  obtain ⟨q, hq, hc⟩ := a_iword ho (by omega) hp
  rw [rW_eq, ← e, vS_n] at hc
  exact ⟨q, hq, hc⟩
theorem a_set' {h : Hp} {id : Nat} {S : ByteArray} {s : Bool × Nat} (ho : h[id]? = some (iObj S s)) (hs : S.size ≤ 1000000) (hp : s.2 ≤ S.size) {r : Option (List ByteArray × Nat)} (e : r = rL S s) :
    ACalls Try.prog 69 [.ptr id 0] h (fun a h' => a = .lst (fL r) (nL r).length ((nL r).map .str) ∧ ∃ q, q ≤ S.size ∧ h' = h.set id (iObj S (stO r q))) := by
  have := a_iset ho (by omega) hp
  rw [rL_eq, ← e, vL_n] at this
  exact this
theorem int_ne {a : Int} (h : ¬ a = 0) : decide (¬ a = 0) = true := by simp [h]
set_option maxRecDepth 100000 in
set_option maxHeartbeats 4000000 in
theorem p_cdec (S : ByteArray) (hs : S.size ≤ 1000000) : PCalls Try.prog 45 [.str S] (decV (decE S)) := by
  refine pcalls_of rfl (free_decV _) (ACalls.deep (acalls_of mixed J_cert_Decode_ok (Nat.le_of_ble_eq_true rfl) ?_)); simp only [J_cert_Decode, wk,if_true,if_false,forall_const,implies_true,ne_eq,eq_self,Nat.reduceEqDiff,Nat.reduceAdd,Nat.reduceMul,Nat.reduceSub,Nat.reduceLeDiff,Nat.reduceLT,Int.reduceEq,Int.reduceLT,Int.reduceLE,Int.reduceAdd,Int.reduceSub,Int.reduceMul,Int.reduceNeg,Int.reduceNe,reduceCtorEq,Int.reduceToNat,↓reduceIte]
  refine ACalls.use (a_from S) ?_; rintro _ _ ⟨rfl, rfl⟩; simp only [wk,if_true,if_false,forall_const,implies_true,ne_eq,eq_self,Nat.reduceEqDiff,Nat.reduceAdd,Nat.reduceMul,Nat.reduceSub,Nat.reduceLeDiff,Nat.reduceLT,Int.reduceEq,Int.reduceLT,Int.reduceLE,Int.reduceAdd,Int.reduceSub,Int.reduceMul,Int.reduceNeg,Int.reduceNe,reduceCtorEq,Int.reduceToNat,↓reduceIte]
  obtain ⟨r1, e1⟩ : ∃ r, r = rN S 7 (false, 0) := ⟨_, rfl⟩
  obtain ⟨s1, d1⟩ : ∃ s, s = stO r1 0 := ⟨_, rfl⟩
  have b1 : s1.2 ≤ S.size := by rw [d1, e1]; exact rN_le (Nat.zero_le _) (Nat.zero_le _)
  refine ACalls.use (a_num' (S := S) (s := (false, 0)) 7 rfl hs (Nat.zero_le _) e1 d1) ?_; rintro _ _ ⟨rfl, rfl⟩; simp only [wk,if_true,if_false,forall_const,implies_true,ne_eq,eq_self,Nat.reduceEqDiff,Nat.reduceAdd,Nat.reduceMul,Nat.reduceSub,Nat.reduceLeDiff,Nat.reduceLT,Int.reduceEq,Int.reduceLT,Int.reduceLE,Int.reduceAdd,Int.reduceSub,Int.reduceMul,Int.reduceNeg,Int.reduceNe,reduceCtorEq,Int.reduceToNat,↓reduceIte]
  obtain ⟨r2, e2⟩ : ∃ r, r = rN S 49151 s1 := ⟨_, rfl⟩
  obtain ⟨s2, d2⟩ : ∃ s, s = stO r2 s1.2 := ⟨_, rfl⟩
  have b2 : s2.2 ≤ S.size := by rw [d2, e2]; exact rN_le b1 b1
  have n2 : nI r2 ≤ 49151 := by have := (nI_le (S := S) (m := 49151) b1).2 (by omega); rw [← e2] at this; omega
  refine ACalls.use (a_num' (S := S) (s := s1) 49151 rfl hs b1 e2 d2) ?_; rintro _ _ ⟨rfl, rfl⟩; simp only [wk,if_true,if_false,forall_const,implies_true,ne_eq,eq_self,Nat.reduceEqDiff,Nat.reduceAdd,Nat.reduceMul,Nat.reduceSub,Nat.reduceLeDiff,Nat.reduceLT,Int.reduceEq,Int.reduceLT,Int.reduceLE,Int.reduceAdd,Int.reduceSub,Int.reduceMul,Int.reduceNeg,Int.reduceNe,reduceCtorEq,Int.reduceToNat,↓reduceIte, wrap16 (show nI r2 < 65536 by omega)]
  obtain ⟨r3, e3⟩ : ∃ r, r = rW S s2 := ⟨_, rfl⟩
  obtain ⟨q3, hq3, hc3⟩ := a_word' (id := 1) (s := s2) (h := [some (false, [.int .i64 0, .int .u16 0, .str ⟨#[]⟩, .lst .clip 0 [], .int .i64 0, .int .i64 0, .int .i64 0]), iObj S s2, some (false, [.int .i64 (nI r1), .int .u16 (nI r2), .str ⟨#[]⟩, .lst .clip 0 [], .int .i64 0, .int .i64 0, .int .i64 0])]) rfl hs b2 e3
  obtain ⟨s3, d3⟩ : ∃ s, s = stO r3 q3 := ⟨_, rfl⟩
  rw [← d3] at hc3
  have b3 : s3.2 ≤ S.size := by rw [d3, e3]; exact rW_le hq3
  refine ACalls.use (hc3) ?_; rintro _ _ ⟨rfl, rfl⟩; simp only [wk,if_true,if_false,forall_const,implies_true,ne_eq,eq_self,Nat.reduceEqDiff,Nat.reduceAdd,Nat.reduceMul,Nat.reduceSub,Nat.reduceLeDiff,Nat.reduceLT,Int.reduceEq,Int.reduceLT,Int.reduceLE,Int.reduceAdd,Int.reduceSub,Int.reduceMul,Int.reduceNeg,Int.reduceNe,reduceCtorEq,Int.reduceToNat,↓reduceIte]
  obtain ⟨r4, e4⟩ : ∃ r, r = rL S s3 := ⟨_, rfl⟩
  refine ACalls.use (a_set' (id := 1) (s := s3) rfl hs b3 e4) ?_
  rintro _ _ ⟨rfl, q4, hq4, rfl⟩
  obtain ⟨s4, d4⟩ : ∃ s, s = stO r4 q4 := ⟨_, rfl⟩
  rw [← d4]
  have b4 : s4.2 ≤ S.size := by rw [d4, e4]; exact rL_le hq4
  simp only [deg_fL, wk,if_true,if_false,forall_const,implies_true,ne_eq,eq_self,Nat.reduceEqDiff,Nat.reduceAdd,Nat.reduceMul,Nat.reduceSub,Nat.reduceLeDiff,Nat.reduceLT,Int.reduceEq,Int.reduceLT,Int.reduceLE,Int.reduceAdd,Int.reduceSub,Int.reduceMul,Int.reduceNeg,Int.reduceNe,reduceCtorEq,Int.reduceToNat,↓reduceIte]
  obtain ⟨r5, e5⟩ : ∃ r, r = rN S 4611686018427387904 s4 := ⟨_, rfl⟩
  obtain ⟨s5, d5⟩ : ∃ s, s = stO r5 s4.2 := ⟨_, rfl⟩
  have b5 : s5.2 ≤ S.size := by rw [d5, e5]; exact rN_le b4 b4
  have n5 : nI r5 ≤ 4611686018427387904 := by have := (nI_le (S := S) (m := 4611686018427387904) b4).1; rw [← e5] at this; exact this
  refine ACalls.use (a_num' (S := S) (s := s4) 4611686018427387904 rfl hs b4 e5 d5) ?_; rintro _ _ ⟨rfl, rfl⟩; simp only [wk,if_true,if_false,forall_const,implies_true,ne_eq,eq_self,Nat.reduceEqDiff,Nat.reduceAdd,Nat.reduceMul,Nat.reduceSub,Nat.reduceLeDiff,Nat.reduceLT,Int.reduceEq,Int.reduceLT,Int.reduceLE,Int.reduceAdd,Int.reduceSub,Int.reduceMul,Int.reduceNeg,Int.reduceNe,reduceCtorEq,Int.reduceToNat,↓reduceIte, deg_fL]
  obtain ⟨r6, e6⟩ : ∃ r, r = rN S (4611686018427387904 - nI r5) s5 := ⟨_, rfl⟩
  obtain ⟨s6, d6⟩ : ∃ s, s = stO r6 s5.2 := ⟨_, rfl⟩
  have b6 : s6.2 ≤ S.size := by rw [d6, e6]; exact rN_le b5 b5
  have n6 : (nI r6 : Int) ≤ 4611686018427387904 - nI r5 := by have := (nI_le (S := S) (m := 4611686018427387904 - nI r5) b5).2 (by omega); rw [← e6] at this; exact this
  refine ⟨inR_of (by omega) (by omega), _, _, _, rfl, fun h0 hh => a_num' (S := S) (s := s5) (4611686018427387904 - nI r5) hh hs b5 e6 d6, ?_⟩
  simp only [wk,if_true,if_false,forall_const,implies_true,ne_eq,eq_self,Nat.reduceEqDiff,Nat.reduceAdd,Nat.reduceMul,Nat.reduceSub,Nat.reduceLeDiff,Nat.reduceLT,Int.reduceEq,Int.reduceLT,Int.reduceLE,Int.reduceAdd,Int.reduceSub,Int.reduceMul,Int.reduceNeg,Int.reduceNe,reduceCtorEq,Int.reduceToNat,↓reduceIte]
  refine ⟨inR_of (by omega) (by omega), ?_⟩
  obtain ⟨r7, e7⟩ : ∃ r, r = rN S 4611686018427387904 s6 := ⟨_, rfl⟩
  obtain ⟨s7, d7⟩ : ∃ s, s = stO r7 s6.2 := ⟨_, rfl⟩
  have b7 : s7.2 ≤ S.size := by rw [d7, e7]; exact rN_le b6 b6
  refine ACalls.use (a_num' (S := S) (s := s6) 4611686018427387904 rfl hs b6 e7 d7) ?_; rintro _ _ ⟨rfl, rfl⟩; simp only [wk,if_true,if_false,forall_const,implies_true,ne_eq,eq_self,Nat.reduceEqDiff,Nat.reduceAdd,Nat.reduceMul,Nat.reduceSub,Nat.reduceLeDiff,Nat.reduceLT,Int.reduceEq,Int.reduceLT,Int.reduceLE,Int.reduceAdd,Int.reduceSub,Int.reduceMul,Int.reduceNeg,Int.reduceNe,reduceCtorEq,Int.reduceToNat,↓reduceIte, deg_fL]
  subst d1 d2 d3 d4 d5
  obtain ⟨c1, c2⟩ := dec_chain (m6 := fun f => 4611686018427387904 - f) (tl := fun f d => f + d) (q7 := s6.2) e1 e2 e3 e4 e5 e6 (r7 := r7) (by rw [e7, d6])
  rw [← d7] at c1 c2
  rw [show decE S = decP S 49151 (fun f => 4611686018427387904 - f) (fun f d => f + d) from rfl]
  refine ACalls.use (a_idone (S := S) (s := s7) rfl (by omega) b7) ?_; rintro _ _ ⟨rfl, rfl⟩; simp only [wk,if_true,if_false,forall_const,implies_true,ne_eq,eq_self,Nat.reduceEqDiff,Nat.reduceAdd,Nat.reduceMul,Nat.reduceSub,Nat.reduceLeDiff,Nat.reduceLT,Int.reduceEq,Int.reduceLT,Int.reduceLE,Int.reduceAdd,Int.reduceSub,Int.reduceMul,Int.reduceNeg,Int.reduceNe,reduceCtorEq,Int.reduceToNat,↓reduceIte]
  cases hb : s7.1 with
  | true =>
    rw [c1 hb]
    simp only [Bool.true_or, eI, decV, vC, cC, zeroC, rdpw, valL, wk,if_true,if_false,forall_const,implies_true,ne_eq,eq_self,Nat.reduceEqDiff,Nat.reduceAdd,Nat.reduceMul,Nat.reduceSub,Nat.reduceLeDiff,Nat.reduceLT,Int.reduceEq,Int.reduceLT,Int.reduceLE,Int.reduceAdd,Int.reduceSub,Int.reduceMul,Int.reduceNeg,Int.reduceNe,reduceCtorEq,Int.reduceToNat,↓reduceIte]
    simp
  | false =>
    obtain ⟨⟨p, hp⟩, c2⟩ := c2 hb
    rw [c2]
    have hfl : fL r4 = .ro := by rw [hp]; rfl
    simp only [Bool.false_or, hfl, wk,if_true,if_false,forall_const,implies_true,ne_eq,eq_self,Nat.reduceEqDiff,Nat.reduceAdd,Nat.reduceMul,Nat.reduceSub,Nat.reduceLeDiff,Nat.reduceLT,Int.reduceEq,Int.reduceLT,Int.reduceLE,Int.reduceAdd,Int.reduceSub,Int.reduceMul,Int.reduceNeg,Int.reduceNe,reduceCtorEq,Int.reduceToNat,↓reduceIte]
    by_cases hend : s7.2 < S.size
    · simp only [hend, decide_true, if_true, eI, decV, vC, cC, zeroC, rdpw, valL, wk,if_true,if_false,forall_const,implies_true,ne_eq,eq_self,Nat.reduceEqDiff,Nat.reduceAdd,Nat.reduceMul,Nat.reduceSub,Nat.reduceLeDiff,Nat.reduceLT,Int.reduceEq,Int.reduceLT,Int.reduceLE,Int.reduceAdd,Int.reduceSub,Int.reduceMul,Int.reduceNeg,Int.reduceNe,reduceCtorEq,Int.reduceToNat,↓reduceIte]
      simp
    · simp only [hend, decide_false, if_false, eI, wk,if_true,if_false,forall_const,implies_true,ne_eq,eq_self,Nat.reduceEqDiff,Nat.reduceAdd,Nat.reduceMul,Nat.reduceSub,Nat.reduceLeDiff,Nat.reduceLT,Int.reduceEq,Int.reduceLT,Int.reduceLE,Int.reduceAdd,Int.reduceSub,Int.reduceMul,Int.reduceNeg,Int.reduceNe,reduceCtorEq,Int.reduceToNat,↓reduceIte]
      have hsm : smallC ⟨nI r1, nI r2, nS r3, nL r4, nI r5, nI r5 + nI r6, nI r7⟩ := by
        refine chk_small (by omega) ?_ ?_ ?_
        · rw [e3]; exact Nat.le_trans rW_small (by omega)
        · rw [e4]; exact Nat.le_trans rL_small.1 (by omega)
        · rw [e4]; exact fun x hx => Nat.le_trans (rL_small.2 x hx) (by omega)
      have hck := p_check _ hsm
      simp only [vC, cC] at hck
      refine PCalls.use (hck) ?_; simp only [wk,if_true,if_false,forall_const,implies_true,ne_eq,eq_self,Nat.reduceEqDiff,Nat.reduceAdd,Nat.reduceMul,Nat.reduceSub,Nat.reduceLeDiff,Nat.reduceLT,Int.reduceEq,Int.reduceLT,Int.reduceLE,Int.reduceAdd,Int.reduceSub,Int.reduceMul,Int.reduceNeg,Int.reduceNe,reduceCtorEq,Int.reduceToNat,↓reduceIte]
      refine ⟨fun h0 => ?_, fun h0 => ?_⟩
      · simp only [h0, if_true, if_false, decV, vC, cC, zeroC, rdpw, valL, wk,if_true,if_false,forall_const,implies_true,ne_eq,eq_self,Nat.reduceEqDiff,Nat.reduceAdd,Nat.reduceMul,Nat.reduceSub,Nat.reduceLeDiff,Nat.reduceLT,Int.reduceEq,Int.reduceLT,Int.reduceLE,Int.reduceAdd,Int.reduceSub,Int.reduceMul,Int.reduceNeg,Int.reduceNe,reduceCtorEq,Int.reduceToNat,↓reduceIte]
        try simp
      · simp only [h0, if_true, if_false, decV, vC, cC, zeroC, rdpw, valL, wk,if_true,if_false,forall_const,implies_true,ne_eq,eq_self,Nat.reduceEqDiff,Nat.reduceAdd,Nat.reduceMul,Nat.reduceSub,Nat.reduceLeDiff,Nat.reduceLT,Int.reduceEq,Int.reduceLT,Int.reduceLE,Int.reduceAdd,Int.reduceSub,Int.reduceMul,Int.reduceNeg,Int.reduceNe,reduceCtorEq,Int.reduceToNat,↓reduceIte]
        try simp
end Go.Proofs.Ytaepikkaogfhbaa

/- Decode of certificates in the reference, over the abstract code; it is the same. -/
namespace Go.Proofs.Ytaepikkaogfhbaa
set_option linter.unusedSimpArgs false
set_option linter.unusedVariables false
open Go.RowKit Go.Lib

theorem b_num' {h : Hp} {id : Nat} {S : ByteArray} {s : Bool × Nat} (most : Int) (ho : h[id]? = some (jObj S s)) (hs : S.size ≤ 1000000) (hp : s.2 ≤ S.size) {r : Option (Nat × Nat)} (e : r = rN S most s) {s' : Bool × Nat} (d : s' = stO r (jStop S s)) :
    ACalls Try.prog 71 [.ptr id 0, .int .i64 most] h (fun a h' => a = .int .i64 (nI r) ∧ h' = h.set id (jObj S s')) := by
  have := r_inum most ho (by omega) hp
  rw [rN_eq, ← e, vI_n, ← d] at this
  exact this
theorem b_word' {h : Hp} {id : Nat} {S : ByteArray} {s : Bool × Nat} (ho : h[id]? = some (jObj S s)) (hs : S.size ≤ 1000000) (hp : s.2 ≤ S.size) {r : Option (ByteArray × Nat)} (e : r = rW S s) {s' : Bool × Nat} (d : s' = stO r s.2) :
    ACalls Try.prog 88 [.ptr id 0] h (fun a h' => a = .str (nS r) ∧ h' = h.set id (jObj S s')) := by
  have := r_iword ho (by omega) hp
  rw [rW_eq, ← e, vS_n, ← d] at this
  exact this
theorem b_set' {h : Hp} {id : Nat} {S : ByteArray} {s : Bool × Nat} (ho : h[id]? = some (jObj S s)) (hs : S.size ≤ 1000000) (hp : s.2 ≤ S.size) {r : Option (List ByteArray × Nat)} (e : r = rL S s) :
    ACalls Try.prog 72 [.ptr id 0] h (fun a h' => a = .lst (fL r) (nL r).length ((nL r).map .str) ∧ ∃ q, q ≤ S.size ∧ h' = h.set id (jObj S (stO r q))) := by
  have := r_iset ho (by omega) hp
  rw [rL_eq, ← e, vL_n] at this
  exact this
theorem rNum_more {S : ByteArray} {m m' : Int} {p n q : Nat} (h : rNum S m p = some (n, q)) (hm : (n : Int) ≤ m') : rNum S m' p = some (n, q) := by
  unfold rNum at h ⊢
  split at h
  · split at h
    · next hn => simp only [Option.some.injEq, Prod.mk.injEq] at h; obtain ⟨rfl, rfl⟩ := h; simp [hm]
    · cases h
  · cases h
theorem rNum_most {S : ByteArray} {m : Int} {p n q : Nat} (h : rNum S m p = some (n, q)) : (n : Int) ≤ m ∧ n ≤ 4611686018427387904 := by
  by_cases hp : p ≤ S.size
  · have := rNum_le h hp; exact ⟨this.2.2.2, this.2.2.1⟩
  · exfalso
    unfold rNum at h
    rw [List.drop_of_length_le (by simp; omega)] at h
    simp [rdNum, rdNumAt] at h
theorem dec_same (S : ByteArray) : decP S 65535 (fun _ => 4611686018427387904) (fun f d => IntKind.i64.wrap ((f : Int) + (d : Int))) = decE S := by
  have key : ∀ c, decP S 65535 (fun _ => 4611686018427387904) (fun f d => IntKind.i64.wrap ((f : Int) + (d : Int))) = some c ↔ decE S = some c := by
    intro c
    unfold decE
    rw [decP_some, decP_some]
    constructor
    · rintro ⟨k, p1, g, p2, w, p3, l, p4, f, p5, d, p6, n, p7, e1, e2, e3, e4, e5, e6, e7, hp, hc, rfl⟩
      have gd := good_of hc
      have g1 := gd.signer
      have g2 := gd.till
      have g3 := gd.order
      simp only at g1 g2 g3
      have f1 := rNum_most e5
      have f2 := rNum_most e6
      rw [IntKind.wrap_i64] at g2 g3
      have hsum : ((f : Int) + d) ≤ 4611686018427387904 := by omega
      refine ⟨k, p1, g, p2, w, p3, l, p4, f, p5, d, p6, n, p7, e1, rNum_more e2 (by omega), e3, e4, e5, rNum_more e6 (by omega), e7, hp, hc, ?_⟩
      rw [wrap_small (by omega) hsum]
    · rintro ⟨k, p1, g, p2, w, p3, l, p4, f, p5, d, p6, n, p7, e1, e2, e3, e4, e5, e6, e7, hp, hc, rfl⟩
      have f1 := rNum_most e5
      have f2 := rNum_most e6
      have f3 := rNum_most e2
      refine ⟨k, p1, g, p2, w, p3, l, p4, f, p5, d, p6, n, p7, e1, rNum_more e2 (by omega), e3, e4, e5, rNum_more e6 (by omega), e7, hp, hc, ?_⟩
      rw [wrap_small (by omega) (by omega)]
  cases h1 : decP S 65535 (fun _ => 4611686018427387904) (fun f d => IntKind.i64.wrap ((f : Int) + (d : Int))) with
  | some c => exact ((key c).1 h1).symm
  | none =>
    cases h2 : decE S with
    | none => rfl
    | some c => rw [(key c).2 h2] at h1; cases h1
set_option maxRecDepth 100000 in
set_option maxHeartbeats 4000000 in
theorem p_rcdec (S : ByteArray) (hs : S.size ≤ 1000000) : PCalls Try.prog 46 [.str S] (decV (decE S)) := by
  rw [← dec_same]
  refine pcalls_of rfl (free_decV _) (ACalls.deep (acalls_of mixed J_ref08_Decode_ok (Nat.le_of_ble_eq_true rfl) ?_)); simp only [J_ref08_Decode, wk,if_true,if_false,forall_const,implies_true,ne_eq,eq_self,Nat.reduceEqDiff,Nat.reduceAdd,Nat.reduceMul,Nat.reduceSub,Nat.reduceLeDiff,Nat.reduceLT,Int.reduceEq,Int.reduceLT,Int.reduceLE,Int.reduceAdd,Int.reduceSub,Int.reduceMul,Int.reduceNeg,Int.reduceNe,reduceCtorEq,Int.reduceToNat,↓reduceIte]
  obtain ⟨r1, e1⟩ : ∃ r, r = rN S 7 (false, 0) := ⟨_, rfl⟩
  obtain ⟨s1, d1⟩ : ∃ s, s = stO r1 (jStop S (false, 0)) := ⟨_, rfl⟩
  have b1 : s1.2 ≤ S.size := by rw [d1, e1]; exact rN_le (Nat.zero_le _) (jStop_le (Nat.zero_le _))
  refine ACalls.use (b_num' (S := S) (s := (false, 0)) 7 rfl hs (Nat.zero_le _) e1 d1) ?_; rintro _ _ ⟨rfl, rfl⟩; simp only [wk,if_true,if_false,forall_const,implies_true,ne_eq,eq_self,Nat.reduceEqDiff,Nat.reduceAdd,Nat.reduceMul,Nat.reduceSub,Nat.reduceLeDiff,Nat.reduceLT,Int.reduceEq,Int.reduceLT,Int.reduceLE,Int.reduceAdd,Int.reduceSub,Int.reduceMul,Int.reduceNeg,Int.reduceNe,reduceCtorEq,Int.reduceToNat,↓reduceIte]
  obtain ⟨r2, e2⟩ : ∃ r, r = rN S 65535 s1 := ⟨_, rfl⟩
  obtain ⟨s2, d2⟩ : ∃ s, s = stO r2 (jStop S s1) := ⟨_, rfl⟩
  have b2 : s2.2 ≤ S.size := by rw [d2, e2]; exact rN_le b1 (jStop_le b1)
  have n2 : nI r2 ≤ 65535 := by have := (nI_le (S := S) (m := 65535) b1).2 (by omega); rw [← e2] at this; omega
  refine ACalls.use (b_num' (S := S) (s := s1) 65535 rfl hs b1 e2 d2) ?_; rintro _ _ ⟨rfl, rfl⟩; simp only [wk,if_true,if_false,forall_const,implies_true,ne_eq,eq_self,Nat.reduceEqDiff,Nat.reduceAdd,Nat.reduceMul,Nat.reduceSub,Nat.reduceLeDiff,Nat.reduceLT,Int.reduceEq,Int.reduceLT,Int.reduceLE,Int.reduceAdd,Int.reduceSub,Int.reduceMul,Int.reduceNeg,Int.reduceNe,reduceCtorEq,Int.reduceToNat,↓reduceIte, wrap16 (show nI r2 < 65536 by omega)]
  obtain ⟨r3, e3⟩ : ∃ r, r = rW S s2 := ⟨_, rfl⟩
  obtain ⟨s3, d3⟩ : ∃ s, s = stO r3 s2.2 := ⟨_, rfl⟩
  have b3 : s3.2 ≤ S.size := by rw [d3, e3]; exact rW_le b2
  refine ACalls.use (b_word' (S := S) (s := s2) rfl hs b2 e3 d3) ?_; rintro _ _ ⟨rfl, rfl⟩; simp only [wk,if_true,if_false,forall_const,implies_true,ne_eq,eq_self,Nat.reduceEqDiff,Nat.reduceAdd,Nat.reduceMul,Nat.reduceSub,Nat.reduceLeDiff,Nat.reduceLT,Int.reduceEq,Int.reduceLT,Int.reduceLE,Int.reduceAdd,Int.reduceSub,Int.reduceMul,Int.reduceNeg,Int.reduceNe,reduceCtorEq,Int.reduceToNat,↓reduceIte]
  obtain ⟨r4, e4⟩ : ∃ r, r = rL S s3 := ⟨_, rfl⟩
  refine ACalls.use (b_set' (id := 1) (s := s3) rfl hs b3 e4) ?_
  rintro _ _ ⟨rfl, q4, hq4, rfl⟩
  obtain ⟨s4, d4⟩ : ∃ s, s = stO r4 q4 := ⟨_, rfl⟩
  rw [← d4]
  have b4 : s4.2 ≤ S.size := by rw [d4, e4]; exact rL_le hq4
  simp only [deg_fL, wk,if_true,if_false,forall_const,implies_true,ne_eq,eq_self,Nat.reduceEqDiff,Nat.reduceAdd,Nat.reduceMul,Nat.reduceSub,Nat.reduceLeDiff,Nat.reduceLT,Int.reduceEq,Int.reduceLT,Int.reduceLE,Int.reduceAdd,Int.reduceSub,Int.reduceMul,Int.reduceNeg,Int.reduceNe,reduceCtorEq,Int.reduceToNat,↓reduceIte]
  obtain ⟨r5, e5⟩ : ∃ r, r = rN S 4611686018427387904 s4 := ⟨_, rfl⟩
  obtain ⟨s5, d5⟩ : ∃ s, s = stO r5 (jStop S s4) := ⟨_, rfl⟩
  have b5 : s5.2 ≤ S.size := by rw [d5, e5]; exact rN_le b4 (jStop_le b4)
  have n5 : nI r5 ≤ 4611686018427387904 := by have := (nI_le (S := S) (m := 4611686018427387904) b4).1; rw [← e5] at this; exact this
  refine ACalls.use (b_num' (S := S) (s := s4) 4611686018427387904 rfl hs b4 e5 d5) ?_; rintro _ _ ⟨rfl, rfl⟩; simp only [wk,if_true,if_false,forall_const,implies_true,ne_eq,eq_self,Nat.reduceEqDiff,Nat.reduceAdd,Nat.reduceMul,Nat.reduceSub,Nat.reduceLeDiff,Nat.reduceLT,Int.reduceEq,Int.reduceLT,Int.reduceLE,Int.reduceAdd,Int.reduceSub,Int.reduceMul,Int.reduceNeg,Int.reduceNe,reduceCtorEq,Int.reduceToNat,↓reduceIte, deg_fL]
  obtain ⟨r6, e6⟩ : ∃ r, r = rN S 4611686018427387904 s5 := ⟨_, rfl⟩
  obtain ⟨s6, d6⟩ : ∃ s, s = stO r6 (jStop S s5) := ⟨_, rfl⟩
  have b6 : s6.2 ≤ S.size := by rw [d6, e6]; exact rN_le b5 (jStop_le b5)
  refine ⟨_, _, _, rfl, fun h0 hh => b_num' (S := S) (s := s5) 4611686018427387904 hh hs b5 e6 d6, ?_⟩
  simp only [wk,if_true,if_false,forall_const,implies_true,ne_eq,eq_self,Nat.reduceEqDiff,Nat.reduceAdd,Nat.reduceMul,Nat.reduceSub,Nat.reduceLeDiff,Nat.reduceLT,Int.reduceEq,Int.reduceLT,Int.reduceLE,Int.reduceAdd,Int.reduceSub,Int.reduceMul,Int.reduceNeg,Int.reduceNe,reduceCtorEq,Int.reduceToNat,↓reduceIte]
  obtain ⟨r7, e7⟩ : ∃ r, r = rN S 4611686018427387904 s6 := ⟨_, rfl⟩
  obtain ⟨s7, d7⟩ : ∃ s, s = stO r7 (jStop S s6) := ⟨_, rfl⟩
  have b7 : s7.2 ≤ S.size := by rw [d7, e7]; exact rN_le b6 (jStop_le b6)
  refine ACalls.use (b_num' (S := S) (s := s6) 4611686018427387904 rfl hs b6 e7 d7) ?_; rintro _ _ ⟨rfl, rfl⟩; simp only [wk,if_true,if_false,forall_const,implies_true,ne_eq,eq_self,Nat.reduceEqDiff,Nat.reduceAdd,Nat.reduceMul,Nat.reduceSub,Nat.reduceLeDiff,Nat.reduceLT,Int.reduceEq,Int.reduceLT,Int.reduceLE,Int.reduceAdd,Int.reduceSub,Int.reduceMul,Int.reduceNeg,Int.reduceNe,reduceCtorEq,Int.reduceToNat,↓reduceIte, deg_fL]
  subst d1 d2 d3 d4 d5
  obtain ⟨c1, c2⟩ := dec_chain (m6 := fun _ => 4611686018427387904) (tl := fun f d => IntKind.i64.wrap ((f : Int) + (d : Int))) (q7 := jStop S s6) e1 e2 e3 e4 e5 e6 (r7 := r7) (by rw [e7, d6])
  rw [← d7] at c1 c2
  refine ACalls.use (r_idone (S := S) (s := s7) rfl (by omega) b7) ?_; rintro _ _ ⟨rfl, rfl⟩; simp only [wk,if_true,if_false,forall_const,implies_true,ne_eq,eq_self,Nat.reduceEqDiff,Nat.reduceAdd,Nat.reduceMul,Nat.reduceSub,Nat.reduceLeDiff,Nat.reduceLT,Int.reduceEq,Int.reduceLT,Int.reduceLE,Int.reduceAdd,Int.reduceSub,Int.reduceMul,Int.reduceNeg,Int.reduceNe,reduceCtorEq,Int.reduceToNat,↓reduceIte]
  cases hb : s7.1 with
  | true =>
    rw [c1 hb]
    simp only [Bool.true_or, eI, decV, vC, cC, zeroC, rdpw, valL, wk,if_true,if_false,forall_const,implies_true,ne_eq,eq_self,Nat.reduceEqDiff,Nat.reduceAdd,Nat.reduceMul,Nat.reduceSub,Nat.reduceLeDiff,Nat.reduceLT,Int.reduceEq,Int.reduceLT,Int.reduceLE,Int.reduceAdd,Int.reduceSub,Int.reduceMul,Int.reduceNeg,Int.reduceNe,reduceCtorEq,Int.reduceToNat,↓reduceIte]
    simp
  | false =>
    obtain ⟨⟨p, hp⟩, c2⟩ := c2 hb
    rw [c2]
    have hfl : fL r4 = .ro := by rw [hp]; rfl
    simp only [Bool.false_or, hfl, wk,if_true,if_false,forall_const,implies_true,ne_eq,eq_self,Nat.reduceEqDiff,Nat.reduceAdd,Nat.reduceMul,Nat.reduceSub,Nat.reduceLeDiff,Nat.reduceLT,Int.reduceEq,Int.reduceLT,Int.reduceLE,Int.reduceAdd,Int.reduceSub,Int.reduceMul,Int.reduceNeg,Int.reduceNe,reduceCtorEq,Int.reduceToNat,↓reduceIte]
    by_cases hend : s7.2 < S.size
    · simp only [hend, decide_true, if_true, eI, decV, vC, cC, zeroC, rdpw, valL, wk,if_true,if_false,forall_const,implies_true,ne_eq,eq_self,Nat.reduceEqDiff,Nat.reduceAdd,Nat.reduceMul,Nat.reduceSub,Nat.reduceLeDiff,Nat.reduceLT,Int.reduceEq,Int.reduceLT,Int.reduceLE,Int.reduceAdd,Int.reduceSub,Int.reduceMul,Int.reduceNeg,Int.reduceNe,reduceCtorEq,Int.reduceToNat,↓reduceIte]
      simp
    · simp only [hend, decide_false, if_false, eI, wk,if_true,if_false,forall_const,implies_true,ne_eq,eq_self,Nat.reduceEqDiff,Nat.reduceAdd,Nat.reduceMul,Nat.reduceSub,Nat.reduceLeDiff,Nat.reduceLT,Int.reduceEq,Int.reduceLT,Int.reduceLE,Int.reduceAdd,Int.reduceSub,Int.reduceMul,Int.reduceNeg,Int.reduceNe,reduceCtorEq,Int.reduceToNat,↓reduceIte]
      have hsm : smallC ⟨nI r1, nI r2, nS r3, nL r4, nI r5, IntKind.i64.wrap ((nI r5 : Int) + (nI r6 : Int)), nI r7⟩ := by
        refine chk_small (by omega) ?_ ?_ ?_
        · rw [e3]; exact Nat.le_trans rW_small (by omega)
        · rw [e4]; exact Nat.le_trans rL_small.1 (by omega)
        · rw [e4]; exact fun x hx => Nat.le_trans (rL_small.2 x hx) (by omega)
      have hck := p_rcheck _ hsm
      simp only [vC, cC] at hck
      refine PCalls.use (hck) ?_; simp only [wk,if_true,if_false,forall_const,implies_true,ne_eq,eq_self,Nat.reduceEqDiff,Nat.reduceAdd,Nat.reduceMul,Nat.reduceSub,Nat.reduceLeDiff,Nat.reduceLT,Int.reduceEq,Int.reduceLT,Int.reduceLE,Int.reduceAdd,Int.reduceSub,Int.reduceMul,Int.reduceNeg,Int.reduceNe,reduceCtorEq,Int.reduceToNat,↓reduceIte]
      refine ⟨fun h0 => ?_, fun h0 => ?_⟩
      · simp only [h0, if_true, if_false, decV, vC, cC, zeroC, rdpw, valL, wk,if_true,if_false,forall_const,implies_true,ne_eq,eq_self,Nat.reduceEqDiff,Nat.reduceAdd,Nat.reduceMul,Nat.reduceSub,Nat.reduceLeDiff,Nat.reduceLT,Int.reduceEq,Int.reduceLT,Int.reduceLE,Int.reduceAdd,Int.reduceSub,Int.reduceMul,Int.reduceNeg,Int.reduceNe,reduceCtorEq,Int.reduceToNat,↓reduceIte]
        try simp
      · simp only [h0, if_true, if_false, decV, vC, cC, zeroC, rdpw, valL, wk,if_true,if_false,forall_const,implies_true,ne_eq,eq_self,Nat.reduceEqDiff,Nat.reduceAdd,Nat.reduceMul,Nat.reduceSub,Nat.reduceLeDiff,Nat.reduceLT,Int.reduceEq,Int.reduceLT,Int.reduceLE,Int.reduceAdd,Int.reduceSub,Int.reduceMul,Int.reduceNeg,Int.reduceNe,reduceCtorEq,Int.reduceToNat,↓reduceIte]
        try simp
end Go.Proofs.Ytaepikkaogfhbaa

/- Encode of certificates in the reference, over the abstract code. -/
namespace Go.Proofs.Ytaepikkaogfhbaa
set_option linter.unusedSimpArgs false
set_option linter.unusedVariables false
open Go.RowKit Go.Lib

theorem str_app2 (a b : List UInt8) : (⟨a.toArray⟩ ++ ⟨b.toArray⟩ : ByteArray) = ⟨(a ++ b).toArray⟩ := by
  apply ByteArray.ext; apply Array.ext'; simp
set_option maxRecDepth 100000 in
set_option maxHeartbeats 2000000 in
theorem p_rcenc (c : Crt) (h : smallC c) : PCalls Try.prog 36 [vC c] (encV c) := by
  refine pcalls_of (by simp [free.frees, free_vC]) (free_encV c) (acalls_of mixed J_ref08_Encode_ok (Nat.le_of_ble_eq_true rfl) ?_); simp only [J_ref08_Encode, vC, cC, wk,if_true,if_false,forall_const,implies_true,ne_eq,eq_self,Nat.reduceEqDiff,Nat.reduceAdd,Nat.reduceMul,Nat.reduceSub,Nat.reduceLeDiff,Nat.reduceLT,Int.reduceEq,Int.reduceLT,Int.reduceLE,Int.reduceAdd,Int.reduceSub,Int.reduceMul,Int.reduceNeg,Int.reduceNe,reduceCtorEq,Int.reduceToNat,↓reduceIte]
  refine PCalls.use (p_rcheck c h) ?_; simp only [wk,if_true,if_false,forall_const,implies_true,ne_eq,eq_self,Nat.reduceEqDiff,Nat.reduceAdd,Nat.reduceMul,Nat.reduceSub,Nat.reduceLeDiff,Nat.reduceLT,Int.reduceEq,Int.reduceLT,Int.reduceLE,Int.reduceAdd,Int.reduceSub,Int.reduceMul,Int.reduceNeg,Int.reduceNe,reduceCtorEq,Int.reduceToNat,↓reduceIte]
  refine ⟨fun he => ?_, fun he => ?_⟩
  · unfold encV; rw [if_neg he]
  · have g := good_of he
    obtain ⟨w16, ws⟩ := setMay_small g.words
    have wl := wordMay_le g.speaker
    have ws' : ∀ x ∈ c.words, x.size ≤ 1000 := fun x hx => by have := ws x hx; omega
    have l1 : (num c.kind.toNat).length ≤ 9 := (num_len9 (by have := g.kind; omega)).2
    have l2 : (num c.signer).length ≤ 9 := (num_len9 (by have := h.1; omega)).2
    have l3 : (wordBytes c.speaker).length ≤ 17 := by simp [wordBytes]; omega
    have l4 : (setBytes c.words).length ≤ 1002000 := setBytes_len c.words (by omega) ws'
    have l5 : (num c.since.toNat).length ≤ 9 := (num_len9 (by have := g.since; omega)).2
    have l6 : (num (c.till - c.since).toNat).length ≤ 9 := (num_len9 (by have := g.since; have := g.till; omega)).2
    have l7 : (num c.serial.toNat).length ≤ 9 := (num_len9 (by have := g.serial; omega)).2
    have hw : IntKind.i64.wrap (c.signer : Int) = c.signer := wrap_small (by omega) (by have := h.1; omega)
    have p1 := p_rnum c.kind.toNat (by have := g.kind; omega)
    rw [Int.toNat_of_nonneg (by have := g.kind; omega)] at p1
    have p2 := p_rnum c.since.toNat (by have := g.since; omega)
    rw [Int.toNat_of_nonneg (by have := g.since; omega)] at p2
    have p3 := p_rnum (c.till - c.since).toNat (by have := g.since; have := g.till; omega)
    rw [Int.toNat_of_nonneg (by have := g.order; omega)] at p3
    have p4 := p_rnum c.serial.toNat (by have := g.serial; omega)
    rw [Int.toNat_of_nonneg (by have := g.serial; omega)] at p4
    refine ⟨_, p1, ?_⟩; simp only [wk,if_true,if_false,forall_const,implies_true,ne_eq,eq_self,Nat.reduceEqDiff,Nat.reduceAdd,Nat.reduceMul,Nat.reduceSub,Nat.reduceLeDiff,Nat.reduceLT,Int.reduceEq,Int.reduceLT,Int.reduceLE,Int.reduceAdd,Int.reduceSub,Int.reduceMul,Int.reduceNeg,Int.reduceNe,reduceCtorEq,Int.reduceToNat,↓reduceIte]
    simp only [hw, wk,if_true,if_false,forall_const,implies_true,ne_eq,eq_self,Nat.reduceEqDiff,Nat.reduceAdd,Nat.reduceMul,Nat.reduceSub,Nat.reduceLeDiff,Nat.reduceLT,Int.reduceEq,Int.reduceLT,Int.reduceLE,Int.reduceAdd,Int.reduceSub,Int.reduceMul,Int.reduceNeg,Int.reduceNe,reduceCtorEq,Int.reduceToNat,↓reduceIte]
    refine ⟨_, p_rnum c.signer (by have := h.1; omega), ?_⟩; simp only [wk,if_true,if_false,forall_const,implies_true,ne_eq,eq_self,Nat.reduceEqDiff,Nat.reduceAdd,Nat.reduceMul,Nat.reduceSub,Nat.reduceLeDiff,Nat.reduceLT,Int.reduceEq,Int.reduceLT,Int.reduceLE,Int.reduceAdd,Int.reduceSub,Int.reduceMul,Int.reduceNeg,Int.reduceNe,reduceCtorEq,Int.reduceToNat,↓reduceIte]
    refine ⟨by rw [ba_size, ba_size]; omega, ?_⟩
    rw [str_app2]
    refine ⟨_, p_rword c.speaker (by omega), ?_⟩; simp only [wk,if_true,if_false,forall_const,implies_true,ne_eq,eq_self,Nat.reduceEqDiff,Nat.reduceAdd,Nat.reduceMul,Nat.reduceSub,Nat.reduceLeDiff,Nat.reduceLT,Int.reduceEq,Int.reduceLT,Int.reduceLE,Int.reduceAdd,Int.reduceSub,Int.reduceMul,Int.reduceNeg,Int.reduceNe,reduceCtorEq,Int.reduceToNat,↓reduceIte]
    refine ⟨by rw [ba_size, ba_size]; simp; omega, ?_⟩
    rw [str_app2]
    refine ⟨_, p_rset c.words (by omega) ws', ?_⟩; simp only [wk,if_true,if_false,forall_const,implies_true,ne_eq,eq_self,Nat.reduceEqDiff,Nat.reduceAdd,Nat.reduceMul,Nat.reduceSub,Nat.reduceLeDiff,Nat.reduceLT,Int.reduceEq,Int.reduceLT,Int.reduceLE,Int.reduceAdd,Int.reduceSub,Int.reduceMul,Int.reduceNeg,Int.reduceNe,reduceCtorEq,Int.reduceToNat,↓reduceIte]
    refine ⟨by rw [ba_size, ba_size]; simp; omega, ?_⟩
    rw [str_app2]
    refine ⟨_, p2, ?_⟩; simp only [wk,if_true,if_false,forall_const,implies_true,ne_eq,eq_self,Nat.reduceEqDiff,Nat.reduceAdd,Nat.reduceMul,Nat.reduceSub,Nat.reduceLeDiff,Nat.reduceLT,Int.reduceEq,Int.reduceLT,Int.reduceLE,Int.reduceAdd,Int.reduceSub,Int.reduceMul,Int.reduceNeg,Int.reduceNe,reduceCtorEq,Int.reduceToNat,↓reduceIte]
    refine ⟨by rw [ba_size, ba_size]; simp; omega, ?_⟩
    rw [str_app2]
    refine ⟨inR_of (by have := g.since; have := g.till; omega) (by have := g.since; have := g.till; omega), ?_⟩
    refine ⟨_, p3, ?_⟩; simp only [wk,if_true,if_false,forall_const,implies_true,ne_eq,eq_self,Nat.reduceEqDiff,Nat.reduceAdd,Nat.reduceMul,Nat.reduceSub,Nat.reduceLeDiff,Nat.reduceLT,Int.reduceEq,Int.reduceLT,Int.reduceLE,Int.reduceAdd,Int.reduceSub,Int.reduceMul,Int.reduceNeg,Int.reduceNe,reduceCtorEq,Int.reduceToNat,↓reduceIte]
    refine ⟨by rw [ba_size, ba_size]; simp; omega, ?_⟩
    rw [str_app2]
    refine ⟨_, p4, ?_⟩; simp only [wk,if_true,if_false,forall_const,implies_true,ne_eq,eq_self,Nat.reduceEqDiff,Nat.reduceAdd,Nat.reduceMul,Nat.reduceSub,Nat.reduceLeDiff,Nat.reduceLT,Int.reduceEq,Int.reduceLT,Int.reduceLE,Int.reduceAdd,Int.reduceSub,Int.reduceMul,Int.reduceNeg,Int.reduceNe,reduceCtorEq,Int.reduceToNat,↓reduceIte]
    refine ⟨by rw [ba_size, ba_size]; simp; omega, ?_⟩
    rw [str_app2]
    unfold encV; rw [if_pos he]
    simp [encBytes, List.append_assoc]
end Go.Proofs.Ytaepikkaogfhbaa

/- awake, large and rules of the laws on certificates. -/
namespace Go.Proofs.Ytaepikkaogfhbaa
set_option linter.unusedSimpArgs false
set_option linter.unusedVariables false
open Go.RowKit Go.Lib

def wBA : ByteArray := ⟨#[96, 1, 96, 2]⟩
def wDA : ByteArray := ⟨#[0, 1, 96, 2]⟩
def wA1 : ByteArray := ⟨#[96, 2]⟩
def cA : Crt := ⟨7, 8193, wBA, [wDA, wBA], 5, 9, 7⟩
def xA : Crt := ⟨6, 8193, wBA, [wA1], 5, 9, 7⟩
def sA : List UInt8 := [7, 129, 64, 2, 96, 1, 96, 2, 2, 2, 0, 1, 96, 2, 2, 96, 1, 96, 2, 5, 4, 7]
abbrev vA : AV := .agg [.int .i64 7, .int .u16 8193, .str wBA, .lst .ro 2 [.str wDA, .str wBA], .int .i64 5, .int .i64 9, .int .i64 7]
abbrev vX : AV := .agg [.int .i64 6, .int .u16 8193, .str wBA, .lst .ro 1 [.str wA1], .int .i64 5, .int .i64 9, .int .i64 7]
theorem k_chkA : checkE cA = 0 := by kernel_rfl
theorem k_chkX : checkE xA = 4 := by kernel_rfl
theorem k_encA : encBytes cA = sA := by
  have h1 : num 8193 = [129, 64] := by rw [num_ge (by decide), num_lt (by decide)]; rfl
  have h2 : num 7 = [7] := by rw [num_lt (by decide)]; rfl
  have h3 : num 5 = [5] := by rw [num_lt (by decide)]; rfl
  have h4 : num 4 = [4] := by rw [num_lt (by decide)]; rfl
  have e1 : cA.kind.toNat = 7 := rfl
  have e2 : cA.signer = 8193 := rfl
  have e3 : cA.since.toNat = 5 := rfl
  have e4 : (cA.till - cA.since).toNat = 4 := rfl
  have e5 : cA.serial.toNat = 7 := rfl
  unfold encBytes
  rw [e1, e2, e3, e4, e5, h1, h2, h3, h4]
  rfl
theorem k_decA : decE ⟨sA.toArray⟩ = some cA := by kernel_rfl
theorem k_decB : decE (⟨sA.toArray⟩ ++ ⟨#[63]⟩) = none := by
  rw [show (⟨sA.toArray⟩ ++ ⟨#[63]⟩ : ByteArray) = ⟨(sA ++ [63]).toArray⟩ from str_app2 sA [63]]
  kernel_rfl
theorem small_A : smallC cA := ⟨by decide, by decide, by decide, fun x hx => by simp [cA] at hx; rcases hx with rfl | rfl <;> decide⟩
theorem small_X : smallC xA := ⟨by decide, by decide, by decide, fun x hx => by simp [xA] at hx; subst hx; decide⟩
theorem q_encA : PCalls Try.prog 35 [vA] (.tup [.str ⟨sA.toArray⟩, .int .i64 0]) := by
  have := p_cenc cA small_A
  unfold encV at this
  rw [if_pos k_chkA, k_encA] at this
  exact this
theorem q_decA : PCalls Try.prog 45 [.str ⟨sA.toArray⟩] (.tup [vA, .int .i64 0]) := by
  have := p_cdec ⟨sA.toArray⟩ (by decide)
  rw [k_decA] at this
  exact this
theorem q_decB : PCalls Try.prog 45 [.str (⟨sA.toArray⟩ ++ ⟨#[63]⟩)] (.tup [vC zeroC, .int .i64 2]) := by
  have := p_cdec (⟨sA.toArray⟩ ++ ⟨#[63]⟩) (by decide)
  rw [k_decB] at this
  exact this
theorem q_rulesA : PCalls Try.prog 42 [vA] (.lst .ro 2 [.str wDA, .str wBA, .str wBA, .str wBA]) := p_rules cA (by decide)
theorem q_chkA : PCalls Try.prog 37 [vA] (.int .i64 0) := by
  have := p_check cA small_A
  rw [k_chkA] at this
  exact this
theorem q_chkX : PCalls Try.prog 37 [vX] (.int .i64 4) := by
  have := p_check xA small_X
  rw [k_chkX] at this
  exact this
theorem q_sameAA : PCalls Try.prog 47 [vA, vA] (.bool true) := by
  have := p_csame cA cA (by decide)
  rw [show sameE cA cA = true by simp [sameE]] at this
  exact this
theorem q_sameAX : PCalls Try.prog 47 [vA, vX] (.bool false) := by
  have := p_csame cA xA (by decide)
  rw [show sameE cA xA = false by simp [sameE, cA, xA]] at this
  exact this
theorem q_hold9 : PCalls Try.prog 39 [vA, .int .i64 9] (.bool true) := p_holds cA 9
theorem q_hold10 : PCalls Try.prog 39 [vA, .int .i64 10] (.bool false) := p_holds cA 10
theorem q_ofBA : PCalls Try.prog 49 [.lst .ro 2 [.int .u16 24577, .int .u16 24578]] (.str wBA) := p_rof [24577, 24578] (by decide) (by decide)
theorem q_ofDA : PCalls Try.prog 49 [.lst .ro 2 [.int .u16 1, .int .u16 24578]] (.str wDA) := p_rof [1, 24578] (by decide) (by decide)
theorem q_ofA : PCalls Try.prog 49 [.lst .ro 1 [.int .u16 24578]] (.str wA1) := p_rof [24578] (by decide) (by decide)
theorem eq_rule (a b c d : ByteArray) : eqCells [1, 1] [.str a, .str b] [.str c, .str d] = some (decide (a = c ∧ b = d)) := by
  simp only [eqCells, eqCell, Option.some.injEq, Bool.and_true]
  rw [Bool.decide_and]
set_option maxRecDepth 100000 in
set_option maxHeartbeats 4000000 in
theorem p_awake8 : PCalls Try.prog 33 [] (.bool true) := by
  refine pcalls_of (by first | rfl | simp [free, free.frees, frees_str, frees_u8, frees_u16]) (by first | rfl | simp [free, free.frees, frees_str, frees_u8, frees_u16]) (acalls_of mixed J_law08_awake_ok (Nat.le_of_ble_eq_true rfl) ?_); simp only [J_law08_awake, wk,if_true,if_false,forall_const,implies_true,ne_eq,eq_self,Nat.reduceEqDiff,Nat.reduceAdd,Nat.reduceMul,Nat.reduceSub,Nat.reduceLeDiff,Nat.reduceLT,Int.reduceEq,Int.reduceLT,Int.reduceLE,Int.reduceAdd,Int.reduceSub,Int.reduceMul,Int.reduceNeg,Int.reduceNe,reduceCtorEq,Int.reduceToNat,↓reduceIte]
  refine PCalls.use (q_ofBA) ?_; simp only [wk,if_true,if_false,forall_const,implies_true,ne_eq,eq_self,Nat.reduceEqDiff,Nat.reduceAdd,Nat.reduceMul,Nat.reduceSub,Nat.reduceLeDiff,Nat.reduceLT,Int.reduceEq,Int.reduceLT,Int.reduceLE,Int.reduceAdd,Int.reduceSub,Int.reduceMul,Int.reduceNeg,Int.reduceNe,reduceCtorEq,Int.reduceToNat,↓reduceIte]
  refine PCalls.use (q_ofDA) ?_; simp only [wk,if_true,if_false,forall_const,implies_true,ne_eq,eq_self,Nat.reduceEqDiff,Nat.reduceAdd,Nat.reduceMul,Nat.reduceSub,Nat.reduceLeDiff,Nat.reduceLT,Int.reduceEq,Int.reduceLT,Int.reduceLE,Int.reduceAdd,Int.reduceSub,Int.reduceMul,Int.reduceNeg,Int.reduceNe,reduceCtorEq,Int.reduceToNat,↓reduceIte]
  refine PCalls.use (q_ofBA) ?_; simp only [wk,if_true,if_false,forall_const,implies_true,ne_eq,eq_self,Nat.reduceEqDiff,Nat.reduceAdd,Nat.reduceMul,Nat.reduceSub,Nat.reduceLeDiff,Nat.reduceLT,Int.reduceEq,Int.reduceLT,Int.reduceLE,Int.reduceAdd,Int.reduceSub,Int.reduceMul,Int.reduceNeg,Int.reduceNe,reduceCtorEq,Int.reduceToNat,↓reduceIte]
  refine PCalls.use (q_encA) ?_; simp only [wk,if_true,if_false,forall_const,implies_true,ne_eq,eq_self,Nat.reduceEqDiff,Nat.reduceAdd,Nat.reduceMul,Nat.reduceSub,Nat.reduceLeDiff,Nat.reduceLT,Int.reduceEq,Int.reduceLT,Int.reduceLE,Int.reduceAdd,Int.reduceSub,Int.reduceMul,Int.reduceNeg,Int.reduceNe,reduceCtorEq,Int.reduceToNat,↓reduceIte]
  refine PCalls.use (q_decA) ?_; simp only [wk,if_true,if_false,forall_const,implies_true,ne_eq,eq_self,Nat.reduceEqDiff,Nat.reduceAdd,Nat.reduceMul,Nat.reduceSub,Nat.reduceLeDiff,Nat.reduceLT,Int.reduceEq,Int.reduceLT,Int.reduceLE,Int.reduceAdd,Int.reduceSub,Int.reduceMul,Int.reduceNeg,Int.reduceNe,reduceCtorEq,Int.reduceToNat,↓reduceIte]
  refine PCalls.use (q_ofA) ?_; simp only [wk,if_true,if_false,forall_const,implies_true,ne_eq,eq_self,Nat.reduceEqDiff,Nat.reduceAdd,Nat.reduceMul,Nat.reduceSub,Nat.reduceLeDiff,Nat.reduceLT,Int.reduceEq,Int.reduceLT,Int.reduceLE,Int.reduceAdd,Int.reduceSub,Int.reduceMul,Int.reduceNeg,Int.reduceNe,reduceCtorEq,Int.reduceToNat,↓reduceIte]
  refine PCalls.use (q_rulesA) ?_; simp only [wk,if_true,if_false,forall_const,implies_true,ne_eq,eq_self,Nat.reduceEqDiff,Nat.reduceAdd,Nat.reduceMul,Nat.reduceSub,Nat.reduceLeDiff,Nat.reduceLT,Int.reduceEq,Int.reduceLT,Int.reduceLE,Int.reduceAdd,Int.reduceSub,Int.reduceMul,Int.reduceNeg,Int.reduceNe,reduceCtorEq,Int.reduceToNat,↓reduceIte]
  refine ⟨by decide, ?_⟩
  refine PCalls.use (q_decB) ?_; simp only [wk,if_true,if_false,forall_const,implies_true,ne_eq,eq_self,Nat.reduceEqDiff,Nat.reduceAdd,Nat.reduceMul,Nat.reduceSub,Nat.reduceLeDiff,Nat.reduceLT,Int.reduceEq,Int.reduceLT,Int.reduceLE,Int.reduceAdd,Int.reduceSub,Int.reduceMul,Int.reduceNeg,Int.reduceNe,reduceCtorEq,Int.reduceToNat,↓reduceIte]
  simp only [vC, cC, zeroC, wk,if_true,if_false,forall_const,implies_true,ne_eq,eq_self,Nat.reduceEqDiff,Nat.reduceAdd,Nat.reduceMul,Nat.reduceSub,Nat.reduceLeDiff,Nat.reduceLT,Int.reduceEq,Int.reduceLT,Int.reduceLE,Int.reduceAdd,Int.reduceSub,Int.reduceMul,Int.reduceNeg,Int.reduceNe,reduceCtorEq,Int.reduceToNat,↓reduceIte]
  refine ⟨_, q_chkA, ?_⟩; simp only [wk,if_true,if_false,forall_const,implies_true,ne_eq,eq_self,Nat.reduceEqDiff,Nat.reduceAdd,Nat.reduceMul,Nat.reduceSub,Nat.reduceLeDiff,Nat.reduceLT,Int.reduceEq,Int.reduceLT,Int.reduceLE,Int.reduceAdd,Int.reduceSub,Int.reduceMul,Int.reduceNeg,Int.reduceNe,reduceCtorEq,Int.reduceToNat,↓reduceIte]
  refine ⟨_, q_sameAA, ?_⟩; simp only [wk,if_true,if_false,forall_const,implies_true,ne_eq,eq_self,Nat.reduceEqDiff,Nat.reduceAdd,Nat.reduceMul,Nat.reduceSub,Nat.reduceLeDiff,Nat.reduceLT,Int.reduceEq,Int.reduceLT,Int.reduceLE,Int.reduceAdd,Int.reduceSub,Int.reduceMul,Int.reduceNeg,Int.reduceNe,reduceCtorEq,Int.reduceToNat,↓reduceIte]
  refine ⟨_, q_sameAX, ?_⟩; simp only [wk,if_true,if_false,forall_const,implies_true,ne_eq,eq_self,Nat.reduceEqDiff,Nat.reduceAdd,Nat.reduceMul,Nat.reduceSub,Nat.reduceLeDiff,Nat.reduceLT,Int.reduceEq,Int.reduceLT,Int.reduceLE,Int.reduceAdd,Int.reduceSub,Int.reduceMul,Int.reduceNeg,Int.reduceNe,reduceCtorEq,Int.reduceToNat,↓reduceIte]
  refine ⟨_, q_chkX, ?_⟩; simp only [wk,if_true,if_false,forall_const,implies_true,ne_eq,eq_self,Nat.reduceEqDiff,Nat.reduceAdd,Nat.reduceMul,Nat.reduceSub,Nat.reduceLeDiff,Nat.reduceLT,Int.reduceEq,Int.reduceLT,Int.reduceLE,Int.reduceAdd,Int.reduceSub,Int.reduceMul,Int.reduceNeg,Int.reduceNe,reduceCtorEq,Int.reduceToNat,↓reduceIte]
  refine ⟨fun _ => ⟨by decide, _, q_ofDA, _, q_ofBA, ?_⟩, fun h => absurd rfl h⟩
  simp only [eq_rule, true_and, and_self, decide_true, wk,if_true,if_false,forall_const,implies_true,ne_eq,eq_self,Nat.reduceEqDiff,Nat.reduceAdd,Nat.reduceMul,Nat.reduceSub,Nat.reduceLeDiff,Nat.reduceLT,Int.reduceEq,Int.reduceLT,Int.reduceLE,Int.reduceAdd,Int.reduceSub,Int.reduceMul,Int.reduceNeg,Int.reduceNe,reduceCtorEq,Int.reduceToNat,↓reduceIte]
  refine ⟨_, q_hold9, ?_⟩; simp only [wk,if_true,if_false,forall_const,implies_true,ne_eq,eq_self,Nat.reduceEqDiff,Nat.reduceAdd,Nat.reduceMul,Nat.reduceSub,Nat.reduceLeDiff,Nat.reduceLT,Int.reduceEq,Int.reduceLT,Int.reduceLE,Int.reduceAdd,Int.reduceSub,Int.reduceMul,Int.reduceNeg,Int.reduceNe,reduceCtorEq,Int.reduceToNat,↓reduceIte]
  refine ⟨_, q_hold10, ?_⟩; simp only [wk,if_true,if_false,forall_const,implies_true,ne_eq,eq_self,Nat.reduceEqDiff,Nat.reduceAdd,Nat.reduceMul,Nat.reduceSub,Nat.reduceLeDiff,Nat.reduceLT,Int.reduceEq,Int.reduceLT,Int.reduceLE,Int.reduceAdd,Int.reduceSub,Int.reduceMul,Int.reduceNeg,Int.reduceNe,reduceCtorEq,Int.reduceToNat,↓reduceIte]
  have hsz : (⟨sA.toArray⟩ : ByteArray).size = 22 := rfl
  refine ⟨fun h => ⟨h, ?_⟩, fun h => absurd (by rw [hsz]; decide) h⟩
  have : byteAt ⟨sA.toArray⟩ 0 = 7 := rfl
  rw [this]
  rfl
/-- too large -/
def largeE (c : Crt) : Bool := decide (100 < c.speaker.size) || (decide (60 < c.words.length) || c.words.any fun w => decide (100 < w.size))
set_option maxRecDepth 100000 in
set_option maxHeartbeats 4000000 in
theorem p_large8 (c : Crt) (h : c.words.length ≤ 9223372036854775807) : PCalls Try.prog 34 [vC c] (.bool (largeE c)) := by
  refine pcalls_of (by simp [free.frees, free_vC]) rfl (acalls_of mixed J_law08_large_ok (Nat.le_of_ble_eq_true rfl) ?_); simp only [J_law08_large, vC, cC, wk,if_true,if_false,forall_const,implies_true,ne_eq,eq_self,Nat.reduceEqDiff,Nat.reduceAdd,Nat.reduceMul,Nat.reduceSub,Nat.reduceLeDiff,Nat.reduceLT,Int.reduceEq,Int.reduceLT,Int.reduceLE,Int.reduceAdd,Int.reduceSub,Int.reduceMul,Int.reduceNeg,Int.reduceNe,reduceCtorEq,Int.reduceToNat,↓reduceIte]
  have big : (100 < c.speaker.size ∨ 60 < c.words.length ∨ ∃ w ∈ c.words, 100 < w.size) → AV.bool true = .bool (largeE c) := fun hb => by
    congr 1
    symm
    simp only [largeE, Bool.or_eq_true, decide_eq_true_eq, List.any_eq_true]
    exact hb
  refine ⟨fun h1 => ⟨fun h2 => big (.inr (.inl (by omega))), fun h2 => ?_⟩, fun h1 => big (.inl (by omega))⟩
  refine W_loop (fun n fr h => ∃ i : Nat, i ≤ c.words.length ∧ n = c.words.length - i ∧ h = [some (false, cC c)] ∧ fr = [(1, .ptr 0 0), (16, .int .i64 c.words.length), (17, .int .i64 i)] ∧ ∀ w ∈ c.words.take i, ¬ 100 < w.size) c.words.length ⟨0, by omega, by omega, rfl, rfl, by simp⟩ ?_
  rintro n fr h' ⟨i, hi, rfl, rfl, rfl, hall⟩
  simp only [J_law08_large_j2, cC, wk,if_true,if_false,forall_const,implies_true,ne_eq,eq_self,Nat.reduceEqDiff,Nat.reduceAdd,Nat.reduceMul,Nat.reduceSub,Nat.reduceLeDiff,Nat.reduceLT,Int.reduceEq,Int.reduceLT,Int.reduceLE,Int.reduceAdd,Int.reduceSub,Int.reduceMul,Int.reduceNeg,Int.reduceNe,reduceCtorEq,Int.reduceToNat,↓reduceIte]
  refine ⟨fun hlt => ?_, fun hge => ?_⟩
  · have hil : i < c.words.length := by omega
    have hd : (c.words.map AV.str).drop (i : Int).toNat = .str c.words[i] :: (c.words.map AV.str).drop (i + 1) := by rw [show (i : Int).toNat = i by omega, drop_str hil]
    refine ⟨⟨by omega, by omega⟩, ?_⟩
    simp only [hd, wk,if_true,if_false,forall_const,implies_true,ne_eq,eq_self,Nat.reduceEqDiff,Nat.reduceAdd,Nat.reduceMul,Nat.reduceSub,Nat.reduceLeDiff,Nat.reduceLT,Int.reduceEq,Int.reduceLT,Int.reduceLE,Int.reduceAdd,Int.reduceSub,Int.reduceMul,Int.reduceNeg,Int.reduceNe,reduceCtorEq,Int.reduceToNat,↓reduceIte]
    refine ⟨fun h4 => big (.inr (.inr ⟨_, List.getElem_mem hil, by omega⟩)), fun h4 => ⟨inR_of (by omega) (by omega), c.words.length - (i + 1), by omega, i + 1, by omega, rfl, rfl, fun w hw => ?_⟩⟩
    rcases (take_mem_succ hil).1 hw with h | h
    · exact hall w h
    · subst h; omega
  · rw [List.take_of_length_le (by omega)] at hall
    simp only [J_law08_large_j1, wk,if_true,if_false,forall_const,implies_true,ne_eq,eq_self,Nat.reduceEqDiff,Nat.reduceAdd,Nat.reduceMul,Nat.reduceSub,Nat.reduceLeDiff,Nat.reduceLT,Int.reduceEq,Int.reduceLT,Int.reduceLE,Int.reduceAdd,Int.reduceSub,Int.reduceMul,Int.reduceNeg,Int.reduceNe,reduceCtorEq,Int.reduceToNat,↓reduceIte]
    congr 1
    symm
    simp only [largeE, Bool.or_eq_false_iff, decide_eq_false_iff_not, List.any_eq_false, decide_eq_true_eq]
    exact ⟨by omega, by omega, hall⟩
/-- what is not too large -/
theorem not_large {c : Crt} (h : largeE c = false) : c.speaker.size ≤ 100 ∧ c.words.length ≤ 60 ∧ ∀ w ∈ c.words, w.size ≤ 100 := by
  simp only [largeE, Bool.or_eq_false_iff, decide_eq_false_iff_not, List.any_eq_false, decide_eq_true_eq] at h
  exact ⟨by omega, by omega, fun w hw => by have := h.2.2 w hw; omega⟩
theorem small_of {c : Crt} (hg : c.signer < 65536) (h : largeE c = false) : smallC c := by
  obtain ⟨h1, h2, h3⟩ := not_large h
  exact ⟨hg, by omega, by omega, fun x hx => by have := h3 x hx; omega⟩
end Go.Proofs.Ytaepikkaogfhbaa

/- The plain laws of certificates' bytes. No program in sight. -/
namespace Go.Proofs.Ytaepikkaogfhbaa
set_option linter.unusedSimpArgs false
set_option linter.unusedVariables false
open Go.RowKit Go.Lib

theorem drop_take2 {S : ByteArray} {p : Nat} {a r : List UInt8} (h : S.data.toList.drop p = a ++ r) : S.data.toList.drop (p + a.length) = r := drop_more h
theorem enc_dec {c : Crt} (h : checkE c = 0) : decE ⟨(encBytes c).toArray⟩ = some c := by
  have g := good_of h
  obtain ⟨S, hS⟩ : ∃ S : ByteArray, S = ⟨(encBytes c).toArray⟩ := ⟨_, rfl⟩
  rw [← hS]
  have hl : S.data.toList = encBytes c := by rw [hS]
  have hsz : S.size = (encBytes c).length := by rw [hS]; exact ba_size _
  have h0 : S.data.toList.drop 0 = num c.kind.toNat ++ (num c.signer ++ (wordBytes c.speaker ++ (setBytes c.words ++ (num c.since.toNat ++ (num (c.till - c.since).toNat ++ num c.serial.toNat))))) := by rw [hl]; rfl
  have gk := g.kind
  have gs := g.signer
  have g1 := g.since
  have g2 := g.till
  have g3 := g.serial
  have g4 := g.order
  have r1 := rNum_at (most := 7) h0 (by omega) (by omega)
  have h1 := drop_take2 h0
  have r2 := rNum_at (most := 49151) h1 (by omega) (by omega)
  have h2 := drop_take2 h1
  have r3 := rWord_at h2 g.speaker
  have h3 := drop_take2 h2
  have r4 := rSet_at h3 g.words
  have h4 := drop_take2 h3
  have r5 := rNum_at (most := 4611686018427387904) h4 (by omega) (by omega)
  have h5 := drop_take2 h4
  have r6 := rNum_at (most := 4611686018427387904 - (c.since.toNat : Int)) h5 (by omega) (by omega)
  have h6 := drop_take2 h5
  rw [← List.append_nil (num c.serial.toNat)] at h6
  have r7 := rNum_at (most := 4611686018427387904) h6 (by omega) (by omega)
  unfold decE
  rw [decP_some]
  refine ⟨_, _, _, _, _, _, _, _, _, _, _, _, _, _, r1, r2, r3, r4, r5, r6, r7, ?_, h, ?_⟩
  · rw [hsz]
    simp only [encBytes, List.length_append]
    omega
  · obtain ⟨kind, signer, speaker, words, since, till, serial⟩ := c
    simp only at gk g1 g2 g3 g4
    simp only [Crt.mk.injEq, true_and]
    omega
theorem rNum_start {S : ByteArray} {m : Int} {p n q : Nat} (h : rNum S m p = some (n, q)) (hp : p ≤ S.size) : q ≤ S.size := (rNum_le h hp).2.1
theorem dec_enc {S : ByteArray} {c : Crt} (h : decE S = some c) : encBytes c = S.data.toList ∧ checkE c = 0 ∧ smallC c := by
  unfold decE at h
  rw [decP_some] at h
  obtain ⟨k, p1, g, p2, w, p3, l, p4, f, p5, d, p6, n, p7, e1, e2, e3, e4, e5, e6, e7, hp, hc, rfl⟩ := h
  have b1 := rNum_start e1 (Nat.zero_le _)
  have b2 := rNum_start e2 b1
  have b3 := (rWord_le e3).2.1
  have b4 := (upTo_set e4).2.2.2
  have b5 := rNum_start e5 b4
  have b6 := rNum_start e6 b5
  have b7 := rNum_start e7 b6
  have hp7 : p7 = S.size := by omega
  have u1 := upTo_num e1
  have u2 := upTo_num e2
  have u3 := upTo_word e3
  have u4 := (upTo_set e4).1
  have u5 := upTo_num e5
  have u6 := upTo_num e6
  have u7 := upTo_num e7
  have m2 := rNum_most e2
  refine ⟨?_, hc, by show g < 65536; omega, ?_, ?_, ?_⟩
  · rw [← upTo_size S, ← hp7, u7, u6, u5, u4, u3, u2, u1]
    have e0 : upTo S 0 = [] := rfl
    have ed : ((f : Int) + (d : Int) - (f : Int)).toNat = d := by omega
    simp only [encBytes, e0, List.nil_append, List.append_assoc, Int.toNat_natCast, ed]
  · exact Nat.le_trans (wordMay_le (rWord_le e3).2.2.1) (by omega)
  · exact Nat.le_trans (setMay_small (upTo_set e4).2.1).1 (by omega)
  · exact fun x hx => Nat.le_trans ((setMay_small (upTo_set e4).2.1).2 x hx) (by omega)
theorem enc_inj {a b : Crt} (ha : checkE a = 0) (hb : checkE b = 0) : (encBytes a = encBytes b) ↔ sameE a b = true := by
  constructor
  · intro h
    have h1 := enc_dec ha
    rw [h, enc_dec hb] at h1
    simp only [Option.some.injEq] at h1
    subst h1
    simp [sameE]
  · intro h
    obtain ⟨k, g, w, l, f, t, n⟩ := a
    obtain ⟨k', g', w', l', f', t', n'⟩ := b
    simp only [sameE, decide_eq_true_eq] at h
    obtain ⟨rfl, rfl, rfl, rfl, rfl, rfl, rfl⟩ := h
    rfl
theorem same_self (a : Crt) : sameE a a = true := by simp [sameE]
theorem same_symm (a b : Crt) : sameE a b = sameE b a := by
  unfold sameE
  congr 1
  apply propext
  constructor <;> (rintro ⟨h1, h2, h3, h4, h5, h6, h7⟩; exact ⟨h1.symm, h2.symm, h3.symm, h4.symm, h5.symm, h6.symm, h7.symm⟩)
theorem ba_eq {a b : List UInt8} : ((⟨a.toArray⟩ : ByteArray) = ⟨b.toArray⟩) ↔ a = b := by
  constructor
  · intro h; simpa using h
  · rintro rfl; rfl
theorem ba_of (S : ByteArray) : (⟨S.data.toList.toArray⟩ : ByteArray) = S := by apply ByteArray.ext; apply Array.ext'; simp
theorem bytes_bound {c : Crt} (h : checkE c = 0) (hs : smallC c) : (encBytes c).length ≤ 1000000 := by
  have g := good_of h
  obtain ⟨w16, ws⟩ := setMay_small g.words
  have l1 : (num c.kind.toNat).length ≤ 9 := (num_len9 (by have := g.kind; omega)).2
  have l2 : (num c.signer).length ≤ 9 := (num_len9 (by have := hs.1; omega)).2
  have l3 : (wordBytes c.speaker).length ≤ 17 := by have := wordMay_le g.speaker; simp [wordBytes]; omega
  have l4 : (setBytes c.words).length ≤ 300 := by
    have : ∀ l : List ByteArray, (∀ x ∈ l, x.size ≤ 16) → (l.flatMap wordBytes).length ≤ 17 * l.length := by
      intro l
      induction l with
      | nil => simp
      | cons x l ih =>
        intro hx
        have h1 := hx x (by simp)
        have h2 := ih (fun y hy => hx y (by simp [hy]))
        simp only [List.flatMap_cons, List.length_append, List.length_cons]
        have : (wordBytes x).length ≤ 17 := by simp [wordBytes]; omega
        omega
    have := this c.words ws
    simp only [setBytes, List.length_cons]
    omega
  have l5 : (num c.since.toNat).length ≤ 9 := (num_len9 (by have := g.since; omega)).2
  have l6 : (num (c.till - c.since).toNat).length ≤ 9 := (num_len9 (by have := g.since; have := g.till; omega)).2
  have l7 : (num c.serial.toNat).length ≤ 9 := (num_len9 (by have := g.serial; omega)).2
  simp only [encBytes, List.length_append]
  omega
end Go.Proofs.Ytaepikkaogfhbaa

/- The laws on certificates, over the abstract code. -/
namespace Go.Proofs.Ytaepikkaogfhbaa
set_option linter.unusedSimpArgs false
set_option linter.unusedVariables false
open Go.RowKit Go.Lib

theorem decV_get (r : Option Crt) : ∃ c e, decV r = .tup [vC c, .int .i64 e] ∧ ((r = some c ∧ e = 0) ∨ (r = none ∧ c = zeroC ∧ e = 2)) := by
  cases r with
  | some c => exact ⟨c, 0, rfl, .inl ⟨rfl, rfl⟩⟩
  | none => exact ⟨zeroC, 2, rfl, .inr ⟨rfl, rfl, rfl⟩⟩
theorem encV_get (c : Crt) : (checkE c = 0 ∧ encV c = .tup [.str ⟨(encBytes c).toArray⟩, .int .i64 0]) ∨ (checkE c ≠ 0 ∧ encV c = .tup [.str ⟨#[]⟩, .int .i64 (checkE c)]) := by
  by_cases h : checkE c = 0
  · exact .inl ⟨h, by unfold encV; rw [if_pos h]⟩
  · exact .inr ⟨h, by unfold encV; rw [if_neg h]⟩
set_option maxRecDepth 100000 in
set_option maxHeartbeats 4000000 in
theorem a_creads (S : ByteArray) : ACalls Try.prog 9 [.str S] [] (fun a _ => a = .bool true) := by
  refine acalls_of mixed J_law08_CertReads_ok (Nat.le_of_ble_eq_true rfl) ?_; simp only [J_law08_CertReads, wk,if_true,if_false,forall_const,implies_true,ne_eq,eq_self,Nat.reduceEqDiff,Nat.reduceAdd,Nat.reduceMul,Nat.reduceSub,Nat.reduceLeDiff,Nat.reduceLT,Int.reduceEq,Int.reduceLT,Int.reduceLE,Int.reduceAdd,Int.reduceSub,Int.reduceMul,Int.reduceNeg,Int.reduceNe,reduceCtorEq,Int.reduceToNat,↓reduceIte]
  refine PCalls.use (p_awake8) ?_; simp only [wk,if_true,if_false,forall_const,implies_true,ne_eq,eq_self,Nat.reduceEqDiff,Nat.reduceAdd,Nat.reduceMul,Nat.reduceSub,Nat.reduceLeDiff,Nat.reduceLT,Int.reduceEq,Int.reduceLT,Int.reduceLE,Int.reduceAdd,Int.reduceSub,Int.reduceMul,Int.reduceNeg,Int.reduceNe,reduceCtorEq,Int.reduceToNat,↓reduceIte]
  refine fun hsz => ?_
  have hS : S.size ≤ 1000000 := by omega
  obtain ⟨c, e, hd, hce⟩ := decV_get (decE S)
  have h1 := p_cdec S hS
  have h2 := p_rcdec S hS
  rw [hd] at h1 h2
  simp only [vC, cC] at h1 h2
  refine PCalls.use (h1) ?_; simp only [wk,if_true,if_false,forall_const,implies_true,ne_eq,eq_self,Nat.reduceEqDiff,Nat.reduceAdd,Nat.reduceMul,Nat.reduceSub,Nat.reduceLeDiff,Nat.reduceLT,Int.reduceEq,Int.reduceLT,Int.reduceLE,Int.reduceAdd,Int.reduceSub,Int.reduceMul,Int.reduceNeg,Int.reduceNe,reduceCtorEq,Int.reduceToNat,↓reduceIte]
  refine PCalls.use (h2) ?_; simp only [wk,if_true,if_false,forall_const,implies_true,ne_eq,eq_self,Nat.reduceEqDiff,Nat.reduceAdd,Nat.reduceMul,Nat.reduceSub,Nat.reduceLeDiff,Nat.reduceLT,Int.reduceEq,Int.reduceLT,Int.reduceLE,Int.reduceAdd,Int.reduceSub,Int.reduceMul,Int.reduceNeg,Int.reduceNe,reduceCtorEq,Int.reduceToNat,↓reduceIte]
  have hw : c.words.length ≤ 9223372036854775807 := by
    rcases hce with ⟨h, _⟩ | ⟨_, rfl, _⟩
    · have := (dec_enc h).2.2.2.2.1; omega
    · decide
  have h3 := p_rcsame c c hw
  rw [same_self] at h3
  simp only [vC, cC] at h3
  refine PCalls.use (h3) ?_; simp only [wk,if_true,if_false,forall_const,implies_true,ne_eq,eq_self,Nat.reduceEqDiff,Nat.reduceAdd,Nat.reduceMul,Nat.reduceSub,Nat.reduceLeDiff,Nat.reduceLT,Int.reduceEq,Int.reduceLT,Int.reduceLE,Int.reduceAdd,Int.reduceSub,Int.reduceMul,Int.reduceNeg,Int.reduceNe,reduceCtorEq,Int.reduceToNat,↓reduceIte]
set_option maxRecDepth 100000 in
set_option maxHeartbeats 4000000 in
theorem a_cholds (c : Crt) (t : Int) (hg : c.signer < 65536) (hw : c.words.length ≤ 9223372036854775807) (ht : -9223372036854775808 ≤ t ∧ t ≤ 9223372036854775807) : ACalls Try.prog 14 [vC c, .int .i64 t] [] (fun a _ => a = .bool true) := by
  refine acalls_of mixed J_law08_CertHolds_ok (Nat.le_of_ble_eq_true rfl) ?_; simp only [J_law08_CertHolds, vC, cC, wk,if_true,if_false,forall_const,implies_true,ne_eq,eq_self,Nat.reduceEqDiff,Nat.reduceAdd,Nat.reduceMul,Nat.reduceSub,Nat.reduceLeDiff,Nat.reduceLT,Int.reduceEq,Int.reduceLT,Int.reduceLE,Int.reduceAdd,Int.reduceSub,Int.reduceMul,Int.reduceNeg,Int.reduceNe,reduceCtorEq,Int.reduceToNat,↓reduceIte]
  have q1 := p_large8 c hw
  simp only [vC, cC] at q1
  refine PCalls.use (p_awake8) ?_; simp only [wk,if_true,if_false,forall_const,implies_true,ne_eq,eq_self,Nat.reduceEqDiff,Nat.reduceAdd,Nat.reduceMul,Nat.reduceSub,Nat.reduceLeDiff,Nat.reduceLT,Int.reduceEq,Int.reduceLT,Int.reduceLE,Int.reduceAdd,Int.reduceSub,Int.reduceMul,Int.reduceNeg,Int.reduceNe,reduceCtorEq,Int.reduceToNat,↓reduceIte]
  refine PCalls.use (q1) ?_; simp only [wk,if_true,if_false,forall_const,implies_true,ne_eq,eq_self,Nat.reduceEqDiff,Nat.reduceAdd,Nat.reduceMul,Nat.reduceSub,Nat.reduceLeDiff,Nat.reduceLT,Int.reduceEq,Int.reduceLT,Int.reduceLE,Int.reduceAdd,Int.reduceSub,Int.reduceMul,Int.reduceNeg,Int.reduceNe,reduceCtorEq,Int.reduceToNat,↓reduceIte]
  refine fun hl => ?_
  have hsm := small_of hg hl
  have q2 := p_check c hsm
  simp only [vC, cC] at q2
  refine PCalls.use (q2) ?_; simp only [wk,if_true,if_false,forall_const,implies_true,ne_eq,eq_self,Nat.reduceEqDiff,Nat.reduceAdd,Nat.reduceMul,Nat.reduceSub,Nat.reduceLeDiff,Nat.reduceLT,Int.reduceEq,Int.reduceLT,Int.reduceLE,Int.reduceAdd,Int.reduceSub,Int.reduceMul,Int.reduceNeg,Int.reduceNe,reduceCtorEq,Int.reduceToNat,↓reduceIte]
  refine fun hc => ?_
  have g := good_of hc
  have z := g.since
  have z1 := g.till
  have z2 := g.order
  have hh : ∀ x : Int, PCalls Try.prog 39 [.agg [.int .i64 c.kind, .int .u16 c.signer, .str c.speaker, .lst .ro c.words.length (c.words.map .str), .int .i64 c.since, .int .i64 c.till, .int .i64 c.serial], .int .i64 x] (.bool (holdsE c x)) := fun x => p_holds c x
  have yes : ∀ {x : Int}, c.since ≤ x → x ≤ c.till → holdsE c x = true := fun a b => by simp [holdsE, a, b]
  have no1 : holdsE c (c.since - 1) = false := by simp [holdsE]; omega
  have no2 : holdsE c (c.till + 1) = false := by simp [holdsE]; omega
  have w1 := hh c.since
  rw [yes (Int.le_refl _) z2] at w1
  have w2 := hh c.till
  rw [yes z2 (Int.le_refl _)] at w2
  have w3 := hh (c.since - 1)
  rw [no1] at w3
  have w4 := hh (c.till + 1)
  rw [no2] at w4
  have hdiv : (c.till - c.since).tdiv 2 = (c.till - c.since) / 2 := by rw [Int.tdiv_eq_ediv_of_nonneg (by omega)]
  have w5 := hh (c.since + (c.till - c.since) / 2)
  rw [yes (by omega) (by omega)] at w5
  refine PCalls.use (w1) ?_; simp only [wk,if_true,if_false,forall_const,implies_true,ne_eq,eq_self,Nat.reduceEqDiff,Nat.reduceAdd,Nat.reduceMul,Nat.reduceSub,Nat.reduceLeDiff,Nat.reduceLT,Int.reduceEq,Int.reduceLT,Int.reduceLE,Int.reduceAdd,Int.reduceSub,Int.reduceMul,Int.reduceNeg,Int.reduceNe,reduceCtorEq,Int.reduceToNat,↓reduceIte]
  refine PCalls.use (w2) ?_; simp only [wk,if_true,if_false,forall_const,implies_true,ne_eq,eq_self,Nat.reduceEqDiff,Nat.reduceAdd,Nat.reduceMul,Nat.reduceSub,Nat.reduceLeDiff,Nat.reduceLT,Int.reduceEq,Int.reduceLT,Int.reduceLE,Int.reduceAdd,Int.reduceSub,Int.reduceMul,Int.reduceNeg,Int.reduceNe,reduceCtorEq,Int.reduceToNat,↓reduceIte]
  refine ⟨inR_of (by omega) (by omega), ?_⟩
  refine PCalls.use (w3) ?_; simp only [wk,if_true,if_false,forall_const,implies_true,ne_eq,eq_self,Nat.reduceEqDiff,Nat.reduceAdd,Nat.reduceMul,Nat.reduceSub,Nat.reduceLeDiff,Nat.reduceLT,Int.reduceEq,Int.reduceLT,Int.reduceLE,Int.reduceAdd,Int.reduceSub,Int.reduceMul,Int.reduceNeg,Int.reduceNe,reduceCtorEq,Int.reduceToNat,↓reduceIte]
  refine ⟨inR_of (by omega) (by omega), ?_⟩
  refine PCalls.use (w4) ?_; simp only [wk,if_true,if_false,forall_const,implies_true,ne_eq,eq_self,Nat.reduceEqDiff,Nat.reduceAdd,Nat.reduceMul,Nat.reduceSub,Nat.reduceLeDiff,Nat.reduceLT,Int.reduceEq,Int.reduceLT,Int.reduceLE,Int.reduceAdd,Int.reduceSub,Int.reduceMul,Int.reduceNeg,Int.reduceNe,reduceCtorEq,Int.reduceToNat,↓reduceIte]
  refine ⟨_, hh t, ?_⟩; simp only [wk,if_true,if_false,forall_const,implies_true,ne_eq,eq_self,Nat.reduceEqDiff,Nat.reduceAdd,Nat.reduceMul,Nat.reduceSub,Nat.reduceLeDiff,Nat.reduceLT,Int.reduceEq,Int.reduceLT,Int.reduceLE,Int.reduceAdd,Int.reduceSub,Int.reduceMul,Int.reduceNeg,Int.reduceNe,reduceCtorEq,Int.reduceToNat,↓reduceIte]
  simp only [hdiv]
  have fin : inR (c.till - c.since) ∧ inR ((c.till - c.since) / 2) ∧ inR (c.since + (c.till - c.since) / 2) ∧ ∃ v, PCalls Try.prog 39 [.agg [.int .i64 c.kind, .int .u16 c.signer, .str c.speaker, .lst .ro c.words.length (c.words.map .str), .int .i64 c.since, .int .i64 c.till, .int .i64 c.serial], .int .i64 (c.since + (c.till - c.since) / 2)] v ∧ deg (deg (deg v)) = .bool true :=
    ⟨inR_of (by omega) (by omega), inR_of (by omega) (by omega), inR_of (by omega) (by omega), _, w5, rfl⟩
  refine ⟨fun h => ⟨fun _ => fin, fun h' => absurd ?_ h'⟩, fun h => ⟨fun _ => fin, fun h' => absurd h' ?_⟩⟩
  · simp [holdsE, h]
  · simp [holdsE, h]
set_option maxRecDepth 100000 in
set_option maxHeartbeats 4000000 in
theorem a_csame (a b : Crt) (ha : a.signer < 65536) (hb : b.signer < 65536) (hwa : a.words.length ≤ 9223372036854775807) (hwb : b.words.length ≤ 9223372036854775807) : ACalls Try.prog 13 [vC a, vC b] [] (fun a _ => a = .bool true) := by
  refine acalls_of mixed J_law08_CertSame_ok (Nat.le_of_ble_eq_true rfl) ?_; simp only [J_law08_CertSame, vC, cC, wk,if_true,if_false,forall_const,implies_true,ne_eq,eq_self,Nat.reduceEqDiff,Nat.reduceAdd,Nat.reduceMul,Nat.reduceSub,Nat.reduceLeDiff,Nat.reduceLT,Int.reduceEq,Int.reduceLT,Int.reduceLE,Int.reduceAdd,Int.reduceSub,Int.reduceMul,Int.reduceNeg,Int.reduceNe,reduceCtorEq,Int.reduceToNat,↓reduceIte]
  have q1 := p_large8 a hwa
  have q2 := p_large8 b hwb
  have s1 := p_csame a a hwa
  have s2 := p_csame a b hwa
  have s3 := p_csame b a hwb
  rw [same_self] at s1
  rw [same_symm b a] at s3
  simp only [vC, cC] at q1 q2 s1 s2 s3
  refine PCalls.use (p_awake8) ?_; simp only [wk,if_true,if_false,forall_const,implies_true,ne_eq,eq_self,Nat.reduceEqDiff,Nat.reduceAdd,Nat.reduceMul,Nat.reduceSub,Nat.reduceLeDiff,Nat.reduceLT,Int.reduceEq,Int.reduceLT,Int.reduceLE,Int.reduceAdd,Int.reduceSub,Int.reduceMul,Int.reduceNeg,Int.reduceNe,reduceCtorEq,Int.reduceToNat,↓reduceIte]
  refine PCalls.use (q1) ?_; simp only [wk,if_true,if_false,forall_const,implies_true,ne_eq,eq_self,Nat.reduceEqDiff,Nat.reduceAdd,Nat.reduceMul,Nat.reduceSub,Nat.reduceLeDiff,Nat.reduceLT,Int.reduceEq,Int.reduceLT,Int.reduceLE,Int.reduceAdd,Int.reduceSub,Int.reduceMul,Int.reduceNeg,Int.reduceNe,reduceCtorEq,Int.reduceToNat,↓reduceIte]
  refine fun hl => ?_
  refine PCalls.use (q2) ?_; simp only [wk,if_true,if_false,forall_const,implies_true,ne_eq,eq_self,Nat.reduceEqDiff,Nat.reduceAdd,Nat.reduceMul,Nat.reduceSub,Nat.reduceLeDiff,Nat.reduceLT,Int.reduceEq,Int.reduceLT,Int.reduceLE,Int.reduceAdd,Int.reduceSub,Int.reduceMul,Int.reduceNeg,Int.reduceNe,reduceCtorEq,Int.reduceToNat,↓reduceIte]
  refine fun hl2 => ?_
  refine ⟨_, s1, ?_⟩; simp only [wk,if_true,if_false,forall_const,implies_true,ne_eq,eq_self,Nat.reduceEqDiff,Nat.reduceAdd,Nat.reduceMul,Nat.reduceSub,Nat.reduceLeDiff,Nat.reduceLT,Int.reduceEq,Int.reduceLT,Int.reduceLE,Int.reduceAdd,Int.reduceSub,Int.reduceMul,Int.reduceNeg,Int.reduceNe,reduceCtorEq,Int.reduceToNat,↓reduceIte]
  refine ⟨_, s2, ?_⟩; simp only [wk,if_true,if_false,forall_const,implies_true,ne_eq,eq_self,Nat.reduceEqDiff,Nat.reduceAdd,Nat.reduceMul,Nat.reduceSub,Nat.reduceLeDiff,Nat.reduceLT,Int.reduceEq,Int.reduceLT,Int.reduceLE,Int.reduceAdd,Int.reduceSub,Int.reduceMul,Int.reduceNeg,Int.reduceNe,reduceCtorEq,Int.reduceToNat,↓reduceIte]
  refine ⟨_, s3, ?_⟩; simp only [wk,if_true,if_false,forall_const,implies_true,ne_eq,eq_self,Nat.reduceEqDiff,Nat.reduceAdd,Nat.reduceMul,Nat.reduceSub,Nat.reduceLeDiff,Nat.reduceLT,Int.reduceEq,Int.reduceLT,Int.reduceLE,Int.reduceAdd,Int.reduceSub,Int.reduceMul,Int.reduceNeg,Int.reduceNe,reduceCtorEq,Int.reduceToNat,↓reduceIte]
  have e1 := p_cenc a (small_of ha hl)
  have e2 := p_cenc b (small_of hb hl2)
  simp only [vC, cC] at e1 e2
  rcases encV_get a with ⟨k1, x1⟩ | ⟨k1, x1⟩
  · rw [x1] at e1
    refine PCalls.use (e1) ?_; simp only [wk,if_true,if_false,forall_const,implies_true,ne_eq,eq_self,Nat.reduceEqDiff,Nat.reduceAdd,Nat.reduceMul,Nat.reduceSub,Nat.reduceLeDiff,Nat.reduceLT,Int.reduceEq,Int.reduceLT,Int.reduceLE,Int.reduceAdd,Int.reduceSub,Int.reduceMul,Int.reduceNeg,Int.reduceNe,reduceCtorEq,Int.reduceToNat,↓reduceIte]
    rcases encV_get b with ⟨k2, x2⟩ | ⟨k2, x2⟩
    · rw [x2] at e2
      refine PCalls.use (e2) ?_; simp only [wk,if_true,if_false,forall_const,implies_true,ne_eq,eq_self,Nat.reduceEqDiff,Nat.reduceAdd,Nat.reduceMul,Nat.reduceSub,Nat.reduceLeDiff,Nat.reduceLT,Int.reduceEq,Int.reduceLT,Int.reduceLE,Int.reduceAdd,Int.reduceSub,Int.reduceMul,Int.reduceNeg,Int.reduceNe,reduceCtorEq,Int.reduceToNat,↓reduceIte]
      refine PCalls.use (s2) ?_; simp only [wk,if_true,if_false,forall_const,implies_true,ne_eq,eq_self,Nat.reduceEqDiff,Nat.reduceAdd,Nat.reduceMul,Nat.reduceSub,Nat.reduceLeDiff,Nat.reduceLT,Int.reduceEq,Int.reduceLT,Int.reduceLE,Int.reduceAdd,Int.reduceSub,Int.reduceMul,Int.reduceNeg,Int.reduceNe,reduceCtorEq,Int.reduceToNat,↓reduceIte]
      congr 1
      simp only [decide_eq_true_eq, ba_eq]
      by_cases hs : sameE a b = true
      · rw [hs, decide_eq_true ((enc_inj k1 k2).2 hs)]
      · have hn : ¬ encBytes a = encBytes b := fun e => hs ((enc_inj k1 k2).1 e)
        rw [decide_eq_false hn]
        simpa using hs
    · rw [x2] at e2
      refine PCalls.use (e2) ?_; simp only [wk,if_true,if_false,forall_const,implies_true,ne_eq,eq_self,Nat.reduceEqDiff,Nat.reduceAdd,Nat.reduceMul,Nat.reduceSub,Nat.reduceLeDiff,Nat.reduceLT,Int.reduceEq,Int.reduceLT,Int.reduceLE,Int.reduceAdd,Int.reduceSub,Int.reduceMul,Int.reduceNeg,Int.reduceNe,reduceCtorEq,Int.reduceToNat,↓reduceIte]
      exact fun h => absurd h k2
  · rw [x1] at e1
    refine PCalls.use (e1) ?_; simp only [wk,if_true,if_false,forall_const,implies_true,ne_eq,eq_self,Nat.reduceEqDiff,Nat.reduceAdd,Nat.reduceMul,Nat.reduceSub,Nat.reduceLeDiff,Nat.reduceLT,Int.reduceEq,Int.reduceLT,Int.reduceLE,Int.reduceAdd,Int.reduceSub,Int.reduceMul,Int.reduceNeg,Int.reduceNe,reduceCtorEq,Int.reduceToNat,↓reduceIte]
    rcases encV_get b with ⟨k2, x2⟩ | ⟨k2, x2⟩
    · rw [x2] at e2
      refine PCalls.use (e2) ?_; simp only [wk,if_true,if_false,forall_const,implies_true,ne_eq,eq_self,Nat.reduceEqDiff,Nat.reduceAdd,Nat.reduceMul,Nat.reduceSub,Nat.reduceLeDiff,Nat.reduceLT,Int.reduceEq,Int.reduceLT,Int.reduceLE,Int.reduceAdd,Int.reduceSub,Int.reduceMul,Int.reduceNeg,Int.reduceNe,reduceCtorEq,Int.reduceToNat,↓reduceIte]
      exact fun h => absurd h k1
    · rw [x2] at e2
      refine PCalls.use (e2) ?_; simp only [wk,if_true,if_false,forall_const,implies_true,ne_eq,eq_self,Nat.reduceEqDiff,Nat.reduceAdd,Nat.reduceMul,Nat.reduceSub,Nat.reduceLeDiff,Nat.reduceLT,Int.reduceEq,Int.reduceLT,Int.reduceLE,Int.reduceAdd,Int.reduceSub,Int.reduceMul,Int.reduceNeg,Int.reduceNe,reduceCtorEq,Int.reduceToNat,↓reduceIte]
      exact fun h => absurd h k1
set_option maxRecDepth 100000 in
set_option maxHeartbeats 4000000 in
theorem a_cback (c : Crt) (S : ByteArray) (hg : c.signer < 65536) (hw : c.words.length ≤ 9223372036854775807) : ACalls Try.prog 10 [vC c, .str S] [] (fun a _ => a = .bool true) := by
  refine acalls_of mixed J_law08_CertBack_ok (Nat.le_of_ble_eq_true rfl) ?_; simp only [J_law08_CertBack, vC, cC, wk,if_true,if_false,forall_const,implies_true,ne_eq,eq_self,Nat.reduceEqDiff,Nat.reduceAdd,Nat.reduceMul,Nat.reduceSub,Nat.reduceLeDiff,Nat.reduceLT,Int.reduceEq,Int.reduceLT,Int.reduceLE,Int.reduceAdd,Int.reduceSub,Int.reduceMul,Int.reduceNeg,Int.reduceNe,reduceCtorEq,Int.reduceToNat,↓reduceIte]
  have q1 := p_large8 c hw
  simp only [vC, cC] at q1
  refine PCalls.use (p_awake8) ?_; simp only [wk,if_true,if_false,forall_const,implies_true,ne_eq,eq_self,Nat.reduceEqDiff,Nat.reduceAdd,Nat.reduceMul,Nat.reduceSub,Nat.reduceLeDiff,Nat.reduceLT,Int.reduceEq,Int.reduceLT,Int.reduceLE,Int.reduceAdd,Int.reduceSub,Int.reduceMul,Int.reduceNeg,Int.reduceNe,reduceCtorEq,Int.reduceToNat,↓reduceIte]
  refine PCalls.use (q1) ?_; simp only [wk,if_true,if_false,forall_const,implies_true,ne_eq,eq_self,Nat.reduceEqDiff,Nat.reduceAdd,Nat.reduceMul,Nat.reduceSub,Nat.reduceLeDiff,Nat.reduceLT,Int.reduceEq,Int.reduceLT,Int.reduceLE,Int.reduceAdd,Int.reduceSub,Int.reduceMul,Int.reduceNeg,Int.reduceNe,reduceCtorEq,Int.reduceToNat,↓reduceIte]
  refine fun hl hsz => ?_
  have hS : S.size ≤ 1000000 := by omega
  have hsm := small_of hg hl
  have e1 := p_cenc c hsm
  have e2 := p_check c hsm
  have s1 := p_csame c c hw
  rw [same_self] at s1
  simp only [vC, cC] at e1 e2 s1
  have hj : ∀ (h : Hp) (q : Nat) (b : AV), W Try.prog J_law08_CertBack_j1 [(1, .str S), (q, b)] h (kret [.t 4] (fun a _ => a = .bool true)) := by
    intro h q b
    simp only [J_law08_CertBack_j1, wk,if_true,if_false,forall_const,implies_true,ne_eq,eq_self,Nat.reduceEqDiff,Nat.reduceAdd,Nat.reduceMul,Nat.reduceSub,Nat.reduceLeDiff,Nat.reduceLT,Int.reduceEq,Int.reduceLT,Int.reduceLE,Int.reduceAdd,Int.reduceSub,Int.reduceMul,Int.reduceNeg,Int.reduceNe,reduceCtorEq,Int.reduceToNat,↓reduceIte]
    obtain ⟨c', e, hd, hce⟩ := decV_get (decE S)
    have h1 := p_cdec S hS
    rw [hd] at h1
    simp only [vC, cC] at h1
    refine PCalls.use (h1) ?_; simp only [wk,if_true,if_false,forall_const,implies_true,ne_eq,eq_self,Nat.reduceEqDiff,Nat.reduceAdd,Nat.reduceMul,Nat.reduceSub,Nat.reduceLeDiff,Nat.reduceLT,Int.reduceEq,Int.reduceLT,Int.reduceLE,Int.reduceAdd,Int.reduceSub,Int.reduceMul,Int.reduceNeg,Int.reduceNe,reduceCtorEq,Int.reduceToNat,↓reduceIte]
    refine ⟨fun he => ?_, fun he => ?_⟩
    · rcases hce with ⟨_, rfl⟩ | ⟨_, rfl, rfl⟩
      · exact absurd rfl he
      · have h3 := p_rcsame zeroC zeroC (by decide)
        rw [same_self] at h3
        refine PCalls.use (PCalls.argd (args := [_, .agg [.int .i64 0, .int .u16 0, .str ⟨#[]⟩, .lst .clip 0 [], .int .i64 0, .int .i64 0, .int .i64 0]]) (by simp only [rdpw, zeroC]; exact h3)) ?_
        simp only [wk,if_true,if_false,forall_const,implies_true,ne_eq,eq_self,Nat.reduceEqDiff,Nat.reduceAdd,Nat.reduceMul,Nat.reduceSub,Nat.reduceLeDiff,Nat.reduceLT,Int.reduceEq,Int.reduceLT,Int.reduceLE,Int.reduceAdd,Int.reduceSub,Int.reduceMul,Int.reduceNeg,Int.reduceNe,reduceCtorEq,Int.reduceToNat,↓reduceIte]
    · rcases hce with ⟨hsome, _⟩ | ⟨_, _, rfl⟩
      · obtain ⟨y1, y2, y3⟩ := dec_enc hsome
        have e3 := p_cenc c' y3
        have e4 := p_check c' y3
        rw [y2] at e4
        unfold encV at e3
        rw [if_pos y2, y1, ba_of] at e3
        simp only [vC, cC] at e3 e4
        refine PCalls.use (e3) ?_; simp only [wk,if_true,if_false,forall_const,implies_true,ne_eq,eq_self,Nat.reduceEqDiff,Nat.reduceAdd,Nat.reduceMul,Nat.reduceSub,Nat.reduceLeDiff,Nat.reduceLT,Int.reduceEq,Int.reduceLT,Int.reduceLE,Int.reduceAdd,Int.reduceSub,Int.reduceMul,Int.reduceNeg,Int.reduceNe,reduceCtorEq,Int.reduceToNat,↓reduceIte]
        refine PCalls.use (e4) ?_; simp only [wk,if_true,if_false,forall_const,implies_true,ne_eq,eq_self,Nat.reduceEqDiff,Nat.reduceAdd,Nat.reduceMul,Nat.reduceSub,Nat.reduceLeDiff,Nat.reduceLT,Int.reduceEq,Int.reduceLT,Int.reduceLE,Int.reduceAdd,Int.reduceSub,Int.reduceMul,Int.reduceNeg,Int.reduceNe,reduceCtorEq,Int.reduceToNat,↓reduceIte]
      · exact absurd he (by decide)
  rcases encV_get c with ⟨k1, x1⟩ | ⟨k1, x1⟩
  · rw [x1] at e1
    refine PCalls.use (e1) ?_; simp only [wk,if_true,if_false,forall_const,implies_true,ne_eq,eq_self,Nat.reduceEqDiff,Nat.reduceAdd,Nat.reduceMul,Nat.reduceSub,Nat.reduceLeDiff,Nat.reduceLT,Int.reduceEq,Int.reduceLT,Int.reduceLE,Int.reduceAdd,Int.reduceSub,Int.reduceMul,Int.reduceNeg,Int.reduceNe,reduceCtorEq,Int.reduceToNat,↓reduceIte]
    have d1 := p_cdec ⟨(encBytes c).toArray⟩ (by rw [ba_size]; exact bytes_bound k1 hsm)
    rw [enc_dec k1] at d1
    simp only [decV, vC, cC] at d1
    refine PCalls.use (d1) ?_; simp only [wk,if_true,if_false,forall_const,implies_true,ne_eq,eq_self,Nat.reduceEqDiff,Nat.reduceAdd,Nat.reduceMul,Nat.reduceSub,Nat.reduceLeDiff,Nat.reduceLT,Int.reduceEq,Int.reduceLT,Int.reduceLE,Int.reduceAdd,Int.reduceSub,Int.reduceMul,Int.reduceNeg,Int.reduceNe,reduceCtorEq,Int.reduceToNat,↓reduceIte]
    refine PCalls.use (s1) ?_; simp only [wk,if_true,if_false,forall_const,implies_true,ne_eq,eq_self,Nat.reduceEqDiff,Nat.reduceAdd,Nat.reduceMul,Nat.reduceSub,Nat.reduceLeDiff,Nat.reduceLT,Int.reduceEq,Int.reduceLT,Int.reduceLE,Int.reduceAdd,Int.reduceSub,Int.reduceMul,Int.reduceNeg,Int.reduceNe,reduceCtorEq,Int.reduceToNat,↓reduceIte]
    exact hj _ _ _
  · rw [x1] at e1
    refine PCalls.use (e1) ?_; simp only [wk,if_true,if_false,forall_const,implies_true,ne_eq,eq_self,Nat.reduceEqDiff,Nat.reduceAdd,Nat.reduceMul,Nat.reduceSub,Nat.reduceLeDiff,Nat.reduceLT,Int.reduceEq,Int.reduceLT,Int.reduceLE,Int.reduceAdd,Int.reduceSub,Int.reduceMul,Int.reduceNeg,Int.reduceNe,reduceCtorEq,Int.reduceToNat,↓reduceIte]
    refine ⟨fun h => absurd h k1, fun _ => ?_⟩
    refine PCalls.use (e2) ?_; simp only [wk,if_true,if_false,forall_const,implies_true,ne_eq,eq_self,Nat.reduceEqDiff,Nat.reduceAdd,Nat.reduceMul,Nat.reduceSub,Nat.reduceLeDiff,Nat.reduceLT,Int.reduceEq,Int.reduceLT,Int.reduceLE,Int.reduceAdd,Int.reduceSub,Int.reduceMul,Int.reduceNeg,Int.reduceNe,reduceCtorEq,Int.reduceToNat,↓reduceIte]
    exact hj _ _ _
end Go.Proofs.Ytaepikkaogfhbaa

/- Two laws more on certificates, over the abstract code. -/
namespace Go.Proofs.Ytaepikkaogfhbaa
set_option linter.unusedSimpArgs false
set_option linter.unusedVariables false
open Go.RowKit Go.Lib

theorem rules_drop {c : Crt} : ∀ {l : List ByteArray} {i : Nat} (h : i < l.length), (rulesL c l).drop (i * 2) = .str l[i] :: .str c.speaker :: (rulesL c l).drop ((i + 1) * 2)
  | [], _, h => by simp at h
  | w :: l, 0, h => by simp [rulesL]
  | w :: l, i + 1, h => by
    have := rules_drop (c := c) (l := l) (i := i) (by simpa using h)
    simp only [rulesL, List.flatMap_cons, List.cons_append, List.nil_append] at this ⊢
    rw [show (i + 1) * 2 = i * 2 + 1 + 1 by omega, show (i + 1 + 1) * 2 = (i + 1) * 2 + 1 + 1 by omega]
    simp only [List.drop_succ_cons, List.getElem_cons_succ]
    exact this
theorem rules_len (c : Crt) (l : List ByteArray) : (rulesL c l).length = l.length * 2 := by
  induction l with
  | nil => rfl
  | cons w l ih => simp only [rulesL, List.flatMap_cons, List.length_append, List.length_cons, List.length_nil] at ih ⊢; omega
set_option maxRecDepth 100000 in
set_option maxHeartbeats 4000000 in
theorem p_rules8 (c : Crt) (l : List ByteArray) (h : l.length ≤ 100000) : PCalls Try.prog 41 [.lst .ro l.length (rulesL c l), .lst .ro l.length (rulesL c l)] (.bool true) := by
  refine pcalls_of (by simp [free, free.frees, frees_rules]) rfl (acalls_of mixed J_law08_rules_ok (Nat.le_of_ble_eq_true rfl) ?_); simp only [J_law08_rules, wk,if_true,if_false,forall_const,implies_true,ne_eq,eq_self,Nat.reduceEqDiff,Nat.reduceAdd,Nat.reduceMul,Nat.reduceSub,Nat.reduceLeDiff,Nat.reduceLT,Int.reduceEq,Int.reduceLT,Int.reduceLE,Int.reduceAdd,Int.reduceSub,Int.reduceMul,Int.reduceNeg,Int.reduceNe,reduceCtorEq,Int.reduceToNat,↓reduceIte]
  refine W_loop (fun n fr h => ∃ i : Nat, i ≤ l.length ∧ n = l.length - i ∧ fr = [(0, .lst .ro l.length (rulesL c l)), (1, .lst .ro l.length (rulesL c l)), (12, .int .i64 l.length), (13, .int .i64 i)]) l.length ⟨0, by omega, by omega, rfl⟩ ?_
  rintro n fr h' ⟨i, hi, rfl, rfl⟩
  simp only [J_law08_rules_j2, wk,if_true,if_false,forall_const,implies_true,ne_eq,eq_self,Nat.reduceEqDiff,Nat.reduceAdd,Nat.reduceMul,Nat.reduceSub,Nat.reduceLeDiff,Nat.reduceLT,Int.reduceEq,Int.reduceLT,Int.reduceLE,Int.reduceAdd,Int.reduceSub,Int.reduceMul,Int.reduceNeg,Int.reduceNe,reduceCtorEq,Int.reduceToNat,↓reduceIte]
  refine ⟨fun hlt => ?_, fun hge => ?_⟩
  · have hil : i < l.length := by omega
    have hd : (rulesL c l).drop ((i : Int).toNat * 2) = .str l[i] :: .str c.speaker :: (rulesL c l).drop ((i + 1) * 2) := by rw [show (i : Int).toNat = i by omega, rules_drop hil]
    refine ⟨⟨by omega, by omega⟩, ?_⟩
    simp only [hd, eq_rule, and_self, decide_true, wk,if_true,if_false,forall_const,implies_true,ne_eq,eq_self,Nat.reduceEqDiff,Nat.reduceAdd,Nat.reduceMul,Nat.reduceSub,Nat.reduceLeDiff,Nat.reduceLT,Int.reduceEq,Int.reduceLT,Int.reduceLE,Int.reduceAdd,Int.reduceSub,Int.reduceMul,Int.reduceNeg,Int.reduceNe,reduceCtorEq,Int.reduceToNat,↓reduceIte]
    exact ⟨⟨by omega, by omega⟩, inR_of (by omega) (by omega), l.length - (i + 1), by omega, i + 1, by omega, rfl, by simp⟩
  · simp only [J_law08_rules_j1, wk,if_true,if_false,forall_const,implies_true,ne_eq,eq_self,Nat.reduceEqDiff,Nat.reduceAdd,Nat.reduceMul,Nat.reduceSub,Nat.reduceLeDiff,Nat.reduceLT,Int.reduceEq,Int.reduceLT,Int.reduceLE,Int.reduceAdd,Int.reduceSub,Int.reduceMul,Int.reduceNeg,Int.reduceNe,reduceCtorEq,Int.reduceToNat,↓reduceIte]
set_option maxRecDepth 100000 in
set_option maxHeartbeats 4000000 in
theorem a_cshort (c : Crt) (hg : c.signer < 65536) (hw : c.words.length ≤ 9223372036854775807) : ACalls Try.prog 11 [vC c] [] (fun a _ => a = .bool true) := by
  refine acalls_of mixed J_law08_CertShort_ok (Nat.le_of_ble_eq_true rfl) ?_; simp only [J_law08_CertShort, vC, cC, wk,if_true,if_false,forall_const,implies_true,ne_eq,eq_self,Nat.reduceEqDiff,Nat.reduceAdd,Nat.reduceMul,Nat.reduceSub,Nat.reduceLeDiff,Nat.reduceLT,Int.reduceEq,Int.reduceLT,Int.reduceLE,Int.reduceAdd,Int.reduceSub,Int.reduceMul,Int.reduceNeg,Int.reduceNe,reduceCtorEq,Int.reduceToNat,↓reduceIte]
  have q1 := p_large8 c hw
  simp only [vC, cC] at q1
  refine PCalls.use (p_awake8) ?_; simp only [wk,if_true,if_false,forall_const,implies_true,ne_eq,eq_self,Nat.reduceEqDiff,Nat.reduceAdd,Nat.reduceMul,Nat.reduceSub,Nat.reduceLeDiff,Nat.reduceLT,Int.reduceEq,Int.reduceLT,Int.reduceLE,Int.reduceAdd,Int.reduceSub,Int.reduceMul,Int.reduceNeg,Int.reduceNe,reduceCtorEq,Int.reduceToNat,↓reduceIte]
  refine PCalls.use (q1) ?_; simp only [wk,if_true,if_false,forall_const,implies_true,ne_eq,eq_self,Nat.reduceEqDiff,Nat.reduceAdd,Nat.reduceMul,Nat.reduceSub,Nat.reduceLeDiff,Nat.reduceLT,Int.reduceEq,Int.reduceLT,Int.reduceLE,Int.reduceAdd,Int.reduceSub,Int.reduceMul,Int.reduceNeg,Int.reduceNe,reduceCtorEq,Int.reduceToNat,↓reduceIte]
  refine fun hl => ?_
  have hsm := small_of hg hl
  have q2 := p_check c hsm
  have q3 := p_rules c (by have := hsm.2.2.1; omega)
  simp only [vC, cC] at q2 q3
  refine PCalls.use (q2) ?_; simp only [wk,if_true,if_false,forall_const,implies_true,ne_eq,eq_self,Nat.reduceEqDiff,Nat.reduceAdd,Nat.reduceMul,Nat.reduceSub,Nat.reduceLeDiff,Nat.reduceLT,Int.reduceEq,Int.reduceLT,Int.reduceLE,Int.reduceAdd,Int.reduceSub,Int.reduceMul,Int.reduceNeg,Int.reduceNe,reduceCtorEq,Int.reduceToNat,↓reduceIte]
  refine fun hc => ?_
  have g := good_of hc
  refine PCalls.use (q3) ?_; simp only [wk,if_true,if_false,forall_const,implies_true,ne_eq,eq_self,Nat.reduceEqDiff,Nat.reduceAdd,Nat.reduceMul,Nat.reduceSub,Nat.reduceLeDiff,Nat.reduceLT,Int.reduceEq,Int.reduceLT,Int.reduceLE,Int.reduceAdd,Int.reduceSub,Int.reduceMul,Int.reduceNeg,Int.reduceNe,reduceCtorEq,Int.reduceToNat,↓reduceIte]
  have h16 := setMay_small g.words
  have hpos := (setMay_words g.words).1.1
  refine ⟨fun h => by omega, fun _ => ?_⟩
  refine W_loop (fun n fr h => ∃ i : Nat, i ≤ c.words.length ∧ n = c.words.length - i ∧ h = [some (false, cC c)] ∧ fr = [(1, .ptr 0 0), (3, .lst .ro c.words.length (rulesL c c.words)), (28, .int .i64 c.words.length), (29, .int .i64 i)]) c.words.length ⟨0, by omega, by omega, rfl, rfl⟩ ?_
  rintro n fr h' ⟨i, hi, rfl, rfl, rfl⟩
  simp only [J_law08_CertShort_j2, cC, wk,if_true,if_false,forall_const,implies_true,ne_eq,eq_self,Nat.reduceEqDiff,Nat.reduceAdd,Nat.reduceMul,Nat.reduceSub,Nat.reduceLeDiff,Nat.reduceLT,Int.reduceEq,Int.reduceLT,Int.reduceLE,Int.reduceAdd,Int.reduceSub,Int.reduceMul,Int.reduceNeg,Int.reduceNe,reduceCtorEq,Int.reduceToNat,↓reduceIte]
  refine ⟨fun hlt => ?_, fun hge => ?_⟩
  · have hil : i < c.words.length := by omega
    have hd : (rulesL c c.words).drop ((i : Int).toNat * 2) = .str c.words[i] :: .str c.speaker :: (rulesL c c.words).drop ((i + 1) * 2) := by rw [show (i : Int).toNat = i by omega, rules_drop hil]
    have hd2 : (c.words.map AV.str).drop (i : Int).toNat = .str c.words[i] :: (c.words.map AV.str).drop (i + 1) := by rw [show (i : Int).toNat = i by omega, drop_str hil]
    have hin : ((0 ≤ (i : Int)) ∧ (i : Int) < (c.words.length : Int)) = True := by simp; omega
    have hsh := g.short _ (List.getElem_mem hil)
    have ev1 := wordMay_size g.speaker
    have ev2 := wordMay_size ((setMay_words g.words).2 _ (List.getElem_mem hil))
    simp only [hin, hd, hd2, true_and, wk,if_true,if_false,forall_const,implies_true,ne_eq,eq_self,Nat.reduceEqDiff,Nat.reduceAdd,Nat.reduceMul,Nat.reduceSub,Nat.reduceLeDiff,Nat.reduceLT,Int.reduceEq,Int.reduceLT,Int.reduceLE,Int.reduceAdd,Int.reduceSub,Int.reduceMul,Int.reduceNeg,Int.reduceNe,reduceCtorEq,Int.reduceToNat,↓reduceIte]
    exact ⟨fun h => by omega, fun _ => ⟨inR_of (by omega) (by omega), c.words.length - (i + 1), by omega, i + 1, by omega, rfl, by simp⟩⟩
  · simp only [J_law08_CertShort_j1, wk,if_true,if_false,forall_const,implies_true,ne_eq,eq_self,Nat.reduceEqDiff,Nat.reduceAdd,Nat.reduceMul,Nat.reduceSub,Nat.reduceLeDiff,Nat.reduceLT,Int.reduceEq,Int.reduceLT,Int.reduceLE,Int.reduceAdd,Int.reduceSub,Int.reduceMul,Int.reduceNeg,Int.reduceNe,reduceCtorEq,Int.reduceToNat,↓reduceIte]
set_option maxRecDepth 100000 in
set_option maxHeartbeats 4000000 in
theorem a_ctells (c : Crt) (t : Int) (hg : c.signer < 65536) (hw : c.words.length ≤ 9223372036854775807) : ACalls Try.prog 8 [vC c, .int .i64 t] [] (fun a _ => a = .bool true) := by
  refine acalls_of mixed J_law08_CertTells_ok (Nat.le_of_ble_eq_true rfl) ?_; simp only [J_law08_CertTells, vC, cC, wk,if_true,if_false,forall_const,implies_true,ne_eq,eq_self,Nat.reduceEqDiff,Nat.reduceAdd,Nat.reduceMul,Nat.reduceSub,Nat.reduceLeDiff,Nat.reduceLT,Int.reduceEq,Int.reduceLT,Int.reduceLE,Int.reduceAdd,Int.reduceSub,Int.reduceMul,Int.reduceNeg,Int.reduceNe,reduceCtorEq,Int.reduceToNat,↓reduceIte]
  have q1 := p_large8 c hw
  simp only [vC, cC] at q1
  refine PCalls.use (p_awake8) ?_; simp only [wk,if_true,if_false,forall_const,implies_true,ne_eq,eq_self,Nat.reduceEqDiff,Nat.reduceAdd,Nat.reduceMul,Nat.reduceSub,Nat.reduceLeDiff,Nat.reduceLT,Int.reduceEq,Int.reduceLT,Int.reduceLE,Int.reduceAdd,Int.reduceSub,Int.reduceMul,Int.reduceNeg,Int.reduceNe,reduceCtorEq,Int.reduceToNat,↓reduceIte]
  refine PCalls.use (q1) ?_; simp only [wk,if_true,if_false,forall_const,implies_true,ne_eq,eq_self,Nat.reduceEqDiff,Nat.reduceAdd,Nat.reduceMul,Nat.reduceSub,Nat.reduceLeDiff,Nat.reduceLT,Int.reduceEq,Int.reduceLT,Int.reduceLE,Int.reduceAdd,Int.reduceSub,Int.reduceMul,Int.reduceNeg,Int.reduceNe,reduceCtorEq,Int.reduceToNat,↓reduceIte]
  refine fun hl => ?_
  have hsm := small_of hg hl
  have hln := hsm.2.2.1
  have e1 := p_cenc c hsm
  have e2 := p_rcenc c hsm
  have k1 := p_check c hsm
  have k2 := p_rcheck c hsm
  have m1 := p_holds c t
  have m2 := p_rholds c t
  have r1 := p_rules c (by omega)
  have r2 := p_rrules c (by omega)
  have s1 := p_rcsame c c hw
  rw [same_self] at s1
  simp only [vC, cC] at e1 e2 k1 k2 m1 m2 r1 r2 s1
  obtain ⟨es, ee, hev⟩ : ∃ s e, encV c = .tup [.str s, .int .i64 e] := by
    rcases encV_get c with ⟨_, h⟩ | ⟨_, h⟩ <;> exact ⟨_, _, h⟩
  rw [hev] at e1 e2
  refine ⟨⟨by simp, by omega, by omega⟩, ?_⟩
  refine PCalls.use (e1) ?_; simp only [wk,if_true,if_false,forall_const,implies_true,ne_eq,eq_self,Nat.reduceEqDiff,Nat.reduceAdd,Nat.reduceMul,Nat.reduceSub,Nat.reduceLeDiff,Nat.reduceLT,Int.reduceEq,Int.reduceLT,Int.reduceLE,Int.reduceAdd,Int.reduceSub,Int.reduceMul,Int.reduceNeg,Int.reduceNe,reduceCtorEq,Int.reduceToNat,↓reduceIte]
  refine PCalls.use (e2) ?_; simp only [wk,if_true,if_false,forall_const,implies_true,ne_eq,eq_self,Nat.reduceEqDiff,Nat.reduceAdd,Nat.reduceMul,Nat.reduceSub,Nat.reduceLeDiff,Nat.reduceLT,Int.reduceEq,Int.reduceLT,Int.reduceLE,Int.reduceAdd,Int.reduceSub,Int.reduceMul,Int.reduceNeg,Int.reduceNe,reduceCtorEq,Int.reduceToNat,↓reduceIte]
  refine ⟨_, k1, ?_⟩; simp only [wk,if_true,if_false,forall_const,implies_true,ne_eq,eq_self,Nat.reduceEqDiff,Nat.reduceAdd,Nat.reduceMul,Nat.reduceSub,Nat.reduceLeDiff,Nat.reduceLT,Int.reduceEq,Int.reduceLT,Int.reduceLE,Int.reduceAdd,Int.reduceSub,Int.reduceMul,Int.reduceNeg,Int.reduceNe,reduceCtorEq,Int.reduceToNat,↓reduceIte]
  refine ⟨_, k2, ?_⟩; simp only [wk,if_true,if_false,forall_const,implies_true,ne_eq,eq_self,Nat.reduceEqDiff,Nat.reduceAdd,Nat.reduceMul,Nat.reduceSub,Nat.reduceLeDiff,Nat.reduceLT,Int.reduceEq,Int.reduceLT,Int.reduceLE,Int.reduceAdd,Int.reduceSub,Int.reduceMul,Int.reduceNeg,Int.reduceNe,reduceCtorEq,Int.reduceToNat,↓reduceIte]
  refine ⟨_, m1, ?_⟩; simp only [wk,if_true,if_false,forall_const,implies_true,ne_eq,eq_self,Nat.reduceEqDiff,Nat.reduceAdd,Nat.reduceMul,Nat.reduceSub,Nat.reduceLeDiff,Nat.reduceLT,Int.reduceEq,Int.reduceLT,Int.reduceLE,Int.reduceAdd,Int.reduceSub,Int.reduceMul,Int.reduceNeg,Int.reduceNe,reduceCtorEq,Int.reduceToNat,↓reduceIte]
  refine ⟨_, m2, ?_⟩; simp only [wk,if_true,if_false,forall_const,implies_true,ne_eq,eq_self,Nat.reduceEqDiff,Nat.reduceAdd,Nat.reduceMul,Nat.reduceSub,Nat.reduceLeDiff,Nat.reduceLT,Int.reduceEq,Int.reduceLT,Int.reduceLE,Int.reduceAdd,Int.reduceSub,Int.reduceMul,Int.reduceNeg,Int.reduceNe,reduceCtorEq,Int.reduceToNat,↓reduceIte]
  refine ⟨_, r1, ?_⟩; simp only [wk,if_true,if_false,forall_const,implies_true,ne_eq,eq_self,Nat.reduceEqDiff,Nat.reduceAdd,Nat.reduceMul,Nat.reduceSub,Nat.reduceLeDiff,Nat.reduceLT,Int.reduceEq,Int.reduceLT,Int.reduceLE,Int.reduceAdd,Int.reduceSub,Int.reduceMul,Int.reduceNeg,Int.reduceNe,reduceCtorEq,Int.reduceToNat,↓reduceIte]
  refine ⟨_, r2, ?_⟩; simp only [wk,if_true,if_false,forall_const,implies_true,ne_eq,eq_self,Nat.reduceEqDiff,Nat.reduceAdd,Nat.reduceMul,Nat.reduceSub,Nat.reduceLeDiff,Nat.reduceLT,Int.reduceEq,Int.reduceLT,Int.reduceLE,Int.reduceAdd,Int.reduceSub,Int.reduceMul,Int.reduceNeg,Int.reduceNe,reduceCtorEq,Int.reduceToNat,↓reduceIte]
  refine ⟨_, p_rules8 c c.words (by omega), ?_⟩; simp only [wk,if_true,if_false,forall_const,implies_true,ne_eq,eq_self,Nat.reduceEqDiff,Nat.reduceAdd,Nat.reduceMul,Nat.reduceSub,Nat.reduceLeDiff,Nat.reduceLT,Int.reduceEq,Int.reduceLT,Int.reduceLE,Int.reduceAdd,Int.reduceSub,Int.reduceMul,Int.reduceNeg,Int.reduceNe,reduceCtorEq,Int.reduceToNat,↓reduceIte]
  refine ⟨_, s1, ?_⟩; simp only [wk,if_true,if_false,forall_const,implies_true,ne_eq,eq_self,Nat.reduceEqDiff,Nat.reduceAdd,Nat.reduceMul,Nat.reduceSub,Nat.reduceLeDiff,Nat.reduceLT,Int.reduceEq,Int.reduceLT,Int.reduceLE,Int.reduceAdd,Int.reduceSub,Int.reduceMul,Int.reduceNeg,Int.reduceNe,reduceCtorEq,Int.reduceToNat,↓reduceIte]
end Go.Proofs.Ytaepikkaogfhbaa

/- What a delegation says: the plain law, and CertDelegates over the abstract code. -/
namespace Go.Proofs.Ytaepikkaogfhbaa
set_option linter.unusedSimpArgs false
set_option linter.unusedVariables false
open Go.RowKit Go.Lib

theorem q_one (b : Nat) (hb : b < 65536) : PCalls Try.prog 49 [.lst .ro 1 [.int .u16 b]] (.str (atomW b)) := by
  have := p_rof [b] (by simp) (by simp [hb])
  rw [atomBytes_one] at this
  exact this
theorem told_app {b : Nat} {w : ByteArray} : toldW (atomW b ++ w) = atomW 1 ++ w := by
  unfold toldW
  congr 1
  apply ByteArray.ext
  apply Array.ext'
  have h2 : (atomW b).data.toList.length = 2 := rfl
  have h3 : (atomW b ++ w).size = 2 + w.size := by rw [ByteArray.size_append]; rfl
  rw [h3]
  simp only [ByteArray.data_extract, Array.toList_extract, List.extract_eq_take_drop, ByteArray.data_append, Array.toList_append]
  rw [List.drop_append_of_le_length (by rw [h2]; omega), List.drop_of_length_le (by rw [h2]; omega), List.nil_append, List.take_of_length_le (by simp)]
theorem for_facts {b : Nat} {w : ByteArray} (h : (forE [atomW b] [w]).2 = 0) : wordMay (atomW b ++ w) = true ∧ setMay (forE [atomW b] [w]).1 = true ∧ 4 ≤ (atomW b ++ w).size ∧ (forE [atomW b] [w]).1 = nrm [atomW b ++ w, atomW 1 ++ w] ∧ ∀ x ∈ (forE [atomW b] [w]).1, x.size = (atomW b ++ w).size := by
  obtain ⟨h1, h2, h3, h4, h5⟩ := for_ok h
  obtain ⟨a1, a2, a3, a4, a5⟩ := quote_ok h1
  obtain ⟨b1, b2, b3, b4, b5⟩ := quote_ok h2
  have hw : wordMay w = true := (setMay_words a2).2 w (by simp)
  have hsz := wordMay_size hw
  have hmem : ∀ x, x ∈ (forE [atomW b] [w]).1 ↔ x = atomW b ++ w ∨ x = atomW 1 ++ w := by
    intro x
    rw [h4, mem_nrm, List.mem_append, a4, b4, mem_nrm, mem_nrm]
    simp [prodW]
  have hbw : atomW b ++ w ∈ (forE [atomW b] [w]).1 := (hmem _).2 (.inl rfl)
  have s1 : ∀ n, (atomW n ++ w).size = 2 + w.size := fun n => by rw [ByteArray.size_append]; rfl
  refine ⟨(setMay_words h5).2 _ hbw, h5, by rw [s1]; omega, ?_, fun x hx => ?_⟩
  · rw [h4]
    refine nrm_congr (fun x => ?_)
    rw [List.mem_append, a4, b4, mem_nrm, mem_nrm]
    simp [prodW]
  · rcases (hmem x).1 hx with rfl | rfl
    · rfl
    · rw [s1, s1]
theorem check_del {b signer : Nat} {w : ByteArray} {f t : Int} (h : (forE [atomW b] [w]).2 = 0) :
    checkE ⟨7, signer, atomW b ++ w, (forE [atomW b] [w]).1, f, t, 0⟩ = 0 ∨
    (checkE ⟨7, signer, atomW b ++ w, (forE [atomW b] [w]).1, f, t, 0⟩ = 2 ∧ (signer < 8192 ∨ 16384 ≤ signer ∨ f < 0 ∨ t < 0 ∨ 4611686018427387904 < f ∨ 4611686018427387904 < t)) ∨
    (checkE ⟨7, signer, atomW b ++ w, (forE [atomW b] [w]).1, f, t, 0⟩ = 5 ∧ t < f) := by
  obtain ⟨h1, h2, h3, h4, h5⟩ := for_facts h
  unfold checkE
  simp only
  rw [if_neg (by omega)]
  split
  · next hk =>
    split
    · next hlt => exact .inr (.inr ⟨rfl, hlt⟩)
    · next hge =>
      rw [if_neg, if_pos]
      · exact .inl rfl
      · unfold likeE
        simp only
        rw [if_neg (by decide), if_pos trivial, deleg_eq h1 h2 (by simp only; omega), told_app]
        simp [h4]
      · rw [List.any_eq_true]
        rintro ⟨x, hx, hlt⟩
        simp only [decide_eq_true_eq] at hlt
        rw [h5 x hx] at hlt
        omega
  · next hk =>
    refine .inr (.inl ⟨rfl, ?_⟩)
    rw [h1, h2, hasI_one] at hk
    simp only [true_and, numL, List.all_cons, List.all_nil, Bool.and_true, Bool.and_eq_true, decide_eq_true_eq] at hk
    omega
set_option maxRecDepth 100000 in
set_option maxHeartbeats 4000000 in
theorem a_cdel (b : Nat) (w : ByteArray) (signer : Nat) (f t : Int) (hb : b < 65536) (hg : signer < 65536) : ACalls Try.prog 12 [.int .u16 b, .str w, .int .u16 signer, .int .i64 f, .int .i64 t] [] (fun a _ => a = .bool true) := by
  refine acalls_of mixed J_law08_CertDelegates_ok (Nat.le_of_ble_eq_true rfl) ?_; simp only [J_law08_CertDelegates, wk,if_true,if_false,forall_const,implies_true,ne_eq,eq_self,Nat.reduceEqDiff,Nat.reduceAdd,Nat.reduceMul,Nat.reduceSub,Nat.reduceLeDiff,Nat.reduceLT,Int.reduceEq,Int.reduceLT,Int.reduceLE,Int.reduceAdd,Int.reduceSub,Int.reduceMul,Int.reduceNeg,Int.reduceNe,reduceCtorEq,Int.reduceToNat,↓reduceIte]
  refine PCalls.use (p_awake8) ?_; simp only [wk,if_true,if_false,forall_const,implies_true,ne_eq,eq_self,Nat.reduceEqDiff,Nat.reduceAdd,Nat.reduceMul,Nat.reduceSub,Nat.reduceLeDiff,Nat.reduceLT,Int.reduceEq,Int.reduceLT,Int.reduceLE,Int.reduceAdd,Int.reduceSub,Int.reduceMul,Int.reduceNeg,Int.reduceNe,reduceCtorEq,Int.reduceToNat,↓reduceIte]
  refine fun hsz => ?_
  refine PCalls.use (q_one b hb) ?_; simp only [wk,if_true,if_false,forall_const,implies_true,ne_eq,eq_self,Nat.reduceEqDiff,Nat.reduceAdd,Nat.reduceMul,Nat.reduceSub,Nat.reduceLeDiff,Nat.reduceLT,Int.reduceEq,Int.reduceLT,Int.reduceLE,Int.reduceAdd,Int.reduceSub,Int.reduceMul,Int.reduceNeg,Int.reduceNe,reduceCtorEq,Int.reduceToNat,↓reduceIte]
  have hsb : (atomW b).size = 2 := rfl
  have q1 := p_rfor [atomW b] [w] (by simp) (by simp) (fun x hx => by simp at hx; subst hx; omega) (fun x hx => by simp at hx; subst hx; omega)
  simp only [vSet, List.length_cons, List.length_nil, List.map_cons, List.map_nil, Nat.zero_add] at q1
  refine PCalls.use (q1) ?_; simp only [wk,if_true,if_false,forall_const,implies_true,ne_eq,eq_self,Nat.reduceEqDiff,Nat.reduceAdd,Nat.reduceMul,Nat.reduceSub,Nat.reduceLeDiff,Nat.reduceLT,Int.reduceEq,Int.reduceLT,Int.reduceLE,Int.reduceAdd,Int.reduceSub,Int.reduceMul,Int.reduceNeg,Int.reduceNe,reduceCtorEq,Int.reduceToNat,↓reduceIte]
  refine fun he => ?_
  refine PCalls.use (q_one b hb) ?_; simp only [wk,if_true,if_false,forall_const,implies_true,ne_eq,eq_self,Nat.reduceEqDiff,Nat.reduceAdd,Nat.reduceMul,Nat.reduceSub,Nat.reduceLeDiff,Nat.reduceLT,Int.reduceEq,Int.reduceLT,Int.reduceLE,Int.reduceAdd,Int.reduceSub,Int.reduceMul,Int.reduceNeg,Int.reduceNe,reduceCtorEq,Int.reduceToNat,↓reduceIte]
  refine ⟨by omega, ?_⟩
  have hok := check_del (signer := signer) (f := f) (t := t) he
  obtain ⟨h1, h2, h3, h4, h5⟩ := for_facts he
  have h16 := setMay_small h2
  obtain ⟨c, hc⟩ : ∃ c : Crt, c = ⟨7, signer, atomW b ++ w, (forE [atomW b] [w]).1, f, t, 0⟩ := ⟨_, rfl⟩
  have hsm : smallC c := by
    rw [hc]
    exact ⟨hg, by have := wordMay_le h1; simp only; omega, by simp only; omega, fun x hx => by have := h16.2 x hx; omega⟩
  have k1 := p_check c hsm
  have r1 := p_rules c (by rw [hc]; simp only; omega)
  rw [hc] at k1 r1
  simp only [vC, cC] at k1 r1
  rcases hok with e0 | ⟨e2, hcond⟩ | ⟨e5, hcond⟩
  · rw [e0] at k1
    refine PCalls.use (k1) ?_; simp only [wk,if_true,if_false,forall_const,implies_true,ne_eq,eq_self,Nat.reduceEqDiff,Nat.reduceAdd,Nat.reduceMul,Nat.reduceSub,Nat.reduceLeDiff,Nat.reduceLT,Int.reduceEq,Int.reduceLT,Int.reduceLE,Int.reduceAdd,Int.reduceSub,Int.reduceMul,Int.reduceNeg,Int.reduceNe,reduceCtorEq,Int.reduceToNat,↓reduceIte]
    refine PCalls.use (r1) ?_; simp only [wk,if_true,if_false,forall_const,implies_true,ne_eq,eq_self,Nat.reduceEqDiff,Nat.reduceAdd,Nat.reduceMul,Nat.reduceSub,Nat.reduceLeDiff,Nat.reduceLT,Int.reduceEq,Int.reduceLT,Int.reduceLE,Int.reduceAdd,Int.reduceSub,Int.reduceMul,Int.reduceNeg,Int.reduceNe,reduceCtorEq,Int.reduceToNat,↓reduceIte]
  · rw [e2] at k1
    refine PCalls.use (k1) ?_; simp only [wk,if_true,if_false,forall_const,implies_true,ne_eq,eq_self,Nat.reduceEqDiff,Nat.reduceAdd,Nat.reduceMul,Nat.reduceSub,Nat.reduceLeDiff,Nat.reduceLT,Int.reduceEq,Int.reduceLT,Int.reduceLE,Int.reduceAdd,Int.reduceSub,Int.reduceMul,Int.reduceNeg,Int.reduceNe,reduceCtorEq,Int.reduceToNat,↓reduceIte]
    intro a1 a2 a3 a4 a5
    exact fun a6 => by omega
  · rw [e5] at k1
    refine PCalls.use (k1) ?_; simp only [wk,if_true,if_false,forall_const,implies_true,ne_eq,eq_self,Nat.reduceEqDiff,Nat.reduceAdd,Nat.reduceMul,Nat.reduceSub,Nat.reduceLeDiff,Nat.reduceLT,Int.reduceEq,Int.reduceLT,Int.reduceLE,Int.reduceAdd,Int.reduceSub,Int.reduceMul,Int.reduceNeg,Int.reduceNe,reduceCtorEq,Int.reduceToNat,↓reduceIte]
    rw [decide_eq_true hcond]
end Go.Proofs.Ytaepikkaogfhbaa
