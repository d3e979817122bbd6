/- Texts of one proof, laid together: Va Vb Vc. -/
import Derived.Test.YtpiofcjkekpboaaMA14
import Derived.Test.YtpiofcjkekpboaaMA18
import Derived.Test.YtpiofcjkekpboaaMA17
import Derived.Test.YtpiofcjkekpboaaMA15

/- slices.Clone as a call that makes an object; set.Of once more, with all that is known of the block it makes. -/
-- fast
namespace Go.Proofs.Ytpiofcjkekpboaa
set_option linter.unusedSimpArgs false
set_option linter.unusedVariables false
open Go.RowKit Go.Lib Go.Sort Go.Shelf

theorem zrow_one (e : AV) (k : Nat) : zrow [e] 1 k = List.replicate k e := by
  simp only [zrow, Nat.mod_one, List.getD_cons_zero]
  rw [List.map_const', List.length_range]
set_option maxRecDepth 100000 in
set_option maxHeartbeats 2000000 in
theorem a_clone (l : List ByteArray) (hl : l.length ≤ 1000000) (h0 : 0 < l.length) : ACalls Try.prog 67 [.lst .ro l.length (l.map .str)] [] (fun a h' => ∃ k, a = .hsc 0 l.length (l.length + k) ∧ h' = [some (false, (l ++ List.replicate k (⟨#[]⟩ : ByteArray)).map AV.str)]) := by
  refine acalls_of mixed J_slices_Clone_api_Word_api_Word_ok (Nat.le_of_ble_eq_true rfl) ?_; simp only [J_slices_Clone_api_Word_api_Word, wk,if_true,if_false,forall_const,implies_true,ne_eq,eq_self,Nat.reduceEqDiff,Nat.reduceAdd,Nat.reduceMul,Nat.reduceSub,Nat.reduceLeDiff,Nat.reduceLT,Int.reduceEq,Int.reduceLT,Int.reduceLE,Int.reduceAdd,Int.reduceSub,Int.reduceMul,Int.reduceNeg,Int.reduceNe,reduceCtorEq,Int.reduceToNat,↓reduceIte]
  refine ⟨⟨⟨by simp, by omega, by omega⟩, fun h => absurd h (by omega), fun _ k => ⟨k, rfl, ?_⟩⟩, fun h => absurd h (by omega)⟩
  rw [zrow_one, List.map_append, List.map_replicate]
theorem clone_any (rb off cap n : Nat) (l : List ByteArray) (w : World) (hl : l.length = n) (h0 : 0 < n) (hn : n ≤ 1000000) (hr : ∀ j u, (l.map Value.string)[j]? = some u → w.cell? ⟨rb, off + j, none⟩ = some u) (hc : n ≤ cap) :
    Calls Try.prog 67 #[.slice (some ⟨rb, off, none⟩) n cap] w fun e w' => ∃ (b c : Nat) (strs : List ByteArray) (t : TypeId), e = .returned (.slice (some ⟨b, 0, none⟩) n c) ∧ w.heap.size ≤ b ∧ w'.heap[b]? = some (.cells (strs.map Value.string).toArray t (0, 0)) ∧ n ≤ c ∧ strs.take n = l ∧ Below w.heap.size w w' := by
  subst hl
  have hrep : RepL (gW w) [.slice (some ⟨rb, off, none⟩) l.length cap] [.lst .ro l.length (l.map .str)] := .cons (.lst rb off _ cap .ro (l.map .string) _ (fun i v hv => gW_cell (hr i v hv) (by
    have := List.mem_of_getElem? hv
    obtain ⟨s, _, rfl⟩ := List.mem_map.1 this
    rfl)) (plains_strs l) hc (fun h => nomatch h) (repL_strs _ l)) .nil
  refine ((a_clone l hn h0).2 (gW w) w [_] (gW_sim _ w) (fun b k h => by cases h) hrep (by intro a ha; simp at ha; subst ha; rfl)).mono ?_
  rintro e w' ⟨x, a, h', g', rfl, ev, hs, _, hx, _, k, rfl, rfl⟩
  obtain ⟨b, arr, t, p1, p2, p3, p4, p5, p6, p7, p8, p9⟩ := hs.obj 0 false _ rfl
  cases hx with
  | hsc _ b' _ _ hb hn =>
    obtain rfl : b' = b := by rw [hb] at p1; simpa using p1
    have ha := repl_str p3
    refine ⟨b', l.length + k, l ++ List.replicate k ⟨#[]⟩, t, rfl, ?_, ?_, hn, List.take_left, ev.os, ev.tape, ev.output, ev.size, fun j hj => (ev.Fb j hj).1⟩
    · rcases Nat.lt_or_ge b' w.heap.size with hh | hh
      · exact absurd ((ev.F b').2 hh) p8
      · exact hh
    · rw [← ha]; exact p2
theorem put_block {w : World} {b q : Nat} {strs : List ByteArray} {t : TypeId} {fr : Nat × Nat} (d : Array ByteArray) (hb : w.heap[b]? = some (.cells (strs.map Value.string).toArray t fr)) (hd : d.size ≤ strs.length) :
    (putRow Value.string (Sort.ahead w q) b 0 d).heap[b]? = some (.cells ((d.toList ++ strs.drop d.size).map Value.string).toArray t fr) := by
  simp only [putRow, mapBlock, Sort.ahead, Array.getElem?_modify, if_true, hb, Option.map_some, onCells]
  congr 2
  apply Array.ext
  · simp only [putCells, Array.size_mapIdx, List.size_toArray, List.length_map, List.length_append, List.length_drop, Array.length_toList]
    omega
  · intro i h1 h2
    simp only [putCells, Array.size_mapIdx, List.size_toArray, List.length_map] at h1
    simp only [putCells, Array.getElem_mapIdx, List.getElem_toArray, List.getElem_map, Nat.zero_le, true_and, Nat.zero_add, Nat.sub_zero]
    by_cases hi : i < d.size
    · rw [if_pos hi, List.getElem_append_left (by simpa using hi), getElem!_pos d i hi]
      simp
    · rw [if_neg hi, List.getElem_append_right (by simpa using hi)]
      congr 1
      rw [List.getElem_drop]
      congr 1
      simp only [Array.length_toList]
      omega
end Go.Proofs.Ytpiofcjkekpboaa

/- set.Of once more, with all that is known of the block that it makes. -/
namespace Go.Proofs.Ytpiofcjkekpboaa
set_option linter.unusedSimpArgs false
set_option linter.unusedVariables false
open Go.RowKit Go.Lib Go.Sort Go.Shelf

structure MadeO (w w' : World) (e : Ending) (r : List ByteArray × Int) : Prop where
  below : Below w.heap.size w w'
  res : (r.2 ≠ 0 ∧ e = .returned (.tuple #[.slice none 0 0, .int .i64 r.2])) ∨ (r.2 = 0 ∧ ∃ (b : Nat) (strs : List ByteArray) (t : TypeId), w.heap.size ≤ b ∧ e = .returned (.tuple #[.slice (some ⟨b, 0, none⟩) r.1.length r.1.length, .int .i64 0]) ∧ w'.heap[b]? = some (.cells (strs.map Value.string).toArray t (0, 0)) ∧ strs.take r.1.length = r.1)
set_option maxRecDepth 100000 in
set_option maxHeartbeats 2000000 in
theorem sof_anyO (rb off cap n : Nat) (l : List ByteArray) (w : World) (hl : Hid (l.length = n)) (h0 : 0 < n) (hn : n ≤ 1000000) (hr : Hid (∀ j u, (l.map Value.string)[j]? = some u → w.cell? ⟨rb, off + j, none⟩ = some u)) (hs : Hid (∀ x ∈ l, x.size ≤ 9223372036854775807)) (hcap : Hid (n ≤ cap)) :
    Calls Try.prog 28 #[.slice (some ⟨rb, off, none⟩) n cap] w fun e w' => MadeO w w' e (ofE l) := by
  go_enter Try.func28, Try.ntmps28
  go_wp2_with fail
  go_loopw [9] (fun t wr => ∃ i : Nat, i ≤ n ∧ t = .int .i64 i ∧ Hid (∀ x ∈ l.take i, wordMay x = true) ∧ Drawn w wr) (fun t _ => n - (intOf t).toNat)
  case atStart => exact ⟨0, by omega, rfl, by intro x hx; simp at hx, 0, rfl⟩
  case round =>
    obtain ⟨i, hi, rfl, hall, q, rfl⟩ := hrel
    by_cases hlt : i < n
    · have hil : i < l.length := by have := hl.out; omega
      have ci : w.cell? ⟨rb, off + i, none⟩ = some (.string l[i]) := hr.out i _ (by simp [hil])
      have hsz := hs.out l[i] (List.getElem_mem hil)
      have hmem := Lib.hid (List.getElem_mem hil)
      have hnext : Hid (wordMay l[i] = true → ∀ x ∈ l.take (i + 1), wordMay x = true) := by
        intro hw x hx
        rw [List.take_succ_eq_append_getElem hil, List.mem_append] at hx
        rcases hx with hx | hx
        · exact hall.out x hx
        · simp at hx; subst hx; exact hw
      generalize l[i] = y at ci hsz hmem hnext
      cases hwy : wordMay y with
      | false =>
        have e : Hid (ofE l = ([], 2)) := by
          show _ = _
          unfold ofE
          rw [if_pos]
          cases hb : l.all wordMay with
          | false => rfl
          | true => rw [List.all_eq_true.1 hb y hmem.out] at hwy; cases hwy
        have HWY := Lib.hid hwy
        clear hwy
        go_wp2_with fail
        refine (wmay_any y _ hsz).mono ?_
        rintro e w' ⟨rfl, m, rfl⟩
        rw [HWY.out]
        go_wp2_with fail
        go_ret2
        rw [e.out]
        exact ⟨⟨rfl, rfl, rfl, Nat.le_refl _, fun _ _ => rfl⟩, .inl ⟨by decide, rfl⟩⟩
      | true =>
        have HWY := Lib.hid hwy
        clear hwy
        go_wp2_with fail
        refine (wmay_any y _ hsz).mono ?_
        rintro e w' ⟨rfl, m, rfl⟩
        rw [HWY.out]
        go_wp2_with fail
        go_roundw
        case rel => exact ⟨i + 1, by omega, by go_num, hnext.out HWY.out, q + m, rfl⟩
        case measure => simp [intOf]; omega
    · have hin : i = n := by omega
      subst hin
      go_wp2_with fail
      refine (clone_any rb off cap i l (w.drewN q) hl.out (by omega) (by omega) hr.out hcap.out).mono ?_
      rintro e w2 ⟨b, c, strs, t, rfl, hb, hblk, hnc, htake, hbel⟩
      have hH : Holds Value.string w2 b 0 l.toArray := holds_row hblk (by rw [List.toList_toArray, ← List.map_take, hl.out, htake])
      have HK := Lib.hid hblk
      have HT := Lib.hid htake
      have hbs : b < w2.heap.size := lt_of_block HK.out
      have hd : l.toArray.size = i := by simpa using hl.out
      have hsort := Any.slices_SortFunc lSort Value.string (fun _ => rfl) cmpW swo_cmp 69 #[] b 0 c l.toArray w2 (enters_of Try.func69 (by kernel_rfl) rfl) (cmp_lays b 0 _ w2) hH hbs (by rw [hd]; omega)
      rw [hd] at hsort
      have HH := Lib.hid hH
      have HB := Lib.hid hbel
      clear hH hbel htake hblk
      go_wp2_with fail
      refine hsort.mono ?_
      rintro e w3 ⟨rfl, d', q2, os, hperm, hsorted, hw3⟩
      have hd' : d'.size = i := by rw [hperm.1, hd]
      have hH3 : Holds Value.string w3 b 0 d' := by
        rw [hw3]
        unfold sortWorld
        exact holds_grow os (by simpa [putRow, mapBlock, Sort.ahead] using hbs) (holds_putRow _ _ b 0 l.toArray d' (holds_ahead _ _ _ _ _ _ HH.out) (by rw [hd', hd]))
      have hB3 : Hid (RowKit.Below w.heap.size w w3) := by
        have h1 : RowKit.Below w.heap.size w w2 := ⟨HB.out.os, HB.out.tape, HB.out.output, HB.out.size, HB.out.block⟩
        refine h1.trans ?_
        rw [hw3]
        unfold sortWorld
        exact below_grow os h1.size (below_put hb)
      have hsl : Hid (i ≤ strs.length) := by
        have := HT.out
        have h2 := congrArg List.length this
        rw [List.length_take, hl.out] at h2
        show _ ≤ _
        omega
      have HK3 : Hid (w3.heap[b]? = some (.cells ((d'.toList ++ strs.drop i).map Value.string).toArray t (0, 0))) := by
        show _ = _
        rw [hw3]
        have := put_block (q := q2) d' HK.out (by rw [hd']; exact hsl.out)
        rw [hd'] at this
        simp only [sortWorld, grow]
        rw [Array.getElem?_append_left (lt_of_block this)]
        exact this
      have hcomp : Hid (compactUpTo d' d'.size = nrm l) := by
        refine compact_nrm (fun a b' hab hb' => ?_) (fun x => ?_)
        · have := hsorted a b' (Nat.zero_le _) hab (by omega)
          rwa [ltOf_cmp] at this
        · have hp := hperm.2.2.mem_iff (a := x)
          have e1 : (d'.extract 0 i).toList = d'.toList := by simp [← hd']
          have e2 : (l.toArray.extract 0 i).toList = l := by simp; exact List.take_of_length_le (by rw [hl.out]; exact Nat.le_refl _)
          rw [e1, e2] at hp
          exact hp
      have hsize3 : Hid (b < w3.heap.size) := by
        show _ < _
        rw [hw3]
        simp only [sortWorld, grow, Array.size_append, putRow, mapBlock, Sort.ahead, Array.size_modify]
        omega
      have hcompact := AnyE.slices_Compact lCompact Value.string (fun _ => rfl) (eql_word _) (neq_word _) ByteArray.empty Try.zeroValue72 b 0 c d' w3 hH3 (by rw [hd']; omega) (by rw [hd']; exact hnc)
      rw [hcomp.out, hd'] at hcompact
      have HH3 := Lib.hid hH3
      have hlen : Hid ((nrm l).length ≤ i ∧ 0 < (nrm l).length) := by
        have h1 : ∀ l : List ByteArray, (nrm l).length ≤ l.length := by
          have h : ∀ (x : ByteArray) (l : List ByteArray), (ins x l).length ≤ l.length + 1 := by
            intro x l
            induction l with
            | nil => simp [ins]
            | cons y l ih => simp only [ins]; split; simp; split <;> simp only [List.length_cons] <;> omega
          intro l
          induction l with
          | nil => simp [nrm]
          | cons x l ih => simp only [nrm, List.length_cons]; have := h x (nrm l); omega
        refine ⟨by have := h1 l; rw [hl.out] at this; exact this, ?_⟩
        have hne : 0 < l.length := by rw [hl.out]; exact h0
        exact List.length_pos_of_mem (mem_nrm.2 (List.getElem_mem hne))
      have hmay : Hid (∀ x ∈ l, wordMay x = true) := by
        have := hall.out
        rwa [List.take_of_length_le (by rw [hl.out]; exact Nat.le_refl _)] at this
      have hof : Hid (ofE l = if 1 ≤ (nrm l).length ∧ (nrm l).length ≤ 16 then (nrm l, 0) else ([], 3)) := by
        show _ = _
        unfold ofE
        rw [if_neg (by rw [List.all_eq_true.2 hmay.out]; simp)]
      have hdd := hd'
      clear hsort hH3 hsorted hperm hw3 hd'
      obtain ⟨m, hm⟩ : ∃ m, m = (nrm l).length := ⟨_, rfl⟩
      rw [← hm] at hcompact
      have HM := Lib.hid hm
      have hmi : m ≤ i ∧ 0 < m := by rw [hm]; exact hlen.out
      clear hm
      go_wp2_with fail
      refine hcompact.mono ?_
      rintro e w4 ⟨rfl, q3, hw4⟩
      have HB4 : Hid (RowKit.Below w.heap.size w w4) := by
        show RowKit.Below _ _ _
        rw [hw4]
        exact hB3.out.trans (below_put hb)
      have HC4 : Hid (∃ strs' : List ByteArray, w4.heap[b]? = some (.cells (strs'.map Value.string).toArray t (0, 0)) ∧ strs'.take m = nrm l) := by
        have e1 : d'.size = i := hdd
        have hsz : (nrm l ++ List.replicate (i - m) ByteArray.empty).toArray.size ≤ (d'.toList ++ strs.drop i).length := by
          have := hsl.out
          rw [List.size_toArray, List.length_append, List.length_replicate, ← HM.out, List.length_append, Array.length_toList, List.length_drop]
          omega
        have hp := put_block (q := q3) (nrm l ++ List.replicate (i - m) ByteArray.empty).toArray HK3.out hsz
        refine ⟨_, by rw [hw4]; exact hp, ?_⟩
        rw [List.toList_toArray, List.append_assoc, HM.out, List.take_left]
      clear hw4 hcompact
      have g1 : decide ((m : Int) < 1) = false := by simp; omega
      by_cases h16 : 16 < m
      · have g2 : decide (16 < (m : Int)) = true := by simp; omega
        go_wp2_with fail
        go_ret2
        rw [hof.out, if_neg (by rw [← HM.out]; omega)]
        exact ⟨HB4.out, .inl ⟨by decide, rfl⟩⟩
      · have g2 : decide (16 < (m : Int)) = false := by simp; omega
        go_wp2_with fail
        refine (clip_any b m c w4 (by omega) (by omega) (by omega)).mono ?_
        rintro e w' ⟨rfl, rfl⟩
        go_wp2_with fail
        go_ret2
        rw [hof.out, if_pos (by rw [← HM.out]; omega)]
        obtain ⟨strs', k1, k2⟩ := HC4.out
        refine ⟨HB4.out, .inr ⟨rfl, b, strs', t, hb, by rw [← HM.out]; rfl, k1, ?_⟩⟩
        show strs'.take (nrm l).length = nrm l
        rw [← HM.out]; exact k2
end Go.Proofs.Ytpiofcjkekpboaa

/- set.Of as a call that makes an object. -/
namespace Go.Proofs.Ytpiofcjkekpboaa
set_option linter.unusedSimpArgs false
set_option linter.unusedVariables false
open Go.RowKit Go.Lib

def Gh.newo (g : Gh) (w w' : World) (b : Nat) : Gh := { g.news w w' with C := fun b' o => if b' = b then none else (g.news w w').C b' o, io := fun i => if i = 0 then some b else none, X := fun b' => if b' = b then none else (g.news w w').X b' }
def NewO (r : List ByteArray × Int) (a : AV) (h' : Hp) : Prop := (r.2 ≠ 0 ∧ a = .tup [.lst .clip 0 [], .int .i64 r.2] ∧ h' = []) ∨ (r.2 = 0 ∧ ∃ strs : List ByteArray, a = .tup [.hsc 0 r.1.length r.1.length, .int .i64 0] ∧ h' = [some (false, strs.map .str)] ∧ strs.take r.1.length = r.1)
theorem acalls_newo {P : Program} {f : FuncId} {args : List AV} {r : List ByteArray × Int} (hent : entersB P f = true)
    (hc : ∀ g w vargs, Sim P g [] w → RepL g vargs args → Calls P f vargs.toArray w fun e w' => MadeO w w' e r) : ACalls P f args [] (NewO r) := by
  refine ⟨hent, fun g w vargs hs hns hr hp => (hc g w vargs hs hr).mono ?_⟩
  rintro e w' ⟨hb, hres⟩
  have hblk : ∀ b, b < w.heap.size → w'.heap[b]? = w.heap[b]? := fun b hb' => hb.block b hb'
  have hion : ∀ i b, g.io i ≠ some b := fun i b hi => absurd (hs.dom i b hi).1 (by simp)
  have hprot : ∀ b o u, (g.news w w').C b o = some u → w'.cell? ⟨b, o, none⟩ = some u ∧ u.oneCell' = true := fun b o u hcu => by
    simp only [Gh.news] at hcu
    split at hcu
    · next hlt =>
      have := hs.prot b o u hcu
      exact ⟨by rw [World.cell?_of_block (w := w) (hblk b hlt)]; exact this.1, this.2⟩
    · simp only [Option.filter_eq_some_iff] at hcu
      exact hcu
  have hfro : ∀ b o, (g.news w w').X b = some o → w'.heap[b]? = some o ∧ g.own b = none := fun b o hx => by
    simp only [Gh.news] at hx
    split at hx
    · next hlt => exact ⟨(hblk b hlt).trans (hs.fro b o hx).1, (hs.fro b o hx).2.1⟩
    · next hge =>
      refine ⟨hx, ?_⟩
      cases ho : g.own b with
      | none => rfl
      | some x => exact absurd (hs.olt b x ho) hge
  rcases hres with ⟨h1, rfl⟩ | ⟨h0, b, strs, t, hbb, rfl, hcell, htake⟩
  · refine ⟨_, _, [], g.news w w', rfl, ⟨news_le hs, fun _ => .rfl, fun b hF => ⟨hblk b (hs.flt b hF), fun o => by simp only [Gh.news]; rw [if_pos (hs.flt b hF)], rfl, fun _ h => h⟩, hb.os, hb.tape, hb.output, hb.size, fun b hF => by simp only [Gh.news]; rw [if_pos (hs.flt b hF)]⟩, ⟨hprot, fun id s l h => by simp at h, hs.inj, fun i b hi => absurd hi (hion i b), fun b hF => Nat.lt_of_lt_of_le (hs.flt b hF) hb.size, fun b y hy => Nat.lt_of_lt_of_le (hs.olt b y hy) hb.size, fun i h => by simp at h, fun b o hx => ⟨(hfro b o hx).1, (hfro b o hx).2, fun i => hion i b⟩⟩, hns, ?_, ?_, .inl ⟨h1, rfl, rfl⟩⟩
    · exact .tup [_, _] _ (by intro a ha; simp at ha; rcases ha with rfl | rfl <;> rfl) (.cons (.lst0 none 0 .clip (fun _ => rfl)) (.cons (.int .i64 _) .nil))
    · rfl
  · have hbs := lt_of_block hcell
    have hle : GLe g (g.newo w w' b) := ⟨fun b' o v hcv => by
        have := hs.clt hcv
        simp only [Gh.newo]
        rw [if_neg (by omega)]
        exact (news_le hs).C b' o v hcv, fun i b' hi => absurd hi (hion i b'), fun b' o hx => by
        have := lt_of_block (hs.fro b' o hx).1
        simp only [Gh.newo]
        rw [if_neg (by omega)]
        exact (news_le hs).X b' o hx⟩
    have hio : ∀ i b', (g.newo w w' b).io i = some b' → i = 0 ∧ b' = b := fun i b' hi => by
      simp only [Gh.newo] at hi
      split at hi
      · next h => exact ⟨h, by injection hi with hi; exact hi.symm⟩
      · cases hi
    refine ⟨_, _, [some (false, strs.map .str)], g.newo w w' b, rfl, ⟨hle, fun _ => .rfl, fun b' hF => ?_, hb.os, hb.tape, hb.output, hb.size, fun b' hF => ?_⟩, ⟨fun b' o u hcu => ?_, fun id s l hl => ?_, fun i j b' hi hj => ?_, fun i b' hi => ?_, fun b' hF => Nat.lt_of_lt_of_le (hs.flt b' hF) hb.size, fun b' y hy => Nat.lt_of_lt_of_le (hs.olt b' y hy) hb.size, fun i h => ?_, fun b' o hx => ?_⟩, hns, ?_, ?_, .inr ⟨h0, strs, rfl, rfl, htake⟩⟩
    · have hlt := hs.flt b' hF
      refine ⟨hblk b' hlt, fun o => ?_, rfl, fun i hi => ?_⟩
      · simp only [Gh.newo, Gh.news]
        rw [if_neg (by omega), if_pos hlt]
      · have := (hio i b' hi).2
        omega
    · have hlt := hs.flt b' hF
      simp only [Gh.newo, Gh.news]
      rw [if_neg (by omega), if_pos hlt]
    · simp only [Gh.newo] at hcu
      split at hcu
      · cases hcu
      · exact hprot b' o u hcu
    · have hid : id = 0 := by
        rcases id with _ | id
        · rfl
        · simp at hl
      subst hid
      simp only [List.getElem?_cons_zero, Option.some.injEq, Prod.mk.injEq] at hl
      obtain ⟨rfl, rfl⟩ := hl
      refine ⟨b, _, t, rfl, hcell, ?_, fun v hv => ?_, fun i v a hv ha => ?_, fun _ o => ?_, fun h => (nomatch h), fun hF => ?_, ?_⟩
      · rw [List.toList_toArray]; exact repL_strs _ strs
      · rw [List.toList_toArray] at hv
        obtain ⟨s, _, rfl⟩ := List.mem_map.1 hv
        rfl
      · have := List.mem_of_getElem? ha
        obtain ⟨s, _, rfl⟩ := List.mem_map.1 this
        trivial
      · simp only [Gh.newo, if_true]
      · have := hs.flt b hF
        omega
      · show g.own b = none
        cases ho : g.own b with
        | none => rfl
        | some x => have := hs.olt b x ho; omega
    · rw [(hio i b' hi).1, (hio j b' hj).1]
    · obtain ⟨rfl, rfl⟩ := hio i b' hi
      exact ⟨by simp, hbs⟩
    · rcases i with _ | i
      · simp at h
      · simp at h
    · simp only [Gh.newo] at hx
      split at hx
      · cases hx
      · next hne =>
        exact ⟨(hfro b' o hx).1, (hfro b' o hx).2, fun i hi => hne (hio i b' hi).2⟩
    · exact .tup [_, _] _ (by intro a ha; simp at ha; rcases ha with rfl | rfl <;> rfl) (.cons (.hsc 0 b _ _ rfl (Nat.le_refl _)) (.cons (.int .i64 _) .nil))
    · rfl
theorem made_of {w w' : World} {e : Ending} {r : List ByteArray × Int} (h : Made w w' e r) (h0 : r.2 ≠ 0) : MadeO w w' e r := by
  obtain ⟨hb, h1 | ⟨h2, _⟩⟩ := h
  · exact ⟨hb, .inl h1⟩
  · exact absurd h2 h0
theorem a_sof (l : List ByteArray) (hl : l.length ≤ 1000000) (hs : ∀ x ∈ l, x.size ≤ 9223372036854775807) : ACalls Try.prog 28 [.lst .ro l.length (l.map .str)] [] (NewO (ofE l)) := by
  refine acalls_newo (by kernel_rfl) ?_
  intro g w vargs hsim hr
  obtain ⟨v, vs, rfl, hv, hvs⟩ : ∃ v vs, vargs = v :: vs ∧ Rep g v (.lst .ro l.length (l.map .str)) ∧ RepL g vs [] := by
    cases hr with
    | cons h1 h2 => exact ⟨_, _, rfl, h1, h2⟩
  cases hvs
  by_cases h0 : l = []
  · subst h0
    obtain ⟨a, c, rfl, hrow⟩ := rep_strs hsim hv
    exact (sof_none a c w).mono fun e w' h => made_of h (by decide)
  · generalize hn : l.length = n at hv
    generalize hm : l.map AV.str = m at hv
    cases hv with
    | lst b off _ c _ vs _ h1 h2 h3 h4 h5 =>
      rw [← hm] at h5
      obtain rfl := repl_str h5
      exact sof_anyO b off c n l w hn (by rw [← hn]; exact List.length_pos_iff.2 h0) (by omega) (fun j u hj => (hsim.prot b _ u (h1 j u hj)).1) hs h3
    | lst0 a c _ h => exact absurd (List.eq_nil_of_length_eq_zero hn) h0
end Go.Proofs.Ytpiofcjkekpboaa
