/- The plain law and the walk of AtomBack. -/
import Derived.Test.YtdlafipcbmbkjaaAtV
import Derived.Test.YtdlafipcbmbkjaaAtQ
namespace Go.Proofs.Ytdlafipcbmbkjaa
open Go.RowKit Go.Maps Go.ChangeShapes Go.WideShapes Go.ChangeAt

/-- No name twice of a kind. -/
def Once (L : Nat → List ByteArray) : Prop := ∀ k, (L k).Nodup
theorem once_nil : Once (fun _ => []) := fun _ => List.nodup_nil
theorem once_put {L : Nat → List ByteArray} (h : Once L) (kd : Int) (s : ByteArray) : Once (putL L kd s) := by
  intro k
  unfold putL
  split
  · next hc =>
    by_cases e : k = kd.toNat
    · subst e; rw [upd_same]
      refine List.nodup_append.2 ⟨h _, by simp, ?_⟩
      intro x hx y hy hxy
      simp at hy
      exact hc.2.2.2.1 (hy ▸ hxy ▸ hx)
    · rw [upd_other _ _ e]; exact h k
  · exact h k
structure GoodL (L : Nat → List ByteArray) : Prop where
  few : Few L
  may : AllMay L
  once : Once L
theorem good_nil : GoodL (fun _ => []) := ⟨few_nil, allMay_nil, once_nil⟩
theorem good_put {L : Nat → List ByteArray} (h : GoodL L) (kd : Int) (s : ByteArray) : GoodL (putL L kd s) := ⟨few_put h.few _ _, allMay_put h.may _ _, once_put h.once _ _⟩

/-- all names of the table, as AtomBack takes them -/
def backL (L : Nat → List ByteArray) : Nat → List ByteArray := fun k => allL L k
theorem backL_in {L : Nat → List ByteArray} {k : Nat} (h : 1 ≤ k ∧ k ≤ 5) : backL L k = L k := by
  unfold backL allL; rw [if_pos (by omega)]; simp
theorem backL_out {L : Nat → List ByteArray} {k : Nat} (h : ¬ (1 ≤ k ∧ k ≤ 5)) : backL L k = [] := by
  unfold backL allL; rw [if_neg (by omega)]
/-- Names that are new, may be and are few enough are loaded without an error. -/
theorem fold_back {k : Nat} (h1 : 1 ≤ k) (h5 : k ≤ 5) : ∀ (l : List ByteArray) (st : (Nat → List ByteArray) × Int), st.2 = 0 → l.Nodup → (∀ s ∈ l, mayB s = true) → (∀ s ∈ l, s ∉ st.1 k) → (st.1 k).length + l.length ≤ 4000 → (l.foldl (loadStep k) st).2 = 0
  | [], st, h, _, _, _, _ => h
  | s :: r, st, h, hn, hm, hd, hl => by
    rw [List.foldl_cons]
    have hs : s ∉ st.1 k := hd s (List.mem_cons_self ..)
    have hpe : putE st.1 k s = 0 := by
      unfold putE
      rw [if_neg (by omega), if_neg (by rw [hm s (List.mem_cons_self ..)]; simp)]
      simp only [Int.toNat_natCast, if_neg hs]
      rw [if_pos (by simp at hl; omega)]
    have hst : (loadStep k st s).2 = 0 := by unfold loadStep; rw [if_neg (by simpa using h), if_neg hs, if_neg (by simpa using hpe)]
    have h2 := (loadStep_ok hst).2.1
    rw [List.nodup_cons] at hn
    refine fold_back h1 h5 r _ hst hn.2 (fun t ht => hm t (List.mem_cons_of_mem _ ht)) ?_ ?_
    · intro t ht
      rw [h2, upd_same]
      intro hin
      rcases List.mem_append.1 hin with h3 | h3
      · exact hd t (List.mem_cons_of_mem _ ht) h3
      · simp at h3; subst h3; exact hn.1 ht
    · rw [h2, upd_same]; simp at hl ⊢; omega
theorem load_back {L : Nat → List ByteArray} (h : GoodL L) : ∀ j, j ≤ 5 → (loadTo (backL L) j).2 = 0
  | 0, _ => rfl
  | j + 1, hj => by
    have h0 := load_back h j (by omega)
    show ((backL L (j + 1)).foldl (loadStep (j + 1)) (loadTo (backL L) j)).2 = 0
    rw [backL_in (by omega)]
    have he : (loadTo (backL L) j).1 (j + 1) = [] := by rw [loadTo_ok j h0 (j + 1), if_neg (by omega)]
    refine fold_back (by omega) (by omega) _ _ h0 (h.once _) (h.may _) ?_ ?_
    · intro s _; rw [he]; simp
    · rw [he]; simp; exact h.few _
theorem load_same {L : Nat → List ByteArray} (h : GoodL L) (k : Nat) : (loadTo (backL L) 5).1 k = backL L k := by
  rw [loadTo_ok 5 (load_back h 5 (by omega)) k]
  by_cases hk : 1 ≤ k ∧ k ≤ 5
  · rw [if_pos hk]
  · rw [if_neg hk, backL_out hk]
theorem allL_back {L : Nat → List ByteArray} (h : GoodL L) (k : Nat) : allL (loadTo (backL L) 5).1 k = backL L k := by
  show (if 1 ≤ (k : Int) ∧ (k : Int) ≤ 5 then (loadTo (backL L) 5).1 (k : Int).toNat else []) = _
  by_cases hk : 1 ≤ k ∧ k ≤ 5
  · rw [if_pos (by omega), Int.toNat_natCast, load_same h]
  · rw [if_neg (by omega), backL_out hk]
/-- a name's place in a list without repeats -/
theorem posOf_nodup {l : List ByteArray} (h : l.Nodup) {i : Nat} {s : ByteArray} (hs : l[i]? = some s) : posOf s l = i := by
  refine posOf_of_get hs ?_
  intro j hj e
  obtain ⟨hi, e1⟩ := List.getElem?_eq_some_iff.1 hs
  rw [List.getElem?_eq_getElem (by omega)] at e
  injection e with e
  exact (List.pairwise_iff_getElem.1 h) j i (by omega) hi hj (e.trans e1.symm)
theorem find_back {L : Nat → List ByteArray} (h : GoodL L) {k i : Nat} {s : ByteArray} (hs : (backL L k)[i]? = some s) :
    findB L k s = true ∧ findA L k s = 8192 * k + (i + 1) ∧ findB (loadTo (backL L) 5).1 k s = true ∧ findA (loadTo (backL L) 5).1 k s = 8192 * k + (i + 1) := by
  by_cases hk : 1 ≤ k ∧ k ≤ 5
  · have e := backL_in (L := L) hk
    rw [e] at hs
    have hm : s ∈ L k := List.mem_of_getElem? hs
    have hp : posOf s (L k) = i := posOf_nodup (h.once k) hs
    have hb : findB L k s = true := by simp only [findB, decide_eq_true_eq]; exact ⟨by omega, by omega, by simpa using hm⟩
    have hb2 : findB (loadTo (backL L) 5).1 k s = true := by
      simp only [findB, decide_eq_true_eq]; refine ⟨by omega, by omega, ?_⟩
      rw [Int.toNat_natCast, load_same h, e]; exact hm
    refine ⟨hb, ?_, hb2, ?_⟩
    · unfold findA; rw [if_pos hb, Int.toNat_natCast, hp]
    · unfold findA; rw [if_pos hb2, Int.toNat_natCast, load_same h, e, hp]
  · exfalso; rw [backL_out hk] at hs; simp at hs

/-- the table behind Put of the first i acts -/
def putTo (l : List ActT) (i : Nat) : Nat → List ByteArray := (l.take i).foldl (fun L x => putL L x.1 x.2.1) (fun _ => [])
theorem putTo_succ {l : List ActT} {i : Nat} {x : ActT} (h : l[i]? = some x) : putTo l (i + 1) = putL (putTo l i) x.1 x.2.1 := take_foldl _ l _ i x h
theorem good_fold : ∀ (l : List ActT) (L : Nat → List ByteArray), GoodL L → GoodL (l.foldl (fun L x => putL L x.1 x.2.1) L)
  | [], _, h => h
  | x :: r, _, h => good_fold r _ (good_put h _ _)
theorem good_putTo (l : List ActT) (i : Nat) : GoodL (putTo l i) := good_fold _ _ good_nil

end Go.Proofs.Ytdlafipcbmbkjaa
