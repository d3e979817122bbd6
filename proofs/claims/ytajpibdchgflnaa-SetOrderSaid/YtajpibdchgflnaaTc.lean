/- SetOrder: the plain law and the walk. -/
import Derived.Test.YtajpibdchgflnaaSz
namespace Go.Proofs.Ytajpibdchgflnaa
set_option linter.unusedSimpArgs false
set_option linter.unusedVariables false
open Go.RowKit Go.Lib

/-- the words in another order, the first so many rounds -/
def turned (l : List ByteArray) (t : Nat) : Nat → List ByteArray
  | 0 => []
  | i + 1 => turned l t i ++ [l.getD ((i + t) % l.length) ⟨#[]⟩, l.getD (l.length - 1 - i) ⟨#[]⟩]
theorem turned_len (l : List ByteArray) (t : Nat) : ∀ i, (turned l t i).length = 2 * i
  | 0 => rfl
  | i + 1 => by simp only [turned, List.length_append, turned_len l t i, List.length_cons, List.length_nil]; omega
theorem getD_mem' {l : List ByteArray} {j : Nat} (h : j < l.length) : l.getD j ⟨#[]⟩ ∈ l := by
  rw [List.getD_eq_getElem?_getD, List.getElem?_eq_getElem h]; exact List.getElem_mem h
theorem turned_sub {l : List ByteArray} {t : Nat} : ∀ {i : Nat}, i ≤ l.length → ∀ x ∈ turned l t i, x ∈ l
  | 0, _, x, hx => by simp [turned] at hx
  | i + 1, hi, x, hx => by
    simp only [turned, List.mem_append, List.mem_cons, List.not_mem_nil, or_false] at hx
    rcases hx with hx | rfl | rfl
    · exact turned_sub (by omega) x hx
    · exact getD_mem' (Nat.mod_lt _ (by omega))
    · exact getD_mem' (by omega)
theorem turned_has {l : List ByteArray} {t : Nat} : ∀ {i j : Nat}, j < i → l.getD (l.length - 1 - j) ⟨#[]⟩ ∈ turned l t i
  | i + 1, j, h => by
    simp only [turned, List.mem_append, List.mem_cons, List.not_mem_nil, or_false]
    by_cases e : j = i
    · subst e; exact .inr (.inr rfl)
    · exact .inl (turned_has (by omega))
theorem turned_mem {l : List ByteArray} {t : Nat} (x : ByteArray) : x ∈ l ↔ x ∈ turned l t l.length := by
  constructor
  · intro hx
    obtain ⟨j, hj, rfl⟩ := List.mem_iff_getElem.1 hx
    have := turned_has (l := l) (t := t) (i := l.length) (j := l.length - 1 - j) (by omega)
    rw [show l.length - 1 - (l.length - 1 - j) = j by omega, List.getD_eq_getElem?_getD, List.getElem?_eq_getElem hj] at this
    exact this
  · exact turned_sub (Nat.le_refl _) x
theorem ofE_rising (l : List ByteArray) : rising (ofE l).1 = true := by
  by_cases h : (ofE l).2 = 0
  · rw [ofE_ok h]; exact rising_nrm l
  · rw [ofE_zero h]; rfl
theorem ofE_sub (l : List ByteArray) : ∀ x ∈ (ofE l).1, x ∈ l := by
  intro x hx
  by_cases h : (ofE l).2 = 0
  · rw [ofE_ok h] at hx; exact mem_nrm.1 hx
  · rw [ofE_zero h] at hx; simp at hx
theorem rising_next : ∀ {l : List ByteArray} {i : Nat}, rising l = true → (h : i + 1 < l.length) → wless l[i] l[i + 1] = true
  | [], _, _, h => by simp at h
  | [_], _, _, h => by simp at h
  | x :: y :: r, 0, hr, _ => by simp only [rising, Bool.and_eq_true] at hr; exact hr.1
  | x :: y :: r, i + 1, hr, h => by
    simp only [rising, Bool.and_eq_true] at hr
    exact rising_next (l := y :: r) (i := i) hr.2 (by simpa using h)
theorem rising_at {l : List ByteArray} {i : Nat} (hr : rising l = true) (h1 : 1 ≤ i) (hi : i < l.length) : wless (l[i - 1]'(by omega)) l[i] = true := by
  obtain ⟨j, rfl⟩ : ∃ j, i = j + 1 := ⟨i - 1, by omega⟩
  exact rising_next hr hi
set_option maxRecDepth 100000 in
set_option maxHeartbeats 2000000 in
theorem a_order (l : List ByteArray) (t : Nat) (kl : l.length ≤ 9223372036854775807) (ht : t < 256) : ACalls Try.prog 8 [vS l, .int .u8 t] [] fun v _ => v = .bool true := by
  unfold vS
  refine acalls_of mixed J_law03_SetOrder_ok (Nat.le_of_ble_eq_true rfl) ?_; simp only [J_law03_SetOrder, wk,if_true,if_false,forall_const,implies_true,ne_eq,eq_self,Nat.reduceEqDiff,Nat.reduceAdd,Nat.reduceMul,Nat.reduceSub,Nat.reduceLeDiff,Nat.reduceLT,Int.reduceEq,Int.reduceLT,Int.reduceLE,Int.reduceAdd,Int.reduceSub,Int.reduceMul,Int.reduceNeg,Int.reduceNe,reduceCtorEq,Int.reduceToNat,↓reduceIte]
  refine PCalls.use (p_awake) ?_; simp only [wk,if_true,if_false,forall_const,implies_true,ne_eq,eq_self,Nat.reduceEqDiff,Nat.reduceAdd,Nat.reduceMul,Nat.reduceSub,Nat.reduceLeDiff,Nat.reduceLT,Int.reduceEq,Int.reduceLT,Int.reduceLE,Int.reduceAdd,Int.reduceSub,Int.reduceMul,Int.reduceNeg,Int.reduceNe,reduceCtorEq,Int.reduceToNat,↓reduceIte]
  refine PCalls.use (p_large [l] (by simp) (by intro s hs; simp at hs; subst hs; assumption)) ?_; simp only [wk,if_true,if_false,forall_const,implies_true,ne_eq,eq_self,Nat.reduceEqDiff,Nat.reduceAdd,Nat.reduceMul,Nat.reduceSub,Nat.reduceLeDiff,Nat.reduceLT,Int.reduceEq,Int.reduceLT,Int.reduceLE,Int.reduceAdd,Int.reduceSub,Int.reduceMul,Int.reduceNeg,Int.reduceNe,reduceCtorEq,Int.reduceToNat,↓reduceIte]
  intro hno
  have sl : smallS l := largeS_no.1 hno l (by simp)
  have nl := sl.1
  refine W_loop (fun n fr h => ∃ i : Nat, i ≤ l.length ∧ n = l.length - i ∧ h = [] ∧ fr = [(0, .lst .ro l.length (l.map .str)), (1, .int .u8 t), (5, .lst (.own 36) (turned l t i).length ((turned l t i).map .str)), (19, .int .i64 l.length), (20, .int .i64 i)]) l.length ⟨0, by omega, by omega, rfl, rfl⟩ ?_
  rintro n fr h ⟨i, hi, rfl, rfl, rfl⟩
  simp only [J_law03_SetOrder_j4, wk,if_true,if_false,forall_const,implies_true,ne_eq,eq_self,Nat.reduceEqDiff,Nat.reduceAdd,Nat.reduceMul,Nat.reduceSub,Nat.reduceLeDiff,Nat.reduceLT,Int.reduceEq,Int.reduceLT,Int.reduceLE,Int.reduceAdd,Int.reduceSub,Int.reduceMul,Int.reduceNeg,Int.reduceNe,reduceCtorEq,Int.reduceToNat,↓reduceIte]
  refine ⟨fun hlt => ?_, fun hge => ?_⟩
  · have hil : i < l.length := by omega
    have hw : IntKind.wrap .i64 (t : Int) = t := by rw [IntKind.wrap_i64]; omega
    have hm : ((i : Int) + (t : Int)).tmod (l.length : Int) = (((i + t) % l.length : Nat) : Int) := by rw [Int.tmod_eq_emod_of_nonneg (by omega)]; simp
    have hml : (i + t) % l.length < l.length := Nat.mod_lt _ (by omega)
    rw [hw, hm]
    refine ⟨inR_of (by omega) (by omega), by omega, ⟨by omega, by omega⟩, ?_⟩
    have hd1 : (l.map AV.str).drop (((i + t) % l.length : Nat) : Int).toNat = .str (l.getD ((i + t) % l.length) ⟨#[]⟩) :: (l.map AV.str).drop ((i + t) % l.length + 1) := by
      rw [show ((((i + t) % l.length : Nat) : Int)).toNat = (i + t) % l.length by omega, drop_str hml, List.getD_eq_getElem?_getD, List.getElem?_eq_getElem hml]; rfl
    simp only [hd1, wk,if_true,if_false,forall_const,implies_true,ne_eq,eq_self,Nat.reduceEqDiff,Nat.reduceAdd,Nat.reduceMul,Nat.reduceSub,Nat.reduceLeDiff,Nat.reduceLT,Int.reduceEq,Int.reduceLT,Int.reduceLE,Int.reduceAdd,Int.reduceSub,Int.reduceMul,Int.reduceNeg,Int.reduceNe,reduceCtorEq,Int.reduceToNat,↓reduceIte]
    have hi2 : (l.length : Int) - 1 - (i : Int) = ((l.length - 1 - i : Nat) : Int) := by omega
    have hl2 : l.length - 1 - i < l.length := by omega
    have hd2 : (l.map AV.str).drop ((l.length - 1 - i : Nat) : Int).toNat = .str (l.getD (l.length - 1 - i) ⟨#[]⟩) :: (l.map AV.str).drop (l.length - 1 - i + 1) := by
      rw [show (((l.length - 1 - i : Nat) : Int)).toNat = l.length - 1 - i by omega, drop_str hl2, List.getD_eq_getElem?_getD, List.getElem?_eq_getElem hl2]; rfl
    refine ⟨inR_of (by omega) (by omega), inR_of (by omega) (by omega), ⟨by omega, by omega⟩, ?_⟩
    simp only [hi2, hd2, wk,if_true,if_false,forall_const,implies_true,ne_eq,eq_self,Nat.reduceEqDiff,Nat.reduceAdd,Nat.reduceMul,Nat.reduceSub,Nat.reduceLeDiff,Nat.reduceLT,Int.reduceEq,Int.reduceLT,Int.reduceLE,Int.reduceAdd,Int.reduceSub,Int.reduceMul,Int.reduceNeg,Int.reduceNe,reduceCtorEq,Int.reduceToNat,↓reduceIte]
    have htl := turned_len l t i
    refine ⟨⟨by omega, by omega⟩, inR_of (by omega) (by omega), l.length - (i + 1), by omega, i + 1, by omega, rfl, ?_⟩
    simp [turned]
  · obtain rfl : i = l.length := by omega
    simp only [J_law03_SetOrder_j3, wk,if_true,if_false,forall_const,implies_true,ne_eq,eq_self,Nat.reduceEqDiff,Nat.reduceAdd,Nat.reduceMul,Nat.reduceSub,Nat.reduceLeDiff,Nat.reduceLT,Int.reduceEq,Int.reduceLT,Int.reduceLE,Int.reduceAdd,Int.reduceSub,Int.reduceMul,Int.reduceNeg,Int.reduceNe,reduceCtorEq,Int.reduceToNat,↓reduceIte]
    have hmem : ∀ x, x ∈ turned l t l.length ↔ x ∈ l := fun x => (turned_mem x).symm
    refine PCalls.use (p_sof l (by omega) (fun x hx => by have := sl.2 x hx; omega)) ?_; simp only [wk,if_true,if_false,forall_const,implies_true,ne_eq,eq_self,Nat.reduceEqDiff,Nat.reduceAdd,Nat.reduceMul,Nat.reduceSub,Nat.reduceLeDiff,Nat.reduceLT,Int.reduceEq,Int.reduceLT,Int.reduceLE,Int.reduceAdd,Int.reduceSub,Int.reduceMul,Int.reduceNeg,Int.reduceNe,reduceCtorEq,Int.reduceToNat,↓reduceIte]
    simp only [vSet, wk,if_true,if_false,forall_const,implies_true,ne_eq,eq_self,Nat.reduceEqDiff,Nat.reduceAdd,Nat.reduceMul,Nat.reduceSub,Nat.reduceLeDiff,Nat.reduceLT,Int.reduceEq,Int.reduceLT,Int.reduceLE,Int.reduceAdd,Int.reduceSub,Int.reduceMul,Int.reduceNeg,Int.reduceNe,reduceCtorEq,Int.reduceToNat,↓reduceIte]
    refine PCalls.use (p_sof (turned l t l.length) (by rw [turned_len]; omega) (fun x hx => by have := sl.2 x ((hmem x).1 hx); omega)) ?_; simp only [wk,if_true,if_false,forall_const,implies_true,ne_eq,eq_self,Nat.reduceEqDiff,Nat.reduceAdd,Nat.reduceMul,Nat.reduceSub,Nat.reduceLeDiff,Nat.reduceLT,Int.reduceEq,Int.reduceLT,Int.reduceLE,Int.reduceAdd,Int.reduceSub,Int.reduceMul,Int.reduceNeg,Int.reduceNe,reduceCtorEq,Int.reduceToNat,↓reduceIte]
    rw [ofE_congr hmem]
    simp only [vSet, wk,if_true,if_false,forall_const,implies_true,ne_eq,eq_self,Nat.reduceEqDiff,Nat.reduceAdd,Nat.reduceMul,Nat.reduceSub,Nat.reduceLeDiff,Nat.reduceLT,Int.reduceEq,Int.reduceLT,Int.reduceLE,Int.reduceAdd,Int.reduceSub,Int.reduceMul,Int.reduceNeg,Int.reduceNe,reduceCtorEq,Int.reduceToNat,↓reduceIte]
    refine PCalls.use (p_requal (ofE l).1 (ofE l).1 (by have := ofE_small l; omega)) ?_; simp only [wk,if_true,if_false,forall_const,implies_true,ne_eq,eq_self,Nat.reduceEqDiff,Nat.reduceAdd,Nat.reduceMul,Nat.reduceSub,Nat.reduceLeDiff,Nat.reduceLT,Int.reduceEq,Int.reduceLT,Int.reduceLE,Int.reduceAdd,Int.reduceSub,Int.reduceMul,Int.reduceNeg,Int.reduceNe,reduceCtorEq,Int.reduceToNat,↓reduceIte]
    have hos := ofE_small l
    have hri := ofE_rising l
    have hsub := ofE_sub l
    refine W_loop (fun n fr h => ∃ i : Nat, 1 ≤ i ∧ i ≤ (ofE l).1.length + 1 ∧ n = (ofE l).1.length + 1 - i ∧ h = [] ∧ fr = [(0, .lst .ro l.length (l.map .str)), (7, .lst .ro (ofE l).1.length ((ofE l).1.map .str)), (8, .int .i64 (ofE l).2), (11, .int .i64 i)]) (ofE l).1.length ⟨1, by omega, by omega, by omega, rfl, rfl⟩ ?_
    rintro n fr h ⟨i, h1i, hi, rfl, rfl, rfl⟩
    simp only [J_law03_SetOrder_j2, wk,if_true,if_false,forall_const,implies_true,ne_eq,eq_self,Nat.reduceEqDiff,Nat.reduceAdd,Nat.reduceMul,Nat.reduceSub,Nat.reduceLeDiff,Nat.reduceLT,Int.reduceEq,Int.reduceLT,Int.reduceLE,Int.reduceAdd,Int.reduceSub,Int.reduceMul,Int.reduceNeg,Int.reduceNe,reduceCtorEq,Int.reduceToNat,↓reduceIte]
    refine ⟨fun hlt => ?_, fun hge => ?_⟩
    · have hil : i < (ofE l).1.length := by omega
      have e1 : (i : Int) - 1 = ((i - 1 : Nat) : Int) := by omega
      have hl1 : i - 1 < (ofE l).1.length := by omega
      have hd1 : ((ofE l).1.map AV.str).drop ((i - 1 : Nat) : Int).toNat = .str (ofE l).1[i - 1] :: ((ofE l).1.map AV.str).drop (i - 1 + 1) := by rw [show (((i - 1 : Nat) : Int)).toNat = i - 1 by omega, drop_str hl1]
      have hd2 : ((ofE l).1.map AV.str).drop (i : Int).toNat = .str (ofE l).1[i] :: ((ofE l).1.map AV.str).drop (i + 1) := by rw [show (i : Int).toNat = i by omega, drop_str hil]
      refine ⟨inR_of (by omega) (by omega), ⟨by omega, by omega⟩, ?_⟩
      simp only [e1, hd1, wk,if_true,if_false,forall_const,implies_true,ne_eq,eq_self,Nat.reduceEqDiff,Nat.reduceAdd,Nat.reduceMul,Nat.reduceSub,Nat.reduceLeDiff,Nat.reduceLT,Int.reduceEq,Int.reduceLT,Int.reduceLE,Int.reduceAdd,Int.reduceSub,Int.reduceMul,Int.reduceNeg,Int.reduceNe,reduceCtorEq,Int.reduceToNat,↓reduceIte]
      refine ⟨⟨by omega, by omega⟩, ?_⟩
      simp only [hd2, wk,if_true,if_false,forall_const,implies_true,ne_eq,eq_self,Nat.reduceEqDiff,Nat.reduceAdd,Nat.reduceMul,Nat.reduceSub,Nat.reduceLeDiff,Nat.reduceLT,Int.reduceEq,Int.reduceLT,Int.reduceLE,Int.reduceAdd,Int.reduceSub,Int.reduceMul,Int.reduceNeg,Int.reduceNe,reduceCtorEq,Int.reduceToNat,↓reduceIte]
      refine ⟨_, p_rwless (ofE l).1[i - 1] (ofE l).1[i] (by have := sl.2 _ (hsub _ (List.getElem_mem hl1)); omega), ?_⟩
      rw [rising_at hri h1i hil]
      simp only [wk,if_true,if_false,forall_const,implies_true,ne_eq,eq_self,Nat.reduceEqDiff,Nat.reduceAdd,Nat.reduceMul,Nat.reduceSub,Nat.reduceLeDiff,Nat.reduceLT,Int.reduceEq,Int.reduceLT,Int.reduceLE,Int.reduceAdd,Int.reduceSub,Int.reduceMul,Int.reduceNeg,Int.reduceNe,reduceCtorEq,Int.reduceToNat,↓reduceIte]
      exact ⟨inR_of (by omega) (by omega), (ofE l).1.length + 1 - (i + 1), by omega, i + 1, by omega, by omega, rfl, rfl⟩
    · simp only [J_law03_SetOrder_j1, wk,if_true,if_false,forall_const,implies_true,ne_eq,eq_self,Nat.reduceEqDiff,Nat.reduceAdd,Nat.reduceMul,Nat.reduceSub,Nat.reduceLeDiff,Nat.reduceLT,Int.reduceEq,Int.reduceLT,Int.reduceLE,Int.reduceAdd,Int.reduceSub,Int.reduceMul,Int.reduceNeg,Int.reduceNe,reduceCtorEq,Int.reduceToNat,↓reduceIte]
      intro h0
      have e := ofE_ok h0
      have hg := ofE_good (l := l) (r := nrm l) e
      have hg' : setMay (ofE l).1 = true := by rw [e]; exact hg
      refine PCalls.use (p_same (ofE l).1 l (by omega) (by omega) (smallS_nrm hg').2.2 (maxLen_of sl)) ?_; simp only [wk,if_true,if_false,forall_const,implies_true,ne_eq,eq_self,Nat.reduceEqDiff,Nat.reduceAdd,Nat.reduceMul,Nat.reduceSub,Nat.reduceLeDiff,Nat.reduceLT,Int.reduceEq,Int.reduceLT,Int.reduceLE,Int.reduceAdd,Int.reduceSub,Int.reduceMul,Int.reduceNeg,Int.reduceNe,reduceCtorEq,Int.reduceToNat,↓reduceIte]
      have hs : (withinE (ofE l).1 l && withinE l (ofE l).1) = true := by
        rw [Bool.and_eq_true, withinE_iff, withinE_iff, e]
        exact ⟨fun w hw => mem_nrm.1 hw, fun w hw => mem_nrm.2 hw⟩
      simp only [wk,if_true,if_false,forall_const,implies_true,ne_eq,eq_self,Nat.reduceEqDiff,Nat.reduceAdd,Nat.reduceMul,Nat.reduceSub,Nat.reduceLeDiff,Nat.reduceLT,Int.reduceEq,Int.reduceLT,Int.reduceLE,Int.reduceAdd,Int.reduceSub,Int.reduceMul,Int.reduceNeg,Int.reduceNe,reduceCtorEq,Int.reduceToNat,↓reduceIte, hs]
      refine PCalls.use (p_smay (ofE l).1 (by omega) (fun x hx => by have := (smallS_nrm hg').2.1 x hx; omega)) ?_; simp only [wk,if_true,if_false,forall_const,implies_true,ne_eq,eq_self,Nat.reduceEqDiff,Nat.reduceAdd,Nat.reduceMul,Nat.reduceSub,Nat.reduceLeDiff,Nat.reduceLT,Int.reduceEq,Int.reduceLT,Int.reduceLE,Int.reduceAdd,Int.reduceSub,Int.reduceMul,Int.reduceNeg,Int.reduceNe,reduceCtorEq,Int.reduceToNat,↓reduceIte]
      simp only [wk,if_true,if_false,forall_const,implies_true,ne_eq,eq_self,Nat.reduceEqDiff,Nat.reduceAdd,Nat.reduceMul,Nat.reduceSub,Nat.reduceLeDiff,Nat.reduceLT,Int.reduceEq,Int.reduceLT,Int.reduceLE,Int.reduceAdd,Int.reduceSub,Int.reduceMul,Int.reduceNeg,Int.reduceNe,reduceCtorEq,Int.reduceToNat,↓reduceIte, hg']
end Go.Proofs.Ytajpibdchgflnaa
