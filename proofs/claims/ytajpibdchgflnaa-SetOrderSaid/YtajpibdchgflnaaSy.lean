/- SetAnd: the plain law, and the walk. -/
import Derived.Test.YtajpibdchgflnaaSx
namespace Go.Proofs.Ytajpibdchgflnaa
set_option linter.unusedSimpArgs false
set_option linter.unusedVariables false
open Go.RowKit Go.Lib

theorem and_may {a b : List ByteArray} (ha : setMay a = true) (hb : setMay b = true) : andE a b = boundE (nrm (a ++ b)) := by
  unfold andE
  rw [if_neg (by simp [ha, hb]), ofE_may (fun x hx => by rcases List.mem_append.1 hx with h | h; exact (setMay_words ha).2 x h; exact (setMay_words hb).2 x h)]
theorem nrm_pos {l : List ByteArray} (h : l ≠ []) : 1 ≤ (nrm l).length := by
  cases l with
  | nil => exact absurd rfl h
  | cons x l => exact List.length_pos_of_mem (mem_nrm.2 (List.mem_cons_self ..))
theorem and_fit {a b : List ByteArray} (ha : setMay a = true) (hb : setMay b = true) (h : (nrm (a ++ b)).length ≤ 16) : andE a b = (nrm (a ++ b), 0) ∧ setMay (nrm (a ++ b)) = true := by
  have h1 := nrm_pos (l := a ++ b) (by simp [setMay_ne ha])
  refine ⟨by rw [and_may ha hb]; unfold boundE; rw [if_pos ⟨h1, h⟩], setMay_mk h1 h (fun x hx => ?_) (rising_nrm _)⟩
  rcases List.mem_append.1 (mem_nrm.1 hx) with h | h
  · exact (setMay_words ha).2 x h
  · exact (setMay_words hb).2 x h
theorem and_many {a b : List ByteArray} (ha : setMay a = true) (hb : setMay b = true) (h : ¬ (nrm (a ++ b)).length ≤ 16) : andE a b = ([], 3) := by
  rw [and_may ha hb]; unfold boundE; rw [if_neg (by omega)]
theorem and_self {a : List ByteArray} (ha : setMay a = true) : andE a a = (a, 0) := by
  have e : nrm (a ++ a) = a := (nrm_eq (setMay_rising ha) (fun x => by simp)).symm
  have := (and_fit ha ha (by rw [e]; exact (setMay_small ha).1)).1
  rwa [e] at this
theorem and_comm {a b : List ByteArray} (ha : setMay a = true) (hb : setMay b = true) : andE b a = andE a b := by
  rw [and_may ha hb, and_may hb ha, nrm_congr (a := b ++ a) (b := a ++ b) (fun x => by simp [or_comm])]
theorem and_assoc' {a b c : List ByteArray} (ha : setMay a = true) (hb : setMay b = true) (hc : setMay c = true) (h1 : (nrm (a ++ b)).length ≤ 16) (h2 : (nrm (b ++ c)).length ≤ 16) : andE (nrm (a ++ b)) c = andE a (nrm (b ++ c)) := by
  rw [and_may (and_fit ha hb h1).2 hc, and_may ha (and_fit hb hc h2).2, nrm_congr]
  intro x
  simp only [List.mem_append, mem_nrm, or_assoc]
theorem smallS_nrm {a : List ByteArray} (h : setMay a = true) : a.length ≤ 10000 ∧ (∀ x ∈ a, x.size ≤ 1000000) ∧ ∀ x ∈ a, x.size ≤ maxLen := by
  have := setMay_small h
  exact ⟨by omega, fun x hx => by have := this.2 x hx; omega, fun x hx => by have := this.2 x hx; unfold maxLen; omega⟩
theorem within_left {a b : List ByteArray} : withinE a (nrm (a ++ b)) = true := withinE_iff.2 fun x hx => mem_nrm.2 (by simp [hx])
theorem within_right {a b : List ByteArray} : withinE b (nrm (a ++ b)) = true := withinE_iff.2 fun x hx => mem_nrm.2 (by simp [hx])
theorem q_and_of {a b r : List ByteArray} {e : Int} (ha : setMay a = true) (hb : setMay b = true) (h : andE a b = (r, e)) : PCalls Try.prog 23 [.lst .ro a.length (a.map .str), .lst .ro b.length (b.map .str)] (.tup [.lst .ro r.length (r.map .str), .int .i64 e]) := by
  have := p_sand a b (smallS_nrm ha).1 (smallS_nrm hb).1 (smallS_nrm ha).2.1 (smallS_nrm hb).2.1
  rw [h] at this
  exact this
theorem ofE_small (l : List ByteArray) : (ofE l).1.length ≤ 16 := by
  unfold ofE
  split
  · simp
  · split
    · next h => exact h.2
    · simp
theorem and_len (a b : List ByteArray) : (andE a b).1.length ≤ 16 := by
  unfold andE
  split
  · simp
  · exact ofE_small _
set_option maxRecDepth 100000 in
set_option maxHeartbeats 2000000 in
theorem a_and (a b c : List ByteArray) (ka : a.length ≤ 9223372036854775807) (kb : b.length ≤ 9223372036854775807) (kc : c.length ≤ 9223372036854775807) : ACalls Try.prog 5 [vS a, vS b, vS c] [] fun v _ => v = .bool true := by
  unfold vS
  refine acalls_of mixed J_law03_SetAnd_ok (Nat.le_of_ble_eq_true rfl) ?_; simp only [J_law03_SetAnd, wk,if_true,if_false,forall_const,implies_true,ne_eq,eq_self,Nat.reduceEqDiff,Nat.reduceAdd,Nat.reduceMul,Nat.reduceSub,Nat.reduceLeDiff,Nat.reduceLT,Int.reduceEq,Int.reduceLT,Int.reduceLE,Int.reduceAdd,Int.reduceSub,Int.reduceMul,Int.reduceNeg,Int.reduceNe,reduceCtorEq,Int.reduceToNat,↓reduceIte]
  refine PCalls.use (p_awake) ?_; simp only [wk,if_true,if_false,forall_const,implies_true,ne_eq,eq_self,Nat.reduceEqDiff,Nat.reduceAdd,Nat.reduceMul,Nat.reduceSub,Nat.reduceLeDiff,Nat.reduceLT,Int.reduceEq,Int.reduceLT,Int.reduceLE,Int.reduceAdd,Int.reduceSub,Int.reduceMul,Int.reduceNeg,Int.reduceNe,reduceCtorEq,Int.reduceToNat,↓reduceIte]
  refine PCalls.use (p_large [a, b, c] (by simp) (by intro s hs; simp at hs; rcases hs with rfl | rfl | rfl <;> assumption)) ?_; simp only [wk,if_true,if_false,forall_const,implies_true,ne_eq,eq_self,Nat.reduceEqDiff,Nat.reduceAdd,Nat.reduceMul,Nat.reduceSub,Nat.reduceLeDiff,Nat.reduceLT,Int.reduceEq,Int.reduceLT,Int.reduceLE,Int.reduceAdd,Int.reduceSub,Int.reduceMul,Int.reduceNeg,Int.reduceNe,reduceCtorEq,Int.reduceToNat,↓reduceIte]
  intro hno
  have sa : smallS a := largeS_no.1 hno a (by simp)
  have sb : smallS b := largeS_no.1 hno b (by simp)
  have sc : smallS c := largeS_no.1 hno c (by simp)
  refine PCalls.use (p_smay a ka (fun x hx => by have := sa.2 x hx; omega)) ?_; simp only [wk,if_true,if_false,forall_const,implies_true,ne_eq,eq_self,Nat.reduceEqDiff,Nat.reduceAdd,Nat.reduceMul,Nat.reduceSub,Nat.reduceLeDiff,Nat.reduceLT,Int.reduceEq,Int.reduceLT,Int.reduceLE,Int.reduceAdd,Int.reduceSub,Int.reduceMul,Int.reduceNeg,Int.reduceNe,reduceCtorEq,Int.reduceToNat,↓reduceIte]
  intro ha
  refine PCalls.use (p_smay b kb (fun x hx => by have := sb.2 x hx; omega)) ?_; simp only [wk,if_true,if_false,forall_const,implies_true,ne_eq,eq_self,Nat.reduceEqDiff,Nat.reduceAdd,Nat.reduceMul,Nat.reduceSub,Nat.reduceLeDiff,Nat.reduceLT,Int.reduceEq,Int.reduceLT,Int.reduceLE,Int.reduceAdd,Int.reduceSub,Int.reduceMul,Int.reduceNeg,Int.reduceNe,reduceCtorEq,Int.reduceToNat,↓reduceIte]
  intro hb
  refine PCalls.use (p_smay c kc (fun x hx => by have := sc.2 x hx; omega)) ?_; simp only [wk,if_true,if_false,forall_const,implies_true,ne_eq,eq_self,Nat.reduceEqDiff,Nat.reduceAdd,Nat.reduceMul,Nat.reduceSub,Nat.reduceLeDiff,Nat.reduceLT,Int.reduceEq,Int.reduceLT,Int.reduceLE,Int.reduceAdd,Int.reduceSub,Int.reduceMul,Int.reduceNeg,Int.reduceNe,reduceCtorEq,Int.reduceToNat,↓reduceIte]
  intro hc
  refine PCalls.use (q_and_of ha ha (and_self ha)) ?_; simp only [wk,if_true,if_false,forall_const,implies_true,ne_eq,eq_self,Nat.reduceEqDiff,Nat.reduceAdd,Nat.reduceMul,Nat.reduceSub,Nat.reduceLeDiff,Nat.reduceLT,Int.reduceEq,Int.reduceLT,Int.reduceLE,Int.reduceAdd,Int.reduceSub,Int.reduceMul,Int.reduceNeg,Int.reduceNe,reduceCtorEq,Int.reduceToNat,↓reduceIte]
  refine PCalls.use (p_requal a a ka) ?_; simp only [wk,if_true,if_false,forall_const,implies_true,ne_eq,eq_self,Nat.reduceEqDiff,Nat.reduceAdd,Nat.reduceMul,Nat.reduceSub,Nat.reduceLeDiff,Nat.reduceLT,Int.reduceEq,Int.reduceLT,Int.reduceLE,Int.reduceAdd,Int.reduceSub,Int.reduceMul,Int.reduceNeg,Int.reduceNe,reduceCtorEq,Int.reduceToNat,↓reduceIte]
  have na := smallS_nrm ha
  have nb := smallS_nrm hb
  have nc := smallS_nrm hc
  by_cases h1 : (nrm (a ++ b)).length ≤ 16
  · have e1 := and_fit ha hb h1
    refine PCalls.use (q_and_of ha hb e1.1) ?_; simp only [wk,if_true,if_false,forall_const,implies_true,ne_eq,eq_self,Nat.reduceEqDiff,Nat.reduceAdd,Nat.reduceMul,Nat.reduceSub,Nat.reduceLeDiff,Nat.reduceLT,Int.reduceEq,Int.reduceLT,Int.reduceLE,Int.reduceAdd,Int.reduceSub,Int.reduceMul,Int.reduceNeg,Int.reduceNe,reduceCtorEq,Int.reduceToNat,↓reduceIte]
    refine PCalls.use (q_and_of hb ha ((and_comm ha hb).trans e1.1)) ?_; simp only [wk,if_true,if_false,forall_const,implies_true,ne_eq,eq_self,Nat.reduceEqDiff,Nat.reduceAdd,Nat.reduceMul,Nat.reduceSub,Nat.reduceLeDiff,Nat.reduceLT,Int.reduceEq,Int.reduceLT,Int.reduceLE,Int.reduceAdd,Int.reduceSub,Int.reduceMul,Int.reduceNeg,Int.reduceNe,reduceCtorEq,Int.reduceToNat,↓reduceIte]
    refine PCalls.use (p_requal (nrm (a ++ b)) (nrm (a ++ b)) (by omega)) ?_; simp only [wk,if_true,if_false,forall_const,implies_true,ne_eq,eq_self,Nat.reduceEqDiff,Nat.reduceAdd,Nat.reduceMul,Nat.reduceSub,Nat.reduceLeDiff,Nat.reduceLT,Int.reduceEq,Int.reduceLT,Int.reduceLE,Int.reduceAdd,Int.reduceSub,Int.reduceMul,Int.reduceNeg,Int.reduceNe,reduceCtorEq,Int.reduceToNat,↓reduceIte]
    refine PCalls.use (p_within a (nrm (a ++ b)) (by omega) (by omega) na.2.2 (smallS_nrm e1.2).2.2) ?_; simp only [wk,if_true,if_false,forall_const,implies_true,ne_eq,eq_self,Nat.reduceEqDiff,Nat.reduceAdd,Nat.reduceMul,Nat.reduceSub,Nat.reduceLeDiff,Nat.reduceLT,Int.reduceEq,Int.reduceLT,Int.reduceLE,Int.reduceAdd,Int.reduceSub,Int.reduceMul,Int.reduceNeg,Int.reduceNe,reduceCtorEq,Int.reduceToNat,↓reduceIte]
    simp only [wk,if_true,if_false,forall_const,implies_true,ne_eq,eq_self,Nat.reduceEqDiff,Nat.reduceAdd,Nat.reduceMul,Nat.reduceSub,Nat.reduceLeDiff,Nat.reduceLT,Int.reduceEq,Int.reduceLT,Int.reduceLE,Int.reduceAdd,Int.reduceSub,Int.reduceMul,Int.reduceNeg,Int.reduceNe,reduceCtorEq,Int.reduceToNat,↓reduceIte, within_left (a := a) (b := b)]
    refine PCalls.use (p_within b (nrm (a ++ b)) (by omega) (by omega) nb.2.2 (smallS_nrm e1.2).2.2) ?_; simp only [wk,if_true,if_false,forall_const,implies_true,ne_eq,eq_self,Nat.reduceEqDiff,Nat.reduceAdd,Nat.reduceMul,Nat.reduceSub,Nat.reduceLeDiff,Nat.reduceLT,Int.reduceEq,Int.reduceLT,Int.reduceLE,Int.reduceAdd,Int.reduceSub,Int.reduceMul,Int.reduceNeg,Int.reduceNe,reduceCtorEq,Int.reduceToNat,↓reduceIte]
    simp only [wk,if_true,if_false,forall_const,implies_true,ne_eq,eq_self,Nat.reduceEqDiff,Nat.reduceAdd,Nat.reduceMul,Nat.reduceSub,Nat.reduceLeDiff,Nat.reduceLT,Int.reduceEq,Int.reduceLT,Int.reduceLE,Int.reduceAdd,Int.reduceSub,Int.reduceMul,Int.reduceNeg,Int.reduceNe,reduceCtorEq,Int.reduceToNat,↓reduceIte, within_right (a := a) (b := b)]
    have hln := nrm_len (a ++ b)
    rw [List.length_append] at hln
    refine ⟨inR_of (by omega) (by omega), fun hbad => ?_, fun _ => ?_⟩
    · omega
    by_cases h2 : (nrm (b ++ c)).length ≤ 16
    · have e2 := and_fit hb hc h2
      refine PCalls.use (q_and_of hb hc e2.1) ?_; simp only [wk,if_true,if_false,forall_const,implies_true,ne_eq,eq_self,Nat.reduceEqDiff,Nat.reduceAdd,Nat.reduceMul,Nat.reduceSub,Nat.reduceLeDiff,Nat.reduceLT,Int.reduceEq,Int.reduceLT,Int.reduceLE,Int.reduceAdd,Int.reduceSub,Int.reduceMul,Int.reduceNeg,Int.reduceNe,reduceCtorEq,Int.reduceToNat,↓reduceIte]
      refine PCalls.use (p_sand (nrm (a ++ b)) c (by omega) nc.1 (smallS_nrm e1.2).2.1 nc.2.1) ?_; simp only [wk,if_true,if_false,forall_const,implies_true,ne_eq,eq_self,Nat.reduceEqDiff,Nat.reduceAdd,Nat.reduceMul,Nat.reduceSub,Nat.reduceLeDiff,Nat.reduceLT,Int.reduceEq,Int.reduceLT,Int.reduceLE,Int.reduceAdd,Int.reduceSub,Int.reduceMul,Int.reduceNeg,Int.reduceNe,reduceCtorEq,Int.reduceToNat,↓reduceIte]
      simp only [vSet, wk,if_true,if_false,forall_const,implies_true,ne_eq,eq_self,Nat.reduceEqDiff,Nat.reduceAdd,Nat.reduceMul,Nat.reduceSub,Nat.reduceLeDiff,Nat.reduceLT,Int.reduceEq,Int.reduceLT,Int.reduceLE,Int.reduceAdd,Int.reduceSub,Int.reduceMul,Int.reduceNeg,Int.reduceNe,reduceCtorEq,Int.reduceToNat,↓reduceIte]
      refine PCalls.use (p_sand a (nrm (b ++ c)) na.1 (by omega) na.2.1 (smallS_nrm e2.2).2.1) ?_; simp only [wk,if_true,if_false,forall_const,implies_true,ne_eq,eq_self,Nat.reduceEqDiff,Nat.reduceAdd,Nat.reduceMul,Nat.reduceSub,Nat.reduceLeDiff,Nat.reduceLT,Int.reduceEq,Int.reduceLT,Int.reduceLE,Int.reduceAdd,Int.reduceSub,Int.reduceMul,Int.reduceNeg,Int.reduceNe,reduceCtorEq,Int.reduceToNat,↓reduceIte]
      rw [← and_assoc' ha hb hc h1 h2]
      simp only [vSet, wk,if_true,if_false,forall_const,implies_true,ne_eq,eq_self,Nat.reduceEqDiff,Nat.reduceAdd,Nat.reduceMul,Nat.reduceSub,Nat.reduceLeDiff,Nat.reduceLT,Int.reduceEq,Int.reduceLT,Int.reduceLE,Int.reduceAdd,Int.reduceSub,Int.reduceMul,Int.reduceNeg,Int.reduceNe,reduceCtorEq,Int.reduceToNat,↓reduceIte]
      refine PCalls.use (p_requal (andE (nrm (a ++ b)) c).1 (andE (nrm (a ++ b)) c).1 (by have := and_len (nrm (a ++ b)) c; omega)) ?_; simp only [wk,if_true,if_false,forall_const,implies_true,ne_eq,eq_self,Nat.reduceEqDiff,Nat.reduceAdd,Nat.reduceMul,Nat.reduceSub,Nat.reduceLeDiff,Nat.reduceLT,Int.reduceEq,Int.reduceLT,Int.reduceLE,Int.reduceAdd,Int.reduceSub,Int.reduceMul,Int.reduceNeg,Int.reduceNe,reduceCtorEq,Int.reduceToNat,↓reduceIte]
    · refine PCalls.use (q_and_of hb hc (and_many hb hc h2)) ?_; simp only [wk,if_true,if_false,forall_const,implies_true,ne_eq,eq_self,Nat.reduceEqDiff,Nat.reduceAdd,Nat.reduceMul,Nat.reduceSub,Nat.reduceLeDiff,Nat.reduceLT,Int.reduceEq,Int.reduceLT,Int.reduceLE,Int.reduceAdd,Int.reduceSub,Int.reduceMul,Int.reduceNeg,Int.reduceNe,reduceCtorEq,Int.reduceToNat,↓reduceIte]
  · refine PCalls.use (q_and_of ha hb (and_many ha hb h1)) ?_; simp only [wk,if_true,if_false,forall_const,implies_true,ne_eq,eq_self,Nat.reduceEqDiff,Nat.reduceAdd,Nat.reduceMul,Nat.reduceSub,Nat.reduceLeDiff,Nat.reduceLT,Int.reduceEq,Int.reduceLT,Int.reduceLE,Int.reduceAdd,Int.reduceSub,Int.reduceMul,Int.reduceNeg,Int.reduceNe,reduceCtorEq,Int.reduceToNat,↓reduceIte]
    refine PCalls.use (q_and_of hb ha ((and_comm ha hb).trans (and_many ha hb h1))) ?_; simp only [wk,if_true,if_false,forall_const,implies_true,ne_eq,eq_self,Nat.reduceEqDiff,Nat.reduceAdd,Nat.reduceMul,Nat.reduceSub,Nat.reduceLeDiff,Nat.reduceLT,Int.reduceEq,Int.reduceLT,Int.reduceLE,Int.reduceAdd,Int.reduceSub,Int.reduceMul,Int.reduceNeg,Int.reduceNe,reduceCtorEq,Int.reduceToNat,↓reduceIte]
    refine PCalls.use (p_requal [] [] (by simp)) ?_; simp only [wk,if_true,if_false,forall_const,implies_true,ne_eq,eq_self,Nat.reduceEqDiff,Nat.reduceAdd,Nat.reduceMul,Nat.reduceSub,Nat.reduceLeDiff,Nat.reduceLT,Int.reduceEq,Int.reduceLT,Int.reduceLE,Int.reduceAdd,Int.reduceSub,Int.reduceMul,Int.reduceNeg,Int.reduceNe,reduceCtorEq,Int.reduceToNat,↓reduceIte]
end Go.Proofs.Ytajpibdchgflnaa
