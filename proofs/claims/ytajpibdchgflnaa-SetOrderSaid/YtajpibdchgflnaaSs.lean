/- What the reference's sets do: Of, And, Quote, As, For, and what is asked. -/
import Derived.Test.YtajpibdchgflnaaSr
namespace Go.Proofs.Ytajpibdchgflnaa
set_option linter.unusedSimpArgs false
set_option linter.unusedVariables false
open Go.RowKit Go.Lib

/-- a set and what is wrong, as told -/
def vSet (r : List ByteArray × Int) : AV := .tup [.lst .ro r.1.length (r.1.map .str), .int .i64 r.2]
theorem free_vSet (r : List ByteArray × Int) : free (vSet r) = true := by simp [vSet, free, free.frees, frees_str]
def boundE (l : List ByteArray) : List ByteArray × Int := if 1 ≤ l.length ∧ l.length ≤ 16 then (l, 0) else ([], 3)
theorem ofE_may {l : List ByteArray} (h : ∀ x ∈ l, wordMay x = true) : ofE l = boundE (nrm l) := by
  unfold ofE
  rw [if_neg (by rw [List.all_eq_true.2 h]; simp)]; rfl
theorem p_rbound (l : List ByteArray) (hl : l.length ≤ 1000000) : PCalls Try.prog 63 [.lst .ro l.length (l.map .str)] (vSet (boundE l)) := by
  refine pcalls_of (by simp [free, free.frees, frees_str]) (free_vSet _) (ACalls.weak (acalls_of mixed J_ref03_bound_ok (Nat.le_of_ble_eq_true rfl) ?_)); simp only [J_ref03_bound, wk,if_true,if_false,forall_const,implies_true,ne_eq,eq_self,Nat.reduceEqDiff,Nat.reduceAdd,Nat.reduceMul,Nat.reduceSub,Nat.reduceLeDiff,Nat.reduceLT,Int.reduceEq,Int.reduceLT,Int.reduceLE,Int.reduceAdd,Int.reduceSub,Int.reduceMul,Int.reduceNeg,Int.reduceNe,reduceCtorEq,Int.reduceToNat,↓reduceIte]
  refine ⟨fun h1 => ⟨fun h2 => ?_, fun h2 => ?_⟩, fun h1 => ?_⟩
  all_goals unfold boundE
  · rw [if_neg (by omega)]; rfl
  · rw [if_pos (by omega)]; rfl
  · rw [if_neg (by omega)]; rfl
set_option maxHeartbeats 1000000 in
theorem p_rsof (l : List ByteArray) (hl : l.length ≤ 1000000) (hs : ∀ x ∈ l, x.size ≤ 1000000) : PCalls Try.prog 19 [.lst .ro l.length (l.map .str)] (vSet (ofE l)) := by
  refine pcalls_of (by simp [free, free.frees, frees_str]) (free_vSet _) (ACalls.weak (acalls_of mixed J_ref03_Of_ok (Nat.le_of_ble_eq_true rfl) ?_)); simp only [J_ref03_Of, wk,if_true,if_false,forall_const,implies_true,ne_eq,eq_self,Nat.reduceEqDiff,Nat.reduceAdd,Nat.reduceMul,Nat.reduceSub,Nat.reduceLeDiff,Nat.reduceLT,Int.reduceEq,Int.reduceLT,Int.reduceLE,Int.reduceAdd,Int.reduceSub,Int.reduceMul,Int.reduceNeg,Int.reduceNe,reduceCtorEq,Int.reduceToNat,↓reduceIte]
  refine W_loop (fun n fr h => ∃ i : Nat, i ≤ l.length ∧ n = l.length - i ∧ fr = [(0, .lst .ro l.length (l.map .str)), (4, .int .i64 i)] ∧ ∀ x ∈ l.take i, wordMay x = true) l.length ⟨0, by omega, by omega, rfl, by simp⟩ ?_
  rintro n fr h ⟨i, hi, rfl, rfl, hall⟩
  simp only [J_ref03_Of_j2, wk,if_true,if_false,forall_const,implies_true,ne_eq,eq_self,Nat.reduceEqDiff,Nat.reduceAdd,Nat.reduceMul,Nat.reduceSub,Nat.reduceLeDiff,Nat.reduceLT,Int.reduceEq,Int.reduceLT,Int.reduceLE,Int.reduceAdd,Int.reduceSub,Int.reduceMul,Int.reduceNeg,Int.reduceNe,reduceCtorEq,Int.reduceToNat,↓reduceIte]
  refine ⟨fun hlt => ?_, fun hge => ?_⟩
  · have hil : i < l.length := by omega
    (repeat (refine And.intro (by first | omega | exact inR_of (by omega) (by omega) | exact ⟨by omega, by omega⟩ | exact ⟨by omega, by omega, by omega⟩ | rfl) ?_))
    rw [show (i : Int).toNat = i by omega, drop_str hil]
    simp only [wk,if_true,if_false,forall_const,implies_true,ne_eq,eq_self,Nat.reduceEqDiff,Nat.reduceAdd,Nat.reduceMul,Nat.reduceSub,Nat.reduceLeDiff,Nat.reduceLT,Int.reduceEq,Int.reduceLT,Int.reduceLE,Int.reduceAdd,Int.reduceSub,Int.reduceMul,Int.reduceNeg,Int.reduceNe,reduceCtorEq,Int.reduceToNat,↓reduceIte]
    refine PCalls.use (p_rwmay l[i] (by have := hs _ (List.getElem_mem hil); omega)) ?_; simp only [wk,if_true,if_false,forall_const,implies_true,ne_eq,eq_self,Nat.reduceEqDiff,Nat.reduceAdd,Nat.reduceMul,Nat.reduceSub,Nat.reduceLeDiff,Nat.reduceLT,Int.reduceEq,Int.reduceLT,Int.reduceLE,Int.reduceAdd,Int.reduceSub,Int.reduceMul,Int.reduceNeg,Int.reduceNe,reduceCtorEq,Int.reduceToNat,↓reduceIte]
    refine ⟨fun hm => ?_, fun hm => ⟨inR_of (by omega) (by omega), l.length - (i + 1), by omega, i + 1, by omega, rfl, rfl, fun x hx => ?_⟩⟩
    · unfold ofE
      rw [if_pos]
      · rfl
      · cases hb : l.all wordMay with
        | false => rfl
        | true => rw [List.all_eq_true.1 hb _ (List.getElem_mem hil)] at hm; cases hm
    · rw [List.take_succ_eq_append_getElem hil, List.mem_append] at hx
      rcases hx with hx | hx
      · exact hall x hx
      · simp at hx; subst hx; exact hm
  · rw [List.take_of_length_le (by omega)] at hall
    simp only [J_ref03_Of_j1, wk,if_true,if_false,forall_const,implies_true,ne_eq,eq_self,Nat.reduceEqDiff,Nat.reduceAdd,Nat.reduceMul,Nat.reduceSub,Nat.reduceLeDiff,Nat.reduceLT,Int.reduceEq,Int.reduceLT,Int.reduceLE,Int.reduceAdd,Int.reduceSub,Int.reduceMul,Int.reduceNeg,Int.reduceNe,reduceCtorEq,Int.reduceToNat,↓reduceIte]
    refine PCalls.use (p_rright l hl hs) ?_; simp only [wk,if_true,if_false,forall_const,implies_true,ne_eq,eq_self,Nat.reduceEqDiff,Nat.reduceAdd,Nat.reduceMul,Nat.reduceSub,Nat.reduceLeDiff,Nat.reduceLT,Int.reduceEq,Int.reduceLT,Int.reduceLE,Int.reduceAdd,Int.reduceSub,Int.reduceMul,Int.reduceNeg,Int.reduceNe,reduceCtorEq,Int.reduceToNat,↓reduceIte]
    refine PCalls.use (p_rbound (nrm l) (by have := nrm_len l; omega)) ?_; simp only [wk,if_true,if_false,forall_const,implies_true,ne_eq,eq_self,Nat.reduceEqDiff,Nat.reduceAdd,Nat.reduceMul,Nat.reduceSub,Nat.reduceLeDiff,Nat.reduceLT,Int.reduceEq,Int.reduceLT,Int.reduceLE,Int.reduceAdd,Int.reduceSub,Int.reduceMul,Int.reduceNeg,Int.reduceNe,reduceCtorEq,Int.reduceToNat,↓reduceIte]
    rw [ofE_may hall]
    simp only [vSet, rod_tup, ro_ro, ro_int, wk,if_true,if_false,forall_const,implies_true,ne_eq,eq_self,Nat.reduceEqDiff,Nat.reduceAdd,Nat.reduceMul,Nat.reduceSub,Nat.reduceLeDiff,Nat.reduceLT,Int.reduceEq,Int.reduceLT,Int.reduceLE,Int.reduceAdd,Int.reduceSub,Int.reduceMul,Int.reduceNeg,Int.reduceNe,reduceCtorEq,Int.reduceToNat,↓reduceIte]
set_option maxHeartbeats 1000000 in
theorem p_rand (a b : List ByteArray) (ha : a.length ≤ 10000) (hb : b.length ≤ 10000) (hsa : ∀ x ∈ a, x.size ≤ 1000000) (hsb : ∀ x ∈ b, x.size ≤ 1000000) : PCalls Try.prog 24 [.lst .ro a.length (a.map .str), .lst .ro b.length (b.map .str)] (vSet (andE a b)) := by
  refine pcalls_of (by simp [free, free.frees, frees_str]) (free_vSet _) (ACalls.weak (acalls_of mixed J_ref03_And_ok (Nat.le_of_ble_eq_true rfl) ?_)); simp only [J_ref03_And, wk,if_true,if_false,forall_const,implies_true,ne_eq,eq_self,Nat.reduceEqDiff,Nat.reduceAdd,Nat.reduceMul,Nat.reduceSub,Nat.reduceLeDiff,Nat.reduceLT,Int.reduceEq,Int.reduceLT,Int.reduceLE,Int.reduceAdd,Int.reduceSub,Int.reduceMul,Int.reduceNeg,Int.reduceNe,reduceCtorEq,Int.reduceToNat,↓reduceIte]
  refine PCalls.use (p_rsmay a (by omega) (fun x hx => by have := hsa x hx; omega)) ?_; simp only [wk,if_true,if_false,forall_const,implies_true,ne_eq,eq_self,Nat.reduceEqDiff,Nat.reduceAdd,Nat.reduceMul,Nat.reduceSub,Nat.reduceLeDiff,Nat.reduceLT,Int.reduceEq,Int.reduceLT,Int.reduceLE,Int.reduceAdd,Int.reduceSub,Int.reduceMul,Int.reduceNeg,Int.reduceNe,reduceCtorEq,Int.reduceToNat,↓reduceIte]
  refine ⟨fun hm => ?_, fun hm => ?_⟩
  · refine PCalls.use (p_rsmay b (by omega) (fun x hx => by have := hsb x hx; omega)) ?_; simp only [wk,if_true,if_false,forall_const,implies_true,ne_eq,eq_self,Nat.reduceEqDiff,Nat.reduceAdd,Nat.reduceMul,Nat.reduceSub,Nat.reduceLeDiff,Nat.reduceLT,Int.reduceEq,Int.reduceLT,Int.reduceLE,Int.reduceAdd,Int.reduceSub,Int.reduceMul,Int.reduceNeg,Int.reduceNe,reduceCtorEq,Int.reduceToNat,↓reduceIte]
    refine ⟨fun hm2 => ?_, fun hm2 => ?_⟩
    · unfold andE; rw [if_pos (.inr hm2)]; rfl
    · refine ⟨⟨by simp, by omega, by omega⟩, ⟨by simp, by omega, by omega⟩, ?_⟩
      rw [show a.length + b.length = (a ++ b).length by simp, ← List.map_append]
      refine PCalls.use (p_rright (a ++ b) (by simp; omega) (fun x hx => by rcases List.mem_append.1 hx with h | h; exact hsa x h; exact hsb x h)) ?_; simp only [wk,if_true,if_false,forall_const,implies_true,ne_eq,eq_self,Nat.reduceEqDiff,Nat.reduceAdd,Nat.reduceMul,Nat.reduceSub,Nat.reduceLeDiff,Nat.reduceLT,Int.reduceEq,Int.reduceLT,Int.reduceLE,Int.reduceAdd,Int.reduceSub,Int.reduceMul,Int.reduceNeg,Int.reduceNe,reduceCtorEq,Int.reduceToNat,↓reduceIte]
      refine PCalls.use (p_rbound (nrm (a ++ b)) (by have := nrm_len (a ++ b); simp at this; omega)) ?_; simp only [wk,if_true,if_false,forall_const,implies_true,ne_eq,eq_self,Nat.reduceEqDiff,Nat.reduceAdd,Nat.reduceMul,Nat.reduceSub,Nat.reduceLeDiff,Nat.reduceLT,Int.reduceEq,Int.reduceLT,Int.reduceLE,Int.reduceAdd,Int.reduceSub,Int.reduceMul,Int.reduceNeg,Int.reduceNe,reduceCtorEq,Int.reduceToNat,↓reduceIte]
      unfold andE
      rw [if_neg (by simp [hm, hm2]), ofE_may (fun x hx => by rcases List.mem_append.1 hx with h | h; exact (setMay_words hm).2 x h; exact (setMay_words hm2).2 x h)]
      simp only [vSet, rod_tup, ro_ro, ro_int, wk,if_true,if_false,forall_const,implies_true,ne_eq,eq_self,Nat.reduceEqDiff,Nat.reduceAdd,Nat.reduceMul,Nat.reduceSub,Nat.reduceLeDiff,Nat.reduceLT,Int.reduceEq,Int.reduceLT,Int.reduceLE,Int.reduceAdd,Int.reduceSub,Int.reduceMul,Int.reduceNeg,Int.reduceNe,reduceCtorEq,Int.reduceToNat,↓reduceIte]
  · unfold andE; rw [if_pos (.inl hm)]; rfl
set_option maxHeartbeats 1000000 in
theorem p_rhas (l : List ByteArray) (w : ByteArray) (hl : l.length ≤ 9223372036854775807) : PCalls Try.prog 32 [.lst .ro l.length (l.map .str), .str w] (.bool (hasW l w)) := by
  refine pcalls_of (by first | rfl | simp [free, free.frees, frees_str, frees_u8, frees_u16]) (by first | rfl | simp [free, free.frees, frees_str, frees_u8, frees_u16]) (acalls_of mixed J_ref03_Has_ok (Nat.le_of_ble_eq_true rfl) ?_); simp only [J_ref03_Has, wk,if_true,if_false,forall_const,implies_true,ne_eq,eq_self,Nat.reduceEqDiff,Nat.reduceAdd,Nat.reduceMul,Nat.reduceSub,Nat.reduceLeDiff,Nat.reduceLT,Int.reduceEq,Int.reduceLT,Int.reduceLE,Int.reduceAdd,Int.reduceSub,Int.reduceMul,Int.reduceNeg,Int.reduceNe,reduceCtorEq,Int.reduceToNat,↓reduceIte]
  refine W_loop (fun n fr h => ∃ i : Nat, i ≤ l.length ∧ n = l.length - i ∧ fr = [(0, .lst .ro l.length (l.map .str)), (1, .str w), (5, .int .i64 i)] ∧ w ∉ l.take i) l.length ⟨0, by omega, by omega, rfl, by simp⟩ ?_
  rintro n fr h ⟨i, hi, rfl, rfl, hno⟩
  simp only [J_ref03_Has_j2, J_ref03_Has_j1, wk,if_true,if_false,forall_const,implies_true,ne_eq,eq_self,Nat.reduceEqDiff,Nat.reduceAdd,Nat.reduceMul,Nat.reduceSub,Nat.reduceLeDiff,Nat.reduceLT,Int.reduceEq,Int.reduceLT,Int.reduceLE,Int.reduceAdd,Int.reduceSub,Int.reduceMul,Int.reduceNeg,Int.reduceNe,reduceCtorEq,Int.reduceToNat,↓reduceIte]
  refine ⟨fun hlt => ?_, fun hge => bool_eq ?_⟩
  · have hil : i < l.length := by omega
    (repeat (refine And.intro (by first | omega | exact inR_of (by omega) (by omega) | exact ⟨by omega, by omega⟩ | exact ⟨by omega, by omega, by omega⟩ | rfl) ?_))
    rw [show (i : Int).toNat = i by omega, drop_str hil]
    simp only [wk,if_true,if_false,forall_const,implies_true,ne_eq,eq_self,Nat.reduceEqDiff,Nat.reduceAdd,Nat.reduceMul,Nat.reduceSub,Nat.reduceLeDiff,Nat.reduceLT,Int.reduceEq,Int.reduceLT,Int.reduceLE,Int.reduceAdd,Int.reduceSub,Int.reduceMul,Int.reduceNeg,Int.reduceNe,reduceCtorEq,Int.reduceToNat,↓reduceIte]
    refine ⟨fun he => bool_eq ?_, fun hne => ⟨inR_of (by omega) (by omega), l.length - (i + 1), by omega, i + 1, by omega, rfl, rfl, fun hm => ?_⟩⟩
    · rw [hasW_iff.2 (by rw [← he]; exact List.getElem_mem hil)]
    · rw [List.take_succ_eq_append_getElem hil, List.mem_append] at hm
      rcases hm with h | h
      · exact hno h
      · simp at h; exact hne h.symm
  · rw [List.take_of_length_le (by omega)] at hno
    rw [hasW_no.2 hno]
set_option maxHeartbeats 1000000 in
theorem p_rwithin (a b : List ByteArray) (ha : a.length ≤ 9223372036854775807) (hb : b.length ≤ 9223372036854775807) : PCalls Try.prog 34 [.lst .ro a.length (a.map .str), .lst .ro b.length (b.map .str)] (.bool (withinE a b)) := by
  refine pcalls_of (by first | rfl | simp [free, free.frees, frees_str, frees_u8, frees_u16]) (by first | rfl | simp [free, free.frees, frees_str, frees_u8, frees_u16]) (acalls_of mixed J_ref03_Within_ok (Nat.le_of_ble_eq_true rfl) ?_); simp only [J_ref03_Within, wk,if_true,if_false,forall_const,implies_true,ne_eq,eq_self,Nat.reduceEqDiff,Nat.reduceAdd,Nat.reduceMul,Nat.reduceSub,Nat.reduceLeDiff,Nat.reduceLT,Int.reduceEq,Int.reduceLT,Int.reduceLE,Int.reduceAdd,Int.reduceSub,Int.reduceMul,Int.reduceNeg,Int.reduceNe,reduceCtorEq,Int.reduceToNat,↓reduceIte]
  refine W_loop (fun n fr h => ∃ i : Nat, i ≤ a.length ∧ n = a.length - i ∧ fr = [(0, .lst .ro a.length (a.map .str)), (1, .lst .ro b.length (b.map .str)), (5, .int .i64 i)] ∧ ∀ w ∈ a.take i, w ∈ b) a.length ⟨0, by omega, by omega, rfl, by simp⟩ ?_
  rintro n fr h ⟨i, hi, rfl, rfl, hall⟩
  simp only [J_ref03_Within_j2, J_ref03_Within_j1, wk,if_true,if_false,forall_const,implies_true,ne_eq,eq_self,Nat.reduceEqDiff,Nat.reduceAdd,Nat.reduceMul,Nat.reduceSub,Nat.reduceLeDiff,Nat.reduceLT,Int.reduceEq,Int.reduceLT,Int.reduceLE,Int.reduceAdd,Int.reduceSub,Int.reduceMul,Int.reduceNeg,Int.reduceNe,reduceCtorEq,Int.reduceToNat,↓reduceIte]
  refine ⟨fun hlt => ?_, fun hge => bool_eq ?_⟩
  · have hil : i < a.length := by omega
    (repeat (refine And.intro (by first | omega | exact inR_of (by omega) (by omega) | exact ⟨by omega, by omega⟩ | exact ⟨by omega, by omega, by omega⟩ | rfl) ?_))
    rw [show (i : Int).toNat = i by omega, drop_str hil]
    simp only [wk,if_true,if_false,forall_const,implies_true,ne_eq,eq_self,Nat.reduceEqDiff,Nat.reduceAdd,Nat.reduceMul,Nat.reduceSub,Nat.reduceLeDiff,Nat.reduceLT,Int.reduceEq,Int.reduceLT,Int.reduceLE,Int.reduceAdd,Int.reduceSub,Int.reduceMul,Int.reduceNeg,Int.reduceNe,reduceCtorEq,Int.reduceToNat,↓reduceIte]
    refine PCalls.use (p_rhas b a[i] hb) ?_; simp only [wk,if_true,if_false,forall_const,implies_true,ne_eq,eq_self,Nat.reduceEqDiff,Nat.reduceAdd,Nat.reduceMul,Nat.reduceSub,Nat.reduceLeDiff,Nat.reduceLT,Int.reduceEq,Int.reduceLT,Int.reduceLE,Int.reduceAdd,Int.reduceSub,Int.reduceMul,Int.reduceNeg,Int.reduceNe,reduceCtorEq,Int.reduceToNat,↓reduceIte]
    refine ⟨fun hno => bool_eq ?_, fun hyes => ⟨inR_of (by omega) (by omega), a.length - (i + 1), by omega, i + 1, by omega, rfl, rfl, fun w hw => ?_⟩⟩
    · cases hw : withinE a b with
      | false => rfl
      | true => exact absurd (withinE_iff.1 hw _ (List.getElem_mem hil)) (hasW_no.1 hno)
    · rw [List.take_succ_eq_append_getElem hil, List.mem_append] at hw
      rcases hw with h | h
      · exact hall w h
      · simp at h; subst h; exact hasW_iff.1 hyes
  · rw [List.take_of_length_le (by omega)] at hall
    rw [withinE_iff.2 hall]
theorem p_rsame (a b : List ByteArray) (ha : a.length ≤ 9223372036854775807) (hb : b.length ≤ 9223372036854775807) : PCalls Try.prog 36 [.lst .ro a.length (a.map .str), .lst .ro b.length (b.map .str)] (.bool (withinE a b && withinE b a)) := by
  refine pcalls_of (by first | rfl | simp [free, free.frees, frees_str, frees_u8, frees_u16]) (by first | rfl | simp [free, free.frees, frees_str, frees_u8, frees_u16]) (acalls_of mixed J_ref03_Same_ok (Nat.le_of_ble_eq_true rfl) ?_); simp only [J_ref03_Same, wk,if_true,if_false,forall_const,implies_true,ne_eq,eq_self,Nat.reduceEqDiff,Nat.reduceAdd,Nat.reduceMul,Nat.reduceSub,Nat.reduceLeDiff,Nat.reduceLT,Int.reduceEq,Int.reduceLT,Int.reduceLE,Int.reduceAdd,Int.reduceSub,Int.reduceMul,Int.reduceNeg,Int.reduceNe,reduceCtorEq,Int.reduceToNat,↓reduceIte]
  refine PCalls.use (p_rwithin a b ha hb) ?_; simp only [wk,if_true,if_false,forall_const,implies_true,ne_eq,eq_self,Nat.reduceEqDiff,Nat.reduceAdd,Nat.reduceMul,Nat.reduceSub,Nat.reduceLeDiff,Nat.reduceLT,Int.reduceEq,Int.reduceLT,Int.reduceLE,Int.reduceAdd,Int.reduceSub,Int.reduceMul,Int.reduceNeg,Int.reduceNe,reduceCtorEq,Int.reduceToNat,↓reduceIte]
  cases hw : withinE a b with
  | true =>
    simp only [wk,if_true,if_false,forall_const,implies_true,ne_eq,eq_self,Nat.reduceEqDiff,Nat.reduceAdd,Nat.reduceMul,Nat.reduceSub,Nat.reduceLeDiff,Nat.reduceLT,Int.reduceEq,Int.reduceLT,Int.reduceLE,Int.reduceAdd,Int.reduceSub,Int.reduceMul,Int.reduceNeg,Int.reduceNe,reduceCtorEq,Int.reduceToNat,↓reduceIte]
    refine PCalls.use (p_rwithin b a hb ha) ?_; simp only [wk,if_true,if_false,forall_const,implies_true,ne_eq,eq_self,Nat.reduceEqDiff,Nat.reduceAdd,Nat.reduceMul,Nat.reduceSub,Nat.reduceLeDiff,Nat.reduceLT,Int.reduceEq,Int.reduceLT,Int.reduceLE,Int.reduceAdd,Int.reduceSub,Int.reduceMul,Int.reduceNeg,Int.reduceNe,reduceCtorEq,Int.reduceToNat,↓reduceIte]
    rfl
  | false =>
    simp only [wk,if_true,if_false,forall_const,implies_true,ne_eq,eq_self,Nat.reduceEqDiff,Nat.reduceAdd,Nat.reduceMul,Nat.reduceSub,Nat.reduceLeDiff,Nat.reduceLT,Int.reduceEq,Int.reduceLT,Int.reduceLE,Int.reduceAdd,Int.reduceSub,Int.reduceMul,Int.reduceNeg,Int.reduceNe,reduceCtorEq,Int.reduceToNat,↓reduceIte]
    rfl
set_option maxHeartbeats 1000000 in
theorem p_rheavy (l : List ByteArray) (hl : l.length ≤ 9223372036854775807) (hs : ∀ x ∈ l, x.size ≤ 1000) : PCalls Try.prog 38 [.lst .ro l.length (l.map .str)] (.int .i64 (heavyE l)) := by
  refine pcalls_of (by first | rfl | simp [free, free.frees, frees_str, frees_u8, frees_u16]) (by first | rfl | simp [free, free.frees, frees_str, frees_u8, frees_u16]) (acalls_of mixed J_ref03_Heavy_ok (Nat.le_of_ble_eq_true rfl) ?_); simp only [J_ref03_Heavy, wk,if_true,if_false,forall_const,implies_true,ne_eq,eq_self,Nat.reduceEqDiff,Nat.reduceAdd,Nat.reduceMul,Nat.reduceSub,Nat.reduceLeDiff,Nat.reduceLT,Int.reduceEq,Int.reduceLT,Int.reduceLE,Int.reduceAdd,Int.reduceSub,Int.reduceMul,Int.reduceNeg,Int.reduceNe,reduceCtorEq,Int.reduceToNat,↓reduceIte]
  refine W_loop (fun n fr h => ∃ i : Nat, i ≤ l.length ∧ n = l.length - i ∧ fr = [(0, .lst .ro l.length (l.map .str)), (3, .int .i64 (heavyE (l.take i))), (4, .int .i64 i)]) l.length ⟨0, by omega, by omega, rfl⟩ ?_
  rintro n fr h ⟨i, hi, rfl, rfl⟩
  simp only [J_ref03_Heavy_j3, J_ref03_Heavy_j1, wk,if_true,if_false,forall_const,implies_true,ne_eq,eq_self,Nat.reduceEqDiff,Nat.reduceAdd,Nat.reduceMul,Nat.reduceSub,Nat.reduceLeDiff,Nat.reduceLT,Int.reduceEq,Int.reduceLT,Int.reduceLE,Int.reduceAdd,Int.reduceSub,Int.reduceMul,Int.reduceNeg,Int.reduceNe,reduceCtorEq,Int.reduceToNat,↓reduceIte]
  refine ⟨fun hlt => ?_, fun hge => int_eq ?_⟩
  · have hil : i < l.length := by omega
    have hx := hs l[i] (List.getElem_mem hil)
    have hd : (l.map AV.str).drop (i : Int).toNat = .str l[i] :: (l.map AV.str).drop (i + 1) := by rw [show (i : Int).toNat = i by omega, drop_str hil]
    have hz : (0 ≤ (i : Int)) = True := eq_true (by omega)
    have hlt' : ((i : Int) < (l.length : Int)) = True := eq_true (by omega)
    have hht : heavyE (l.take (i + 1)) = max (heavyE (l.take i)) (l[i].size / 2) := by
      unfold heavyE; rw [List.take_succ_eq_append_getElem hil, List.foldl_append]; rfl
    simp only [wk,if_true,if_false,forall_const,implies_true,ne_eq,eq_self,Nat.reduceEqDiff,Nat.reduceAdd,Nat.reduceMul,Nat.reduceSub,Nat.reduceLeDiff,Nat.reduceLT,Int.reduceEq,Int.reduceLT,Int.reduceLE,Int.reduceAdd,Int.reduceSub,Int.reduceMul,Int.reduceNeg,Int.reduceNe,reduceCtorEq,Int.reduceToNat,↓reduceIte, hd, hz, hlt']
    refine PCalls.use (p_ratoms l[i] (by omega)) ?_; simp only [wk,if_true,if_false,forall_const,implies_true,ne_eq,eq_self,Nat.reduceEqDiff,Nat.reduceAdd,Nat.reduceMul,Nat.reduceSub,Nat.reduceLeDiff,Nat.reduceLT,Int.reduceEq,Int.reduceLT,Int.reduceLE,Int.reduceAdd,Int.reduceSub,Int.reduceMul,Int.reduceNeg,Int.reduceNe,reduceCtorEq,Int.reduceToNat,↓reduceIte]
    refine ⟨fun hgt => ?_, fun hng => ?_⟩
    · simp only [wk,if_true,if_false,forall_const,implies_true,ne_eq,eq_self,Nat.reduceEqDiff,Nat.reduceAdd,Nat.reduceMul,Nat.reduceSub,Nat.reduceLeDiff,Nat.reduceLT,Int.reduceEq,Int.reduceLT,Int.reduceLE,Int.reduceAdd,Int.reduceSub,Int.reduceMul,Int.reduceNeg,Int.reduceNe,reduceCtorEq,Int.reduceToNat,↓reduceIte, hd, hz, hlt']
      refine PCalls.use (p_ratoms l[i] (by omega)) ?_; simp only [wk,if_true,if_false,forall_const,implies_true,ne_eq,eq_self,Nat.reduceEqDiff,Nat.reduceAdd,Nat.reduceMul,Nat.reduceSub,Nat.reduceLeDiff,Nat.reduceLT,Int.reduceEq,Int.reduceLT,Int.reduceLE,Int.reduceAdd,Int.reduceSub,Int.reduceMul,Int.reduceNeg,Int.reduceNe,reduceCtorEq,Int.reduceToNat,↓reduceIte]
      simp only [J_ref03_Heavy_j2, wk,if_true,if_false,forall_const,implies_true,ne_eq,eq_self,Nat.reduceEqDiff,Nat.reduceAdd,Nat.reduceMul,Nat.reduceSub,Nat.reduceLeDiff,Nat.reduceLT,Int.reduceEq,Int.reduceLT,Int.reduceLE,Int.reduceAdd,Int.reduceSub,Int.reduceMul,Int.reduceNeg,Int.reduceNe,reduceCtorEq,Int.reduceToNat,↓reduceIte]
      refine ⟨inR_of (by omega) (by omega), l.length - (i + 1), by omega, i + 1, by omega, rfl, ?_⟩
      rw [hht, Nat.max_def, if_pos (by omega)]; rfl
    · simp only [J_ref03_Heavy_j2, wk,if_true,if_false,forall_const,implies_true,ne_eq,eq_self,Nat.reduceEqDiff,Nat.reduceAdd,Nat.reduceMul,Nat.reduceSub,Nat.reduceLeDiff,Nat.reduceLT,Int.reduceEq,Int.reduceLT,Int.reduceLE,Int.reduceAdd,Int.reduceSub,Int.reduceMul,Int.reduceNeg,Int.reduceNe,reduceCtorEq,Int.reduceToNat,↓reduceIte]
      refine ⟨inR_of (by omega) (by omega), l.length - (i + 1), by omega, i + 1, by omega, rfl, ?_⟩
      rw [hht, Nat.max_def]
      split
      · rw [show l[i].size / 2 = heavyE (l.take i) by omega]; rfl
      · rfl
  · rw [List.take_of_length_le (by omega)]
/-- a word's atoms, as numbers -/
def atomNs (s : ByteArray) : List Nat := (List.range (s.size / 2)).map (atomAt s)
theorem atomsL_eq (s : ByteArray) : atomsL s (s.size / 2) = u16s (atomNs s) := by simp [atomsL, atomNs, u16s]
theorem atomNs_len (s : ByteArray) : (atomNs s).length = s.size / 2 := by simp [atomNs]
theorem atomNs_lt (s : ByteArray) : ∀ a ∈ atomNs s, a < 65536 := by
  intro a ha
  obtain ⟨i, _, rfl⟩ := List.mem_map.1 ha
  exact atomAt_lt s i
theorem atomBytes_app (a b : List Nat) : atomBytes (a ++ b) = atomBytes a ++ atomBytes b := by simp [atomBytes]
theorem atomBytes_atoms {s : ByteArray} (h : s.size % 2 = 0) : atomBytes (atomNs s) = s.data.toList := by
  have key : ∀ k, 2 * k ≤ s.size → atomBytes ((List.range k).map (atomAt s)) = s.data.toList.take (2 * k) := by
    intro k
    induction k with
    | zero => intro _; rfl
    | succ k ih =>
      intro hk
      rw [List.range_succ, List.map_append, atomBytes_app, ih (by omega)]
      have h1 : 2 * k < s.data.toList.length := by simp; omega
      have h2 : 2 * k + 1 < s.data.toList.length := by simp; omega
      rw [show 2 * (k + 1) = 2 * k + 1 + 1 by omega, List.take_succ_eq_append_getElem h2, List.take_succ_eq_append_getElem h1, List.append_assoc]
      congr 1
      have ha : atomAt s k = s[2 * k].toNat * 256 + s[2 * k + 1].toNat := by unfold atomAt; rw [dif_pos (by omega)]
      have b1 := s[2 * k].toNat_lt
      have b2 := s[2 * k + 1].toNat_lt
      simp only [List.map_cons, List.map_nil, atomBytes, List.flatMap_cons, List.flatMap_nil, List.append_nil, ha]
      have e1 : (s[2 * k].toNat * 256 + s[2 * k + 1].toNat) / 256 = s[2 * k].toNat := by omega
      have e2 : (s[2 * k].toNat * 256 + s[2 * k + 1].toNat) % 256 = s[2 * k + 1].toNat := by omega
      rw [e1, e2]
      simp
      exact ⟨rfl, rfl⟩
  have := key (s.size / 2) (by omega)
  unfold atomNs
  rw [this, List.take_of_length_le (by simp; omega)]
/-- words one behind the other -/
def catN (l : List ByteArray) : List Nat := l.flatMap atomNs
def catE (l : List ByteArray) : ByteArray × Int := if 8 < (catN l).length then (⟨#[]⟩, 4) else (⟨(l.flatMap fun s => s.data.toList).toArray⟩, 0)
theorem catN_bytes {l : List ByteArray} (h : ∀ x ∈ l, x.size % 2 = 0) : atomBytes (catN l) = l.flatMap fun s => s.data.toList := by
  induction l with
  | nil => rfl
  | cons x l ih => simp only [catN, List.flatMap_cons] at ih ⊢; rw [atomBytes_app, atomBytes_atoms (h x (by simp)), ih (fun y hy => h y (by simp [hy]))]
set_option maxHeartbeats 1000000 in
theorem p_rcat (l : List ByteArray) (hl : l.length ≤ 1000) (hs : ∀ x ∈ l, x.size ≤ 1000) (hev : ∀ x ∈ l, x.size % 2 = 0) : PCalls Try.prog 70 [.lst .ro l.length (l.map .str)] (.tup [.str (catE l).1, .int .i64 (catE l).2]) := by
  refine pcalls_of (by first | rfl | simp [free, free.frees, frees_str, frees_u8, frees_u16]) (by first | rfl | simp [free, free.frees, frees_str, frees_u8, frees_u16]) (acalls_of mixed J_ref02_Cat_ok (Nat.le_of_ble_eq_true rfl) ?_); simp only [J_ref02_Cat, wk,if_true,if_false,forall_const,implies_true,ne_eq,eq_self,Nat.reduceEqDiff,Nat.reduceAdd,Nat.reduceMul,Nat.reduceSub,Nat.reduceLeDiff,Nat.reduceLT,Int.reduceEq,Int.reduceLT,Int.reduceLE,Int.reduceAdd,Int.reduceSub,Int.reduceMul,Int.reduceNeg,Int.reduceNe,reduceCtorEq,Int.reduceToNat,↓reduceIte]
  have hd : ∀ {i : Nat} (h : i < l.length), (l.map AV.str).drop (i : Int).toNat = .str l[i] :: (l.map AV.str).drop (i + 1) := fun h => by rw [show ∀ i : Nat, (i : Int).toNat = i from fun i => by omega, drop_str h]
  have hlen : ∀ i, (catN (l.take i)).length ≤ 500 * i := by
    intro i
    induction i with
    | zero => simp [catN]
    | succ i ih =>
      by_cases h : i < l.length
      · rw [List.take_succ_eq_append_getElem h]
        have := hs l[i] (List.getElem_mem h)
        simp only [catN, List.flatMap_append, List.length_append, List.flatMap_cons, List.flatMap_nil, List.append_nil, atomNs_len] at ih ⊢; omega
      · rw [List.take_of_length_le (by omega)] at ih ⊢; omega
  refine W_loop (fun n fr h => ∃ i : Nat, i ≤ l.length ∧ n = l.length - i ∧ fr = [(0, .lst .ro l.length (l.map .str)), (4, .lst (.own 25) 0 []), (5, .int .i64 i)]) l.length ⟨0, by omega, by omega, rfl⟩ ?_
  rintro n fr h ⟨i, hi, rfl, rfl⟩
  simp only [J_ref02_Cat_j4, wk,if_true,if_false,forall_const,implies_true,ne_eq,eq_self,Nat.reduceEqDiff,Nat.reduceAdd,Nat.reduceMul,Nat.reduceSub,Nat.reduceLeDiff,Nat.reduceLT,Int.reduceEq,Int.reduceLT,Int.reduceLE,Int.reduceAdd,Int.reduceSub,Int.reduceMul,Int.reduceNeg,Int.reduceNe,reduceCtorEq,Int.reduceToNat,↓reduceIte]
  refine ⟨fun hlt => ?_, fun hge => ?_⟩
  · have hil : i < l.length := by omega
    have he := hev l[i] (List.getElem_mem hil)
    refine ⟨⟨by omega, by omega⟩, ?_⟩
    simp only [hd hil, wk,if_true,if_false,forall_const,implies_true,ne_eq,eq_self,Nat.reduceEqDiff,Nat.reduceAdd,Nat.reduceMul,Nat.reduceSub,Nat.reduceLeDiff,Nat.reduceLT,Int.reduceEq,Int.reduceLT,Int.reduceLE,Int.reduceAdd,Int.reduceSub,Int.reduceMul,Int.reduceNeg,Int.reduceNe,reduceCtorEq,Int.reduceToNat,↓reduceIte]
    refine ⟨fun h1 => ?_, fun _ => ⟨inR_of (by omega) (by omega), l.length - (i + 1), by omega, i + 1, by omega, rfl, rfl⟩⟩
    rw [Int.tmod_eq_emod_of_nonneg (by omega)] at h1
    omega
  · simp only [J_ref02_Cat_j3, wk,if_true,if_false,forall_const,implies_true,ne_eq,eq_self,Nat.reduceEqDiff,Nat.reduceAdd,Nat.reduceMul,Nat.reduceSub,Nat.reduceLeDiff,Nat.reduceLT,Int.reduceEq,Int.reduceLT,Int.reduceLE,Int.reduceAdd,Int.reduceSub,Int.reduceMul,Int.reduceNeg,Int.reduceNe,reduceCtorEq,Int.reduceToNat,↓reduceIte]
    refine W_loop (fun n fr h => ∃ i : Nat, i ≤ l.length ∧ n = l.length - i ∧ fr = [(0, .lst .ro l.length (l.map .str)), (4, .lst (.own 25) (catN (l.take i)).length (u16s (catN (l.take i)))), (6, .int .i64 i)] ∧ (catN (l.take i)).length ≤ 8) l.length ⟨0, by omega, by omega, rfl, by simp [catN]⟩ ?_
    rintro n fr h ⟨i, hi, rfl, rfl, h8⟩
    simp only [J_ref02_Cat_j2, wk,if_true,if_false,forall_const,implies_true,ne_eq,eq_self,Nat.reduceEqDiff,Nat.reduceAdd,Nat.reduceMul,Nat.reduceSub,Nat.reduceLeDiff,Nat.reduceLT,Int.reduceEq,Int.reduceLT,Int.reduceLE,Int.reduceAdd,Int.reduceSub,Int.reduceMul,Int.reduceNeg,Int.reduceNe,reduceCtorEq,Int.reduceToNat,↓reduceIte]
    refine ⟨fun hlt => ?_, fun hge => ?_⟩
    · have hil : i < l.length := by omega
      have hx := hs l[i] (List.getElem_mem hil)
      have hnx : catN (l.take (i + 1)) = catN (l.take i) ++ atomNs l[i] := by unfold catN; rw [List.take_succ_eq_append_getElem hil, List.flatMap_append]; simp only [List.flatMap_cons, List.flatMap_nil, List.append_nil]
      refine ⟨⟨by omega, by omega⟩, ?_⟩
      simp only [hd hil, wk,if_true,if_false,forall_const,implies_true,ne_eq,eq_self,Nat.reduceEqDiff,Nat.reduceAdd,Nat.reduceMul,Nat.reduceSub,Nat.reduceLeDiff,Nat.reduceLT,Int.reduceEq,Int.reduceLT,Int.reduceLE,Int.reduceAdd,Int.reduceSub,Int.reduceMul,Int.reduceNeg,Int.reduceNe,reduceCtorEq,Int.reduceToNat,↓reduceIte]
      refine PCalls.use (p_ratoms l[i] (by omega)) ?_; simp only [wk,if_true,if_false,forall_const,implies_true,ne_eq,eq_self,Nat.reduceEqDiff,Nat.reduceAdd,Nat.reduceMul,Nat.reduceSub,Nat.reduceLeDiff,Nat.reduceLT,Int.reduceEq,Int.reduceLT,Int.reduceLE,Int.reduceAdd,Int.reduceSub,Int.reduceMul,Int.reduceNeg,Int.reduceNe,reduceCtorEq,Int.reduceToNat,↓reduceIte]
      rw [atomsL_eq]
      refine ⟨⟨by simp [atomNs_len], by omega, by omega⟩, ?_⟩
      rw [← atomNs_len, ← List.length_append, ← List.map_append, ← hnx]
      refine ⟨fun hgt => ?_, fun hng => ?_⟩
      · have hbig : 8 < (catN l).length := by
          have : catN l = catN (l.take (i + 1)) ++ catN (l.drop (i + 1)) := by unfold catN; rw [← List.flatMap_append, List.take_append_drop]
          rw [this, List.length_append]; omega
        unfold catE; rw [if_pos hbig]
      · exact ⟨inR_of (by omega) (by omega), l.length - (i + 1), by omega, i + 1, by omega, rfl, rfl, by omega⟩
    · obtain rfl : i = l.length := by omega
      rw [List.take_length] at h8 ⊢
      simp only [J_ref02_Cat_j1, wk,if_true,if_false,forall_const,implies_true,ne_eq,eq_self,Nat.reduceEqDiff,Nat.reduceAdd,Nat.reduceMul,Nat.reduceSub,Nat.reduceLeDiff,Nat.reduceLT,Int.reduceEq,Int.reduceLT,Int.reduceLE,Int.reduceAdd,Int.reduceSub,Int.reduceMul,Int.reduceNeg,Int.reduceNe,reduceCtorEq,Int.reduceToNat,↓reduceIte]
      refine PCalls.use (p_rof (catN l) (by omega) (fun a ha => by obtain ⟨s, _, hs⟩ := List.mem_flatMap.1 ha; exact atomNs_lt s a hs)) ?_; simp only [wk,if_true,if_false,forall_const,implies_true,ne_eq,eq_self,Nat.reduceEqDiff,Nat.reduceAdd,Nat.reduceMul,Nat.reduceSub,Nat.reduceLeDiff,Nat.reduceLT,Int.reduceEq,Int.reduceLT,Int.reduceLE,Int.reduceAdd,Int.reduceSub,Int.reduceMul,Int.reduceNeg,Int.reduceNe,reduceCtorEq,Int.reduceToNat,↓reduceIte]
      unfold catE
      rw [if_neg (by omega), catN_bytes hev]
end Go.Proofs.Ytajpibdchgflnaa
