/- large of the laws on sets; what stays small. -/
import Derived.Test.YtajpibdchgflnaaSv
namespace Go.Proofs.Ytajpibdchgflnaa
set_option linter.unusedSimpArgs false
set_option linter.unusedVariables false
open Go.RowKit Go.Lib

/-- a set, as it is handed -/
def vS (s : List ByteArray) : AV := .lst .ro s.length (s.map .str)
def smallS (s : List ByteArray) : Prop := s.length ≤ 60 ∧ ∀ x ∈ s, x.size ≤ 100
def largeS (ls : List (List ByteArray)) : Bool := ls.any fun s => decide (60 < s.length) || s.any fun x => decide (100 < x.size)
theorem largeS_no {ls : List (List ByteArray)} : largeS ls = false ↔ ∀ s ∈ ls, smallS s := by
  unfold largeS smallS
  rw [List.any_eq_false]
  refine forall_congr' fun s => forall_congr' fun _ => ?_
  simp only [Bool.or_eq_true, decide_eq_true_eq, List.any_eq_true, not_or, not_exists, not_and, Nat.not_lt]
theorem largeS_yes {ls : List (List ByteArray)} {s : List ByteArray} (hs : s ∈ ls) (h : ¬ smallS s) : largeS ls = true := by
  cases hl : largeS ls with
  | true => rfl
  | false => exact absurd (largeS_no.1 hl s hs) h
theorem drop_vS {ls : List (List ByteArray)} {i : Nat} (h : i < ls.length) : (ls.map vS).drop i = .lst .ro ls[i].length (ls[i].map .str) :: (ls.map vS).drop (i + 1) := by
  rw [← List.map_drop, List.drop_eq_getElem_cons h, List.map_cons, List.map_drop]; rfl
theorem frees_vS (ls : List (List ByteArray)) : free.frees (ls.map vS) = true := by
  induction ls with
  | nil => rfl
  | cons s ls ih => simp only [List.map_cons, free.frees, ih, Bool.and_true]; unfold vS; simp only [free]; exact frees_str _
set_option maxRecDepth 100000 in
set_option maxHeartbeats 2000000 in
theorem p_large (ls : List (List ByteArray)) (hl : ls.length ≤ 100) (hs : ∀ s ∈ ls, s.length ≤ 9223372036854775807) : PCalls Try.prog 16 [.lst .ro ls.length (ls.map vS)] (.bool (largeS ls)) := by
  refine pcalls_of (by simp [free, free.frees, frees_vS]) rfl (acalls_of mixed J_law03_large_ok (Nat.le_of_ble_eq_true rfl) ?_); simp only [J_law03_large, wk,if_true,if_false,forall_const,implies_true,ne_eq,eq_self,Nat.reduceEqDiff,Nat.reduceAdd,Nat.reduceMul,Nat.reduceSub,Nat.reduceLeDiff,Nat.reduceLT,Int.reduceEq,Int.reduceLT,Int.reduceLE,Int.reduceAdd,Int.reduceSub,Int.reduceMul,Int.reduceNeg,Int.reduceNe,reduceCtorEq,Int.reduceToNat,↓reduceIte]
  refine W_loop (fun n fr h => ∃ i : Nat, i ≤ ls.length ∧ n = ls.length - i ∧ fr = [(0, .lst .ro ls.length (ls.map vS)), (6, .int .i64 ls.length), (7, .int .i64 i)] ∧ ∀ s ∈ ls.take i, smallS s) ls.length ⟨0, by omega, by omega, rfl, by simp⟩ ?_
  rintro n fr h ⟨i, hi, rfl, rfl, hall⟩
  simp only [J_law03_large_j4, wk,if_true,if_false,forall_const,implies_true,ne_eq,eq_self,Nat.reduceEqDiff,Nat.reduceAdd,Nat.reduceMul,Nat.reduceSub,Nat.reduceLeDiff,Nat.reduceLT,Int.reduceEq,Int.reduceLT,Int.reduceLE,Int.reduceAdd,Int.reduceSub,Int.reduceMul,Int.reduceNeg,Int.reduceNe,reduceCtorEq,Int.reduceToNat,↓reduceIte]
  refine ⟨fun hlt => ?_, fun hge => ?_⟩
  · have hil : i < ls.length := by omega
    have hd : (ls.map vS).drop (i : Int).toNat = .lst .ro ls[i].length (ls[i].map .str) :: (ls.map vS).drop (i + 1) := by rw [show (i : Int).toNat = i by omega, drop_vS hil]
    have h0 : (0 ≤ (i : Int)) = True := eq_true (by omega)
    have hlt' : ((i : Int) < (ls.length : Int)) = True := eq_true (by omega)
    have hsl := hs _ (List.getElem_mem hil)
    simp only [wk,if_true,if_false,forall_const,implies_true,ne_eq,eq_self,Nat.reduceEqDiff,Nat.reduceAdd,Nat.reduceMul,Nat.reduceSub,Nat.reduceLeDiff,Nat.reduceLT,Int.reduceEq,Int.reduceLT,Int.reduceLE,Int.reduceAdd,Int.reduceSub,Int.reduceMul,Int.reduceNeg,Int.reduceNe,reduceCtorEq,Int.reduceToNat,↓reduceIte, hd, h0, hlt']
    refine ⟨fun h60 => ?_, fun h60 => ?_⟩
    · exact bool_eq (largeS_yes (List.getElem_mem hil) (fun hsm => by have := hsm.1; omega)).symm
    · refine W_loop (fun n fr h => ∃ k : Nat, k ≤ ls[i].length ∧ n = ls[i].length - k ∧ fr = [(0, .lst .ro ls.length (ls.map vS)), (3, .int .i64 i), (6, .int .i64 ls.length), (7, .int .i64 i), (20, .int .i64 ls[i].length), (21, .int .i64 k)] ∧ ∀ x ∈ ls[i].take k, x.size ≤ 100) ls[i].length ⟨0, by omega, by omega, rfl, by simp⟩ ?_
      rintro n fr h ⟨k, hk, rfl, rfl, hall2⟩
      simp only [J_law03_large_j3, wk,if_true,if_false,forall_const,implies_true,ne_eq,eq_self,Nat.reduceEqDiff,Nat.reduceAdd,Nat.reduceMul,Nat.reduceSub,Nat.reduceLeDiff,Nat.reduceLT,Int.reduceEq,Int.reduceLT,Int.reduceLE,Int.reduceAdd,Int.reduceSub,Int.reduceMul,Int.reduceNeg,Int.reduceNe,reduceCtorEq,Int.reduceToNat,↓reduceIte]
      refine ⟨fun hlt2 => ?_, fun hge2 => ?_⟩
      · have hkl : k < ls[i].length := by omega
        have h0k : (0 ≤ (k : Int)) = True := eq_true (by omega)
        have hk2 : ((k : Int) < (ls[i].length : Int)) = True := eq_true (by omega)
        have hdk : (ls[i].map AV.str).drop (k : Int).toNat = .str ls[i][k] :: (ls[i].map AV.str).drop (k + 1) := by rw [show (k : Int).toNat = k by omega, drop_str hkl]
        simp only [wk,if_true,if_false,forall_const,implies_true,ne_eq,eq_self,Nat.reduceEqDiff,Nat.reduceAdd,Nat.reduceMul,Nat.reduceSub,Nat.reduceLeDiff,Nat.reduceLT,Int.reduceEq,Int.reduceLT,Int.reduceLE,Int.reduceAdd,Int.reduceSub,Int.reduceMul,Int.reduceNeg,Int.reduceNe,reduceCtorEq,Int.reduceToNat,↓reduceIte, hd, h0, hlt', h0k, hk2, hdk]
        refine ⟨fun h1 => bool_eq (largeS_yes (List.getElem_mem hil) (fun hsm => by have := hsm.2 _ (List.getElem_mem hkl); omega)).symm, fun h1 => ⟨inR_of (by omega) (by omega), ls[i].length - (k + 1), by omega, k + 1, by omega, rfl, rfl, fun x hx => ?_⟩⟩
        rw [List.take_succ_eq_append_getElem hkl, List.mem_append] at hx
        rcases hx with hx | hx
        · exact hall2 x hx
        · simp at hx; subst hx; omega
      · rw [List.take_of_length_le (by omega)] at hall2
        simp only [J_law03_large_j2, wk,if_true,if_false,forall_const,implies_true,ne_eq,eq_self,Nat.reduceEqDiff,Nat.reduceAdd,Nat.reduceMul,Nat.reduceSub,Nat.reduceLeDiff,Nat.reduceLT,Int.reduceEq,Int.reduceLT,Int.reduceLE,Int.reduceAdd,Int.reduceSub,Int.reduceMul,Int.reduceNeg,Int.reduceNe,reduceCtorEq,Int.reduceToNat,↓reduceIte]
        refine ⟨inR_of (by omega) (by omega), ls.length - (i + 1), by omega, i + 1, by omega, rfl, rfl, fun s hsm => ?_⟩
        rw [List.take_succ_eq_append_getElem hil, List.mem_append] at hsm
        rcases hsm with hsm | hsm
        · exact hall s hsm
        · simp at hsm; subst hsm; exact ⟨by omega, hall2⟩
  · rw [List.take_of_length_le (by omega)] at hall
    simp only [J_law03_large_j1, wk,if_true,if_false,forall_const,implies_true,ne_eq,eq_self,Nat.reduceEqDiff,Nat.reduceAdd,Nat.reduceMul,Nat.reduceSub,Nat.reduceLeDiff,Nat.reduceLT,Int.reduceEq,Int.reduceLT,Int.reduceLE,Int.reduceAdd,Int.reduceSub,Int.reduceMul,Int.reduceNeg,Int.reduceNe,reduceCtorEq,Int.reduceToNat,↓reduceIte]
    exact bool_eq (largeS_no.2 hall).symm
theorem maxLen_of {s : List ByteArray} (h : smallS s) : ∀ x ∈ s, x.size ≤ maxLen := fun x hx => by have := h.2 x hx; unfold maxLen; omega
set_option maxRecDepth 100000 in
set_option maxHeartbeats 2000000 in
theorem a_tells (a b : List ByteArray) (w : ByteArray) (ka : a.length ≤ 9223372036854775807) (kb : b.length ≤ 9223372036854775807) : ACalls Try.prog 4 [vS a, vS b, .str w] [] fun v _ => v = .bool true := by
  unfold vS
  refine acalls_of mixed J_law03_SetTells_ok (Nat.le_of_ble_eq_true rfl) ?_; simp only [J_law03_SetTells, wk,if_true,if_false,forall_const,implies_true,ne_eq,eq_self,Nat.reduceEqDiff,Nat.reduceAdd,Nat.reduceMul,Nat.reduceSub,Nat.reduceLeDiff,Nat.reduceLT,Int.reduceEq,Int.reduceLT,Int.reduceLE,Int.reduceAdd,Int.reduceSub,Int.reduceMul,Int.reduceNeg,Int.reduceNe,reduceCtorEq,Int.reduceToNat,↓reduceIte]
  refine PCalls.use (p_awake) ?_; simp only [wk,if_true,if_false,forall_const,implies_true,ne_eq,eq_self,Nat.reduceEqDiff,Nat.reduceAdd,Nat.reduceMul,Nat.reduceSub,Nat.reduceLeDiff,Nat.reduceLT,Int.reduceEq,Int.reduceLT,Int.reduceLE,Int.reduceAdd,Int.reduceSub,Int.reduceMul,Int.reduceNeg,Int.reduceNe,reduceCtorEq,Int.reduceToNat,↓reduceIte]
  refine PCalls.use (p_large [a, b] (by simp) (by intro s hs; simp at hs; rcases hs with rfl | rfl <;> assumption)) ?_; simp only [wk,if_true,if_false,forall_const,implies_true,ne_eq,eq_self,Nat.reduceEqDiff,Nat.reduceAdd,Nat.reduceMul,Nat.reduceSub,Nat.reduceLeDiff,Nat.reduceLT,Int.reduceEq,Int.reduceLT,Int.reduceLE,Int.reduceAdd,Int.reduceSub,Int.reduceMul,Int.reduceNeg,Int.reduceNe,reduceCtorEq,Int.reduceToNat,↓reduceIte]
  intro hno hw100
  have sa : smallS a := largeS_no.1 hno a (by simp)
  have sb : smallS b := largeS_no.1 hno b (by simp)
  have na := sa.1
  have nb := sb.1
  refine PCalls.use (p_shas a w ka) ?_; simp only [wk,if_true,if_false,forall_const,implies_true,ne_eq,eq_self,Nat.reduceEqDiff,Nat.reduceAdd,Nat.reduceMul,Nat.reduceSub,Nat.reduceLeDiff,Nat.reduceLT,Int.reduceEq,Int.reduceLT,Int.reduceLE,Int.reduceAdd,Int.reduceSub,Int.reduceMul,Int.reduceNeg,Int.reduceNe,reduceCtorEq,Int.reduceToNat,↓reduceIte]
  refine PCalls.use (p_rhas a w ka) ?_; simp only [wk,if_true,if_false,forall_const,implies_true,ne_eq,eq_self,Nat.reduceEqDiff,Nat.reduceAdd,Nat.reduceMul,Nat.reduceSub,Nat.reduceLeDiff,Nat.reduceLT,Int.reduceEq,Int.reduceLT,Int.reduceLE,Int.reduceAdd,Int.reduceSub,Int.reduceMul,Int.reduceNeg,Int.reduceNe,reduceCtorEq,Int.reduceToNat,↓reduceIte]
  refine PCalls.use (p_within a b (by omega) (by omega) (maxLen_of sa) (maxLen_of sb)) ?_; simp only [wk,if_true,if_false,forall_const,implies_true,ne_eq,eq_self,Nat.reduceEqDiff,Nat.reduceAdd,Nat.reduceMul,Nat.reduceSub,Nat.reduceLeDiff,Nat.reduceLT,Int.reduceEq,Int.reduceLT,Int.reduceLE,Int.reduceAdd,Int.reduceSub,Int.reduceMul,Int.reduceNeg,Int.reduceNe,reduceCtorEq,Int.reduceToNat,↓reduceIte]
  refine PCalls.use (p_rwithin a b ka kb) ?_; simp only [wk,if_true,if_false,forall_const,implies_true,ne_eq,eq_self,Nat.reduceEqDiff,Nat.reduceAdd,Nat.reduceMul,Nat.reduceSub,Nat.reduceLeDiff,Nat.reduceLT,Int.reduceEq,Int.reduceLT,Int.reduceLE,Int.reduceAdd,Int.reduceSub,Int.reduceMul,Int.reduceNeg,Int.reduceNe,reduceCtorEq,Int.reduceToNat,↓reduceIte]
  refine PCalls.use (p_same a b (by omega) (by omega) (maxLen_of sa) (maxLen_of sb)) ?_; simp only [wk,if_true,if_false,forall_const,implies_true,ne_eq,eq_self,Nat.reduceEqDiff,Nat.reduceAdd,Nat.reduceMul,Nat.reduceSub,Nat.reduceLeDiff,Nat.reduceLT,Int.reduceEq,Int.reduceLT,Int.reduceLE,Int.reduceAdd,Int.reduceSub,Int.reduceMul,Int.reduceNeg,Int.reduceNe,reduceCtorEq,Int.reduceToNat,↓reduceIte]
  refine PCalls.use (p_rsame a b ka kb) ?_; simp only [wk,if_true,if_false,forall_const,implies_true,ne_eq,eq_self,Nat.reduceEqDiff,Nat.reduceAdd,Nat.reduceMul,Nat.reduceSub,Nat.reduceLeDiff,Nat.reduceLT,Int.reduceEq,Int.reduceLT,Int.reduceLE,Int.reduceAdd,Int.reduceSub,Int.reduceMul,Int.reduceNeg,Int.reduceNe,reduceCtorEq,Int.reduceToNat,↓reduceIte]
  refine PCalls.use (p_sheavy a ka (fun x hx => by have := sa.2 x hx; omega)) ?_; simp only [wk,if_true,if_false,forall_const,implies_true,ne_eq,eq_self,Nat.reduceEqDiff,Nat.reduceAdd,Nat.reduceMul,Nat.reduceSub,Nat.reduceLeDiff,Nat.reduceLT,Int.reduceEq,Int.reduceLT,Int.reduceLE,Int.reduceAdd,Int.reduceSub,Int.reduceMul,Int.reduceNeg,Int.reduceNe,reduceCtorEq,Int.reduceToNat,↓reduceIte]
  refine PCalls.use (p_rheavy a ka (fun x hx => by have := sa.2 x hx; omega)) ?_; simp only [wk,if_true,if_false,forall_const,implies_true,ne_eq,eq_self,Nat.reduceEqDiff,Nat.reduceAdd,Nat.reduceMul,Nat.reduceSub,Nat.reduceLeDiff,Nat.reduceLT,Int.reduceEq,Int.reduceLT,Int.reduceLE,Int.reduceAdd,Int.reduceSub,Int.reduceMul,Int.reduceNeg,Int.reduceNe,reduceCtorEq,Int.reduceToNat,↓reduceIte]
end Go.Proofs.Ytajpibdchgflnaa
