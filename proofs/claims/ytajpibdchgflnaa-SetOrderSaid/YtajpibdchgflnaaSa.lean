/- What the library's Index, Contains, Equal do with words; Has, Heavy; a word of atoms. -/
import Derived.Test.YtajpibdchgflnaaPw
import Derived.Test.YtajpibdchgflnaaSp
import Derived.Test.YtajpibdchgflnaaAk
import Derived.Test.YtajpibdchgflnaaFnS
namespace Go.Proofs.Ytajpibdchgflnaa
set_option linter.unusedSimpArgs false
set_option linter.unusedVariables false
open Go.RowKit Go.Lib

/-- the first place of a word; below 0: none -/
def idxW (w : ByteArray) : List ByteArray → Int
  | [] => -1
  | x :: r => if w = x then 0 else if idxW w r < 0 then -1 else idxW w r + 1
theorem idxW_ge (w : ByteArray) : ∀ l, -1 ≤ idxW w l
  | [] => by simp [idxW]
  | x :: r => by
    have := idxW_ge w r
    simp only [idxW]
    split
    · omega
    · split <;> omega
theorem idxW_none {w : ByteArray} : ∀ {l : List ByteArray}, w ∉ l → idxW w l = -1
  | [], _ => rfl
  | x :: r, h => by
    simp only [List.mem_cons, not_or] at h
    simp only [idxW]
    rw [if_neg h.1, idxW_none h.2]; rfl
theorem idxW_at {w : ByteArray} : ∀ {l : List ByteArray} {i : Nat}, l[i]? = some w → w ∉ l.take i → idxW w l = i
  | [], i, h, _ => by simp at h
  | x :: r, 0, h, _ => by simp at h; subst h; simp [idxW]
  | x :: r, i + 1, h, hn => by
    simp only [List.getElem?_cons_succ] at h
    simp only [List.take_succ_cons, List.mem_cons, not_or] at hn
    have := idxW_at h hn.2
    simp only [idxW]
    rw [if_neg hn.1, if_neg (by omega), this]; omega
theorem idxW_mem (w : ByteArray) (l : List ByteArray) : decide (0 ≤ idxW w l) = hasW l w := by
  by_cases h : w ∈ l
  · have hk : ∀ (l : List ByteArray), w ∈ l → 0 ≤ idxW w l := by
      intro l
      induction l with
      | nil => intro h; simp at h
      | cons x r ih =>
        intro h
        simp only [idxW]
        split
        · omega
        · next hx =>
          have := ih (by rcases List.mem_cons.1 h with h | h; exact absurd h hx; exact h)
          rw [if_neg (by omega)]; omega
    rw [decide_eq_true (hk l h), hasW_iff.2 h]
  · rw [idxW_none h, hasW_no.2 h]; rfl
theorem take_mem_succ {α : Type} {x : α} {l : List α} {i : Nat} (h : i < l.length) : x ∈ l.take (i + 1) ↔ x ∈ l.take i ∨ x = l[i] := by
  rw [List.take_succ_eq_append_getElem h, List.mem_append]; simp
set_option maxHeartbeats 1000000 in
theorem p_index (l : List ByteArray) (w : ByteArray) (hl : l.length ≤ 9223372036854775807) : PCalls Try.prog 102 [.lst .ro l.length (l.map .str), .str w] (.int .i64 (idxW w l)) := by
  refine pcalls_of (by first | rfl | simp [free, free.frees, frees_str, frees_u8, frees_u16]) (by first | rfl | simp [free, free.frees, frees_str, frees_u8, frees_u16]) (acalls_of mixed J_slices_Index_api_Set_api_Word_ok (Nat.le_of_ble_eq_true rfl) ?_); simp only [J_slices_Index_api_Set_api_Word, wk,if_true,if_false,forall_const,implies_true,ne_eq,eq_self,Nat.reduceEqDiff,Nat.reduceAdd,Nat.reduceMul,Nat.reduceSub,Nat.reduceLeDiff,Nat.reduceLT,Int.reduceEq,Int.reduceLT,Int.reduceLE,Int.reduceAdd,Int.reduceSub,Int.reduceMul,Int.reduceNeg,Int.reduceNe,reduceCtorEq,Int.reduceToNat,↓reduceIte]
  refine W_loop (fun n fr h => ∃ i : Nat, i ≤ l.length ∧ n = l.length - i ∧ fr = [(0, .lst .ro l.length (l.map .str)), (1, .str w), (7, .int .i64 l.length), (8, .int .i64 i)] ∧ w ∉ l.take i) l.length ⟨0, by omega, by omega, rfl, by simp⟩ ?_
  rintro n fr h ⟨i, hi, rfl, rfl, hno⟩
  simp only [J_slices_Index_api_Set_api_Word_j2, J_slices_Index_api_Set_api_Word_j1, wk,if_true,if_false,forall_const,implies_true,ne_eq,eq_self,Nat.reduceEqDiff,Nat.reduceAdd,Nat.reduceMul,Nat.reduceSub,Nat.reduceLeDiff,Nat.reduceLT,Int.reduceEq,Int.reduceLT,Int.reduceLE,Int.reduceAdd,Int.reduceSub,Int.reduceMul,Int.reduceNeg,Int.reduceNe,reduceCtorEq,Int.reduceToNat,↓reduceIte]
  refine ⟨fun hlt => ?_, fun hge => int_eq ?_⟩
  · have hil : i < l.length := by omega
    (repeat (refine And.intro (by first | omega | exact inR_of (by omega) (by omega) | exact ⟨by omega, by omega⟩ | exact ⟨by omega, by omega, by omega⟩ | rfl) ?_))
    rw [show (i : Int).toNat = i by omega, drop_str hil]
    simp only [wk,if_true,if_false,forall_const,implies_true,ne_eq,eq_self,Nat.reduceEqDiff,Nat.reduceAdd,Nat.reduceMul,Nat.reduceSub,Nat.reduceLeDiff,Nat.reduceLT,Int.reduceEq,Int.reduceLT,Int.reduceLE,Int.reduceAdd,Int.reduceSub,Int.reduceMul,Int.reduceNeg,Int.reduceNe,reduceCtorEq,Int.reduceToNat,↓reduceIte]
    refine ⟨fun he => int_eq ?_, fun hne => ⟨inR_of (by omega) (by omega), l.length - (i + 1), by omega, i + 1, by omega, rfl, rfl, fun hm => ?_⟩⟩
    · rw [idxW_at (i := i) (by rw [List.getElem?_eq_getElem hil, he]) hno]
    · rcases (take_mem_succ hil).1 hm with h | h
      · exact hno h
      · exact hne h
  · rw [List.take_of_length_le (by omega)] at hno
    rw [idxW_none hno]
theorem p_contains (l : List ByteArray) (w : ByteArray) (hl : l.length ≤ 9223372036854775807) : PCalls Try.prog 72 [.lst .ro l.length (l.map .str), .str w] (.bool (hasW l w)) := by
  refine pcalls_of (by first | rfl | simp [free, free.frees, frees_str, frees_u8, frees_u16]) (by first | rfl | simp [free, free.frees, frees_str, frees_u8, frees_u16]) (acalls_of mixed J_slices_Contains_api_Set_api_Word_ok (Nat.le_of_ble_eq_true rfl) ?_); simp only [J_slices_Contains_api_Set_api_Word, wk,if_true,if_false,forall_const,implies_true,ne_eq,eq_self,Nat.reduceEqDiff,Nat.reduceAdd,Nat.reduceMul,Nat.reduceSub,Nat.reduceLeDiff,Nat.reduceLT,Int.reduceEq,Int.reduceLT,Int.reduceLE,Int.reduceAdd,Int.reduceSub,Int.reduceMul,Int.reduceNeg,Int.reduceNe,reduceCtorEq,Int.reduceToNat,↓reduceIte]
  refine PCalls.use (p_index l w hl) ?_; simp only [wk,if_true,if_false,forall_const,implies_true,ne_eq,eq_self,Nat.reduceEqDiff,Nat.reduceAdd,Nat.reduceMul,Nat.reduceSub,Nat.reduceLeDiff,Nat.reduceLT,Int.reduceEq,Int.reduceLT,Int.reduceLE,Int.reduceAdd,Int.reduceSub,Int.reduceMul,Int.reduceNeg,Int.reduceNe,reduceCtorEq,Int.reduceToNat,↓reduceIte]
  exact bool_eq (idxW_mem w l)
theorem p_shas (l : List ByteArray) (w : ByteArray) (hl : l.length ≤ 9223372036854775807) : PCalls Try.prog 31 [.lst .ro l.length (l.map .str), .str w] (.bool (hasW l w)) := by
  refine pcalls_of (by first | rfl | simp [free, free.frees, frees_str, frees_u8, frees_u16]) (by first | rfl | simp [free, free.frees, frees_str, frees_u8, frees_u16]) (acalls_of mixed J_set_Has_ok (Nat.le_of_ble_eq_true rfl) ?_); simp only [J_set_Has, wk,if_true,if_false,forall_const,implies_true,ne_eq,eq_self,Nat.reduceEqDiff,Nat.reduceAdd,Nat.reduceMul,Nat.reduceSub,Nat.reduceLeDiff,Nat.reduceLT,Int.reduceEq,Int.reduceLT,Int.reduceLE,Int.reduceAdd,Int.reduceSub,Int.reduceMul,Int.reduceNeg,Int.reduceNe,reduceCtorEq,Int.reduceToNat,↓reduceIte]
  refine PCalls.use (p_contains l w hl) ?_; simp only [wk,if_true,if_false,forall_const,implies_true,ne_eq,eq_self,Nat.reduceEqDiff,Nat.reduceAdd,Nat.reduceMul,Nat.reduceSub,Nat.reduceLeDiff,Nat.reduceLT,Int.reduceEq,Int.reduceLT,Int.reduceLE,Int.reduceAdd,Int.reduceSub,Int.reduceMul,Int.reduceNeg,Int.reduceNe,reduceCtorEq,Int.reduceToNat,↓reduceIte]
set_option maxHeartbeats 1000000 in
theorem p_sequal (a b : List ByteArray) (ha : a.length ≤ 9223372036854775807) : PCalls Try.prog 96 [.lst .ro a.length (a.map .str), .lst .ro b.length (b.map .str)] (.bool (decide (a = b))) := by
  refine pcalls_of (by first | rfl | simp [free, free.frees, frees_str, frees_u8, frees_u16]) (by first | rfl | simp [free, free.frees, frees_str, frees_u8, frees_u16]) (acalls_of mixed J_slices_Equal_api_Set_api_Word_ok (Nat.le_of_ble_eq_true rfl) ?_); simp only [J_slices_Equal_api_Set_api_Word, wk,if_true,if_false,forall_const,implies_true,ne_eq,eq_self,Nat.reduceEqDiff,Nat.reduceAdd,Nat.reduceMul,Nat.reduceSub,Nat.reduceLeDiff,Nat.reduceLT,Int.reduceEq,Int.reduceLT,Int.reduceLE,Int.reduceAdd,Int.reduceSub,Int.reduceMul,Int.reduceNeg,Int.reduceNe,reduceCtorEq,Int.reduceToNat,↓reduceIte]
  refine ⟨fun h => bool_eq ?_, fun h => ?_⟩
  · symm; rw [decide_eq_false_iff_not]; intro e; rw [e] at h; exact h rfl
  have hab : a.length = b.length := by omega
  refine W_loop (fun n fr h => ∃ i : Nat, i ≤ a.length ∧ n = a.length - i ∧ fr = [(0, .lst .ro a.length (a.map .str)), (1, .lst .ro b.length (b.map .str)), (12, .int .i64 a.length), (13, .int .i64 i)] ∧ a.take i = b.take i) a.length ⟨0, by omega, by omega, rfl, rfl⟩ ?_
  rintro n fr h ⟨i, hi, rfl, rfl, hall⟩
  simp only [J_slices_Equal_api_Set_api_Word_j2, J_slices_Equal_api_Set_api_Word_j1, wk,if_true,if_false,forall_const,implies_true,ne_eq,eq_self,Nat.reduceEqDiff,Nat.reduceAdd,Nat.reduceMul,Nat.reduceSub,Nat.reduceLeDiff,Nat.reduceLT,Int.reduceEq,Int.reduceLT,Int.reduceLE,Int.reduceAdd,Int.reduceSub,Int.reduceMul,Int.reduceNeg,Int.reduceNe,reduceCtorEq,Int.reduceToNat,↓reduceIte]
  refine ⟨fun hlt => ?_, fun hge => bool_eq ?_⟩
  · have hia : i < a.length := by omega
    have hib : i < b.length := by omega
    (repeat (refine And.intro (by first | omega | exact inR_of (by omega) (by omega) | exact ⟨by omega, by omega⟩ | exact ⟨by omega, by omega, by omega⟩ | rfl) ?_))
    rw [show (i : Int).toNat = i by omega, drop_str hia]
    simp only [wk,if_true,if_false,forall_const,implies_true,ne_eq,eq_self,Nat.reduceEqDiff,Nat.reduceAdd,Nat.reduceMul,Nat.reduceSub,Nat.reduceLeDiff,Nat.reduceLT,Int.reduceEq,Int.reduceLT,Int.reduceLE,Int.reduceAdd,Int.reduceSub,Int.reduceMul,Int.reduceNeg,Int.reduceNe,reduceCtorEq,Int.reduceToNat,↓reduceIte]
    (repeat (refine And.intro (by first | omega | exact inR_of (by omega) (by omega) | exact ⟨by omega, by omega⟩ | exact ⟨by omega, by omega, by omega⟩ | rfl) ?_))
    rw [show (i : Int).toNat = i by omega, drop_str hib]
    simp only [wk,if_true,if_false,forall_const,implies_true,ne_eq,eq_self,Nat.reduceEqDiff,Nat.reduceAdd,Nat.reduceMul,Nat.reduceSub,Nat.reduceLeDiff,Nat.reduceLT,Int.reduceEq,Int.reduceLT,Int.reduceLE,Int.reduceAdd,Int.reduceSub,Int.reduceMul,Int.reduceNeg,Int.reduceNe,reduceCtorEq,Int.reduceToNat,↓reduceIte]
    refine ⟨fun hne => bool_eq ?_, fun he => ?_⟩
    · symm; rw [decide_eq_false_iff_not]; intro e; subst e; exact hne rfl
    · refine ⟨inR_of (by omega) (by omega), a.length - (i + 1), by omega, i + 1, by omega, rfl, rfl, ?_⟩
      rw [List.take_succ_eq_append_getElem hia, List.take_succ_eq_append_getElem hib, hall, he]
  · symm; rw [decide_eq_true_eq]
    rw [List.take_of_length_le (by omega), List.take_of_length_le (by omega)] at hall
    exact hall
theorem heavy_take {l : List ByteArray} {i : Nat} (h : i < l.length) : heavyE (l.take (i + 1)) = max (heavyE (l.take i)) (l[i].size / 2) := by
  unfold heavyE; rw [List.take_succ_eq_append_getElem h, List.foldl_append]; rfl
theorem heavy_le : ∀ (l : List ByteArray) (m : Nat), (∀ x ∈ l, x.size ≤ m) → heavyE l ≤ m := by
  intro l m h
  have : ∀ (l : List ByteArray) (n : Nat), n ≤ m → (∀ x ∈ l, x.size ≤ m) → l.foldl (fun n w => max n (w.size / 2)) n ≤ m := by
    intro l
    induction l with
    | nil => intro n hn _; exact hn
    | cons x l ih => intro n hn hx; exact ih _ (by have := hx x (by simp); simp only [Nat.max_def]; split <;> omega) (fun y hy => hx y (by simp [hy]))
  exact this l 0 (by omega) h
set_option maxHeartbeats 1000000 in
theorem p_sheavy (l : List ByteArray) (hl : l.length ≤ 9223372036854775807) (hs : ∀ x ∈ l, x.size ≤ 1000) : PCalls Try.prog 37 [.lst .ro l.length (l.map .str)] (.int .i64 (heavyE l)) := by
  refine pcalls_of (by first | rfl | simp [free, free.frees, frees_str, frees_u8, frees_u16]) (by first | rfl | simp [free, free.frees, frees_str, frees_u8, frees_u16]) (acalls_of mixed J_set_Heavy_ok (Nat.le_of_ble_eq_true rfl) ?_); simp only [J_set_Heavy, wk,if_true,if_false,forall_const,implies_true,ne_eq,eq_self,Nat.reduceEqDiff,Nat.reduceAdd,Nat.reduceMul,Nat.reduceSub,Nat.reduceLeDiff,Nat.reduceLT,Int.reduceEq,Int.reduceLT,Int.reduceLE,Int.reduceAdd,Int.reduceSub,Int.reduceMul,Int.reduceNeg,Int.reduceNe,reduceCtorEq,Int.reduceToNat,↓reduceIte]
  refine W_loop (fun n fr h => ∃ i : Nat, i ≤ l.length ∧ n = l.length - i ∧ fr = [(3, .int .i64 (heavyE (l.take i))), (6, .lst .ro l.length (l.map .str)), (7, .int .i64 l.length), (8, .int .i64 i)]) l.length ⟨0, by omega, by omega, rfl⟩ ?_
  rintro n fr h ⟨i, hi, rfl, rfl⟩
  simp only [J_set_Heavy_j2, J_set_Heavy_j1, wk,if_true,if_false,forall_const,implies_true,ne_eq,eq_self,Nat.reduceEqDiff,Nat.reduceAdd,Nat.reduceMul,Nat.reduceSub,Nat.reduceLeDiff,Nat.reduceLT,Int.reduceEq,Int.reduceLT,Int.reduceLE,Int.reduceAdd,Int.reduceSub,Int.reduceMul,Int.reduceNeg,Int.reduceNe,reduceCtorEq,Int.reduceToNat,↓reduceIte]
  refine ⟨fun hlt => ?_, fun hge => int_eq ?_⟩
  · have hil : i < l.length := by omega
    have hx := hs l[i] (List.getElem_mem hil)
    (repeat (refine And.intro (by first | omega | exact inR_of (by omega) (by omega) | exact ⟨by omega, by omega⟩ | exact ⟨by omega, by omega, by omega⟩ | rfl) ?_))
    rw [show (i : Int).toNat = i by omega, drop_str hil]
    simp only [wk,if_true,if_false,forall_const,implies_true,ne_eq,eq_self,Nat.reduceEqDiff,Nat.reduceAdd,Nat.reduceMul,Nat.reduceSub,Nat.reduceLeDiff,Nat.reduceLT,Int.reduceEq,Int.reduceLT,Int.reduceLE,Int.reduceAdd,Int.reduceSub,Int.reduceMul,Int.reduceNeg,Int.reduceNe,reduceCtorEq,Int.reduceToNat,↓reduceIte]
    refine PCalls.use (p_wlen l[i] (by omega)) ?_; simp only [wk,if_true,if_false,forall_const,implies_true,ne_eq,eq_self,Nat.reduceEqDiff,Nat.reduceAdd,Nat.reduceMul,Nat.reduceSub,Nat.reduceLeDiff,Nat.reduceLT,Int.reduceEq,Int.reduceLT,Int.reduceLE,Int.reduceAdd,Int.reduceSub,Int.reduceMul,Int.reduceNeg,Int.reduceNe,reduceCtorEq,Int.reduceToNat,↓reduceIte]
    (repeat (refine And.intro (by first | omega | exact inR_of (by omega) (by omega) | exact ⟨by omega, by omega⟩ | exact ⟨by omega, by omega, by omega⟩ | rfl) ?_))
    refine ⟨l.length - (i + 1), by omega, i + 1, by omega, rfl, ?_⟩
    have : (if (heavyE (l.take i) : Int) < ((l[i].size / 2 : Nat) : Int) then ((l[i].size / 2 : Nat) : Int) else (heavyE (l.take i) : Int)) = ((max (heavyE (l.take i)) (l[i].size / 2) : Nat) : Int) := by
      rw [Nat.max_def]; split <;> split <;> omega
    rw [heavy_take hil, this]
    rfl
  · rw [List.take_of_length_le (by omega)]
set_option maxHeartbeats 1000000 in
theorem p_wof (l : List Nat) (hl : l.length ≤ 1000000) (ha : ∀ a ∈ l, a < 65536) : PCalls Try.prog 71 [.lst .ro l.length (u16s l)] (.str ⟨(atomBytes l).toArray⟩) := by
  refine pcalls_of (by first | rfl | simp [free, free.frees, frees_str, frees_u8, frees_u16]) (by first | rfl | simp [free, free.frees, frees_str, frees_u8, frees_u16]) (acalls_of mixed J_word_Of_ok (Nat.le_of_ble_eq_true rfl) ?_); simp only [J_word_Of, wk,if_true,if_false,forall_const,implies_true,ne_eq,eq_self,Nat.reduceEqDiff,Nat.reduceAdd,Nat.reduceMul,Nat.reduceSub,Nat.reduceLeDiff,Nat.reduceLT,Int.reduceEq,Int.reduceLT,Int.reduceLE,Int.reduceAdd,Int.reduceSub,Int.reduceMul,Int.reduceNeg,Int.reduceNe,reduceCtorEq,Int.reduceToNat,↓reduceIte]
  refine ⟨inR_of (by omega) (by omega), ⟨by omega, by omega, by omega⟩, ?_⟩
  refine W_loop (fun n fr h => ∃ i : Nat, i ≤ l.length ∧ n = l.length - i ∧ fr = [(3, .lst (.own 5) (2 * i) (u8s (atomBytes (l.take i)))), (10, .lst .ro l.length (u16s l)), (11, .int .i64 l.length), (12, .int .i64 i)]) l.length ⟨0, by omega, by omega, rfl⟩ ?_
  rintro n fr h ⟨i, hi, rfl, rfl⟩
  simp only [J_word_Of_j2, J_word_Of_j1, wk,if_true,if_false,forall_const,implies_true,ne_eq,eq_self,Nat.reduceEqDiff,Nat.reduceAdd,Nat.reduceMul,Nat.reduceSub,Nat.reduceLeDiff,Nat.reduceLT,Int.reduceEq,Int.reduceLT,Int.reduceLE,Int.reduceAdd,Int.reduceSub,Int.reduceMul,Int.reduceNeg,Int.reduceNe,reduceCtorEq,Int.reduceToNat,↓reduceIte]
  refine ⟨fun hlt => ?_, fun hge => ?_⟩
  · have hil : i < l.length := by omega
    have hx := ha l[i] (List.getElem_mem hil)
    (repeat (refine And.intro (by first | omega | exact inR_of (by omega) (by omega) | exact ⟨by omega, by omega⟩ | exact ⟨by omega, by omega, by omega⟩ | rfl) ?_))
    rw [show (i : Int).toNat = i by omega, u16s_drop hil]
    simp only [wk,if_true,if_false,forall_const,implies_true,ne_eq,eq_self,Nat.reduceEqDiff,Nat.reduceAdd,Nat.reduceMul,Nat.reduceSub,Nat.reduceLeDiff,Nat.reduceLT,Int.reduceEq,Int.reduceLT,Int.reduceLE,Int.reduceAdd,Int.reduceSub,Int.reduceMul,Int.reduceNeg,Int.reduceNe,reduceCtorEq,Int.reduceToNat,↓reduceIte]
    have e1 : IntKind.u8.wrap ((l[i] : Int).fdiv (2 ^ (min 8 IntKind.u16.bits))) = ((UInt8.ofNat (l[i] / 256)).toNat : Int) := by
      rw [show (min 8 IntKind.u16.bits) = 8 by decide, Int.fdiv_eq_ediv_of_nonneg _ (by omega), IntKind.wrap_u8]
      simp only [UInt8.toNat_ofNat']; omega
    have e2 : IntKind.u8.wrap (l[i] : Int) = ((UInt8.ofNat (l[i] % 256)).toNat : Int) := by
      rw [IntKind.wrap_u8]; simp only [UInt8.toNat_ofNat']; omega
    refine ⟨⟨by omega, by omega⟩, inR_of (by omega) (by omega), l.length - (i + 1), by omega, i + 1, by omega, rfl, ?_⟩
    have e3 : atomBytes (l.take (i + 1)) = atomBytes (l.take i) ++ [UInt8.ofNat (l[i] / 256), UInt8.ofNat (l[i] % 256)] := by
      unfold atomBytes; rw [List.take_succ_eq_append_getElem hil, List.flatMap_append]; simp
    rw [e1, e2, e3, ← u8s_app]
    rfl
  · obtain rfl : i = l.length := by omega
    rw [List.take_length]
    refine ⟨atomBytes l, rfl, ?_, rfl⟩
    have : ∀ l : List Nat, (atomBytes l).length = 2 * l.length := by
      intro l
      induction l with
      | nil => rfl
      | cons a l ih => simp only [atomBytes, List.flatMap_cons, List.length_append, List.length_cons, List.length_nil] at ih ⊢; omega
    rw [this]
end Go.Proofs.Ytajpibdchgflnaa
