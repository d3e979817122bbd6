/- Texts of one proof, laid together: Ka Kb Kc Kd Ea Eb. -/
import Derived.Test.YtmbijfcjfhdnjaaMQ10

/- Texts rune by rune; the small functions of token and its reference; stop. -/
namespace Go.Proofs.Ytmbijfcjfhdnjaa
set_option linter.unusedSimpArgs false
set_option linter.unusedVariables false
open Go.RowKit Go.Lib

theorem byte_get {s : ByteArray} {i : Nat} (h : i < s.size) : s.get! i = s.data.toList[i]'(by simpa using h) := by
  show s.get! i = _
  simp only [ByteArray.get!]
  rw [getElem!_pos s.data i h]
  simp
theorem dec_lt {s : ByteArray} {pos : Nat} (h : pos < s.data.toList.length) (ha : (s.data.toList[pos]).toNat < 128) : Utf8.decode s pos = ((s.data.toList[pos]).toNat, 1) := by
  have h' : pos < s.size := by simpa using h
  have e : s.get! (pos + 0) = s.data.toList[pos] := by rw [Nat.add_zero]; exact byte_get h'
  simp only [Utf8.decode, e, ha, if_true]
theorem dec_ge {s : ByteArray} {pos : Nat} (h : pos < s.data.toList.length) (ha : ¬ (s.data.toList[pos]).toNat < 128) :
    128 ≤ (Utf8.decode s pos).1 ∧ 1 ≤ (Utf8.decode s pos).2 ∧ pos + (Utf8.decode s pos).2 ≤ s.data.toList.length ∧ ∀ k (hk : k < s.data.toList.length), pos < k → k < pos + (Utf8.decode s pos).2 → 128 ≤ (s.data.toList[k]).toNat := by
  have h' : pos < s.size := by simpa using h
  have hl : s.data.toList.length = s.size := by simp
  have e : s.get! (pos + 0) = s.data.toList[pos] := by rw [Nat.add_zero]; exact byte_get h'
  have hb : (s.data.toList[pos]).toNat < 256 := (s.data.toList[pos]).toNat_lt
  have cont : ∀ k, (decide (pos + k < s.size) && ((s.get! (pos + k)).toNat / 64 == 2)) = true → pos + k < s.data.toList.length ∧ ∀ hk : pos + k < s.data.toList.length, 128 ≤ (s.data.toList[pos + k]).toNat := by
    intro k hk
    simp only [Bool.and_eq_true, decide_eq_true_eq, beq_iff_eq] at hk
    refine ⟨by omega, fun hk2 => ?_⟩
    have := hk.2
    rw [byte_get hk.1] at this
    omega
  have one : 128 ≤ Utf8.runeError := by decide
  simp only [Utf8.decode, e, ha, if_false]
  split
  · next c =>
    simp only [Bool.and_eq_true, beq_iff_eq] at c
    obtain ⟨c0, c1⟩ := c
    obtain ⟨g1, g2⟩ := cont 1 (by simpa using c1)
    split
    · next c2 => exact ⟨c2, by simp, by omega, fun k hk h1 h2 => by
        obtain rfl : k = pos + 1 := by omega
        exact g2 hk⟩
    · exact ⟨one, by decide, by omega, fun k hk h1 h2 => by omega⟩
  · split
    · next c =>
      simp only [Bool.and_eq_true, beq_iff_eq] at c
      obtain ⟨⟨c0, c1⟩, c2⟩ := c
      obtain ⟨g1, g2⟩ := cont 1 (by simpa using c1)
      obtain ⟨g3, g4⟩ := cont 2 (by simpa using c2)
      split
      · next c3 =>
        simp only [Bool.and_eq_true, decide_eq_true_eq] at c3
        exact ⟨by omega, by simp, by omega, fun k hk h1 h2 => by
          rcases (show k = pos + 1 ∨ k = pos + 2 by omega) with rfl | rfl
          · exact g2 hk
          · exact g4 hk⟩
      · exact ⟨one, by decide, by omega, fun k hk h1 h2 => by omega⟩
    · split
      · next c =>
        simp only [Bool.and_eq_true, beq_iff_eq] at c
        obtain ⟨⟨⟨c0, c1⟩, c2⟩, c3⟩ := c
        obtain ⟨g1, g2⟩ := cont 1 (by simpa using c1)
        obtain ⟨g3, g4⟩ := cont 2 (by simpa using c2)
        obtain ⟨g5, g6⟩ := cont 3 (by simpa using c3)
        split
        · next c3 =>
          simp only [Bool.and_eq_true, decide_eq_true_eq] at c3
          exact ⟨by omega, by simp, by omega, fun k hk h1 h2 => by
            rcases (show k = pos + 1 ∨ k = pos + 2 ∨ k = pos + 3 by omega) with rfl | rfl | rfl
            · exact g2 hk
            · exact g4 hk
            · exact g6 hk⟩
        · exact ⟨one, by decide, by omega, fun k hk h1 h2 => by omega⟩
      · exact ⟨one, by decide, by omega, fun k hk h1 h2 => by omega⟩
/-- kinds of runes -/
def digI (r : Int) : Bool := decide (48 ≤ r) && decide (r ≤ 57)
def lttI (r : Int) : Bool := decide (97 ≤ r) && decide (r ≤ 122)
def innI (r : Int) : Bool := lttI r || digI r || decide (r = 45) || decide (r = 46)
def freI (r : Int) : Bool := !innI r && decide (r ≠ 58) && (decide (r < 65) || decide (90 < r))
def notI (r : Int) : Bool := decide (r ≠ 10)
theorem hi_dig (r : Int) (h : 128 ≤ r) : digI r = digI 128 := by simp [digI]; omega
theorem hi_inn (r : Int) (h : 128 ≤ r) : innI r = innI 128 := by simp [innI, digI, lttI]; omega
theorem hi_fre (r : Int) (h : 128 ≤ r) : freI r = freI 128 := by simp [freI, innI, digI, lttI]; omega
theorem hi_not (r : Int) (h : 128 ≤ r) : notI r = notI 128 := by simp [notI]; omega
theorem p_digit (r : Int) : PCalls Try.prog 55 [.int .i32 r] (.bool (digI r)) := by
  refine pcalls_of (by first | rfl | simp [free, free.frees, frees_str, frees_u8, frees_u16]) (by first | rfl | simp [free, free.frees, frees_str, frees_u8, frees_u16]) (acalls_of mixed J_token_digit_ok (Nat.le_of_ble_eq_true rfl) ?_); simp only [J_token_digit, wk,if_true,if_false,forall_const,implies_true,ne_eq,eq_self,Nat.reduceEqDiff,Nat.reduceAdd,Nat.reduceMul,Nat.reduceSub,Nat.reduceLeDiff,Nat.reduceLT,Int.reduceEq,Int.reduceLT,Int.reduceLE,Int.reduceAdd,Int.reduceSub,Int.reduceMul,Int.reduceNeg,Int.reduceNe,reduceCtorEq,Int.reduceToNat,↓reduceIte]
  refine ⟨fun e => ?_, fun e => ?_⟩ <;> congr 1 <;> simp [digI, e]
theorem p_letter (r : Int) : PCalls Try.prog 56 [.int .i32 r] (.bool (lttI r)) := by
  refine pcalls_of (by first | rfl | simp [free, free.frees, frees_str, frees_u8, frees_u16]) (by first | rfl | simp [free, free.frees, frees_str, frees_u8, frees_u16]) (acalls_of mixed J_token_letter_ok (Nat.le_of_ble_eq_true rfl) ?_); simp only [J_token_letter, wk,if_true,if_false,forall_const,implies_true,ne_eq,eq_self,Nat.reduceEqDiff,Nat.reduceAdd,Nat.reduceMul,Nat.reduceSub,Nat.reduceLeDiff,Nat.reduceLT,Int.reduceEq,Int.reduceLT,Int.reduceLE,Int.reduceAdd,Int.reduceSub,Int.reduceMul,Int.reduceNeg,Int.reduceNe,reduceCtorEq,Int.reduceToNat,↓reduceIte]
  refine ⟨fun e => ?_, fun e => ?_⟩ <;> congr 1 <;> simp [lttI, e]
theorem p_rdigit (r : Int) : PCalls Try.prog 74 [.int .i32 r] (.bool (digI r)) := by
  refine pcalls_of (by first | rfl | simp [free, free.frees, frees_str, frees_u8, frees_u16]) (by first | rfl | simp [free, free.frees, frees_str, frees_u8, frees_u16]) (acalls_of mixed J_ref04_digit_ok (Nat.le_of_ble_eq_true rfl) ?_); simp only [J_ref04_digit, wk,if_true,if_false,forall_const,implies_true,ne_eq,eq_self,Nat.reduceEqDiff,Nat.reduceAdd,Nat.reduceMul,Nat.reduceSub,Nat.reduceLeDiff,Nat.reduceLT,Int.reduceEq,Int.reduceLT,Int.reduceLE,Int.reduceAdd,Int.reduceSub,Int.reduceMul,Int.reduceNeg,Int.reduceNe,reduceCtorEq,Int.reduceToNat,↓reduceIte]
  refine ⟨fun e => ?_, fun e => ?_⟩ <;> congr 1 <;> simp [digI, e]
theorem p_rletter (r : Int) : PCalls Try.prog 72 [.int .i32 r] (.bool (lttI r)) := by
  refine pcalls_of (by first | rfl | simp [free, free.frees, frees_str, frees_u8, frees_u16]) (by first | rfl | simp [free, free.frees, frees_str, frees_u8, frees_u16]) (acalls_of mixed J_ref04_letter_ok (Nat.le_of_ble_eq_true rfl) ?_); simp only [J_ref04_letter, wk,if_true,if_false,forall_const,implies_true,ne_eq,eq_self,Nat.reduceEqDiff,Nat.reduceAdd,Nat.reduceMul,Nat.reduceSub,Nat.reduceLeDiff,Nat.reduceLT,Int.reduceEq,Int.reduceLT,Int.reduceLE,Int.reduceAdd,Int.reduceSub,Int.reduceMul,Int.reduceNeg,Int.reduceNe,reduceCtorEq,Int.reduceToNat,↓reduceIte]
  refine ⟨fun e => ?_, fun e => ?_⟩ <;> congr 1 <;> simp [lttI, e]
theorem p_not (r : Int) : PCalls Try.prog 33 [.int .i32 r] (.bool (notI r)) := by
  refine pcalls_of (by first | rfl | simp [free, free.frees, frees_str, frees_u8, frees_u16]) (by first | rfl | simp [free, free.frees, frees_str, frees_u8, frees_u16]) (acalls_of mixed J_token_All_1_ok (Nat.le_of_ble_eq_true rfl) ?_); simp only [J_token_All_1, wk,if_true,if_false,forall_const,implies_true,ne_eq,eq_self,Nat.reduceEqDiff,Nat.reduceAdd,Nat.reduceMul,Nat.reduceSub,Nat.reduceLeDiff,Nat.reduceLT,Int.reduceEq,Int.reduceLT,Int.reduceLE,Int.reduceAdd,Int.reduceSub,Int.reduceMul,Int.reduceNeg,Int.reduceNe,reduceCtorEq,Int.reduceToNat,↓reduceIte]
  rfl
theorem p_inName (r : Int) : PCalls Try.prog 76 [.int .i32 r] (.bool (innI r)) := by
  refine pcalls_of (by first | rfl | simp [free, free.frees, frees_str, frees_u8, frees_u16]) (by first | rfl | simp [free, free.frees, frees_str, frees_u8, frees_u16]) (acalls_of mixed J_token_inName_ok (Nat.le_of_ble_eq_true rfl) ?_); simp only [J_token_inName, wk,if_true,if_false,forall_const,implies_true,ne_eq,eq_self,Nat.reduceEqDiff,Nat.reduceAdd,Nat.reduceMul,Nat.reduceSub,Nat.reduceLeDiff,Nat.reduceLT,Int.reduceEq,Int.reduceLT,Int.reduceLE,Int.reduceAdd,Int.reduceSub,Int.reduceMul,Int.reduceNeg,Int.reduceNe,reduceCtorEq,Int.reduceToNat,↓reduceIte]
  have q := p_digit r
  refine PCalls.use (p_letter r) ?_; simp only [wk,if_true,if_false,forall_const,implies_true,ne_eq,eq_self,Nat.reduceEqDiff,Nat.reduceAdd,Nat.reduceMul,Nat.reduceSub,Nat.reduceLeDiff,Nat.reduceLT,Int.reduceEq,Int.reduceLT,Int.reduceLE,Int.reduceAdd,Int.reduceSub,Int.reduceMul,Int.reduceNeg,Int.reduceNe,reduceCtorEq,Int.reduceToNat,↓reduceIte]
  repeat' (first | (refine PCalls.use q ?_; simp only [wk,if_true,if_false,forall_const,implies_true,ne_eq,eq_self,Nat.reduceEqDiff,Nat.reduceAdd,Nat.reduceMul,Nat.reduceSub,Nat.reduceLeDiff,Nat.reduceLT,Int.reduceEq,Int.reduceLT,Int.reduceLE,Int.reduceAdd,Int.reduceSub,Int.reduceMul,Int.reduceNeg,Int.reduceNe,reduceCtorEq,Int.reduceToNat,↓reduceIte]) | (refine And.intro ?_ ?_) | intro _)
  all_goals (congr 1; simp_all [innI])
theorem p_rinName (r : Int) : PCalls Try.prog 81 [.int .i32 r] (.bool (innI r)) := by
  refine pcalls_of (by first | rfl | simp [free, free.frees, frees_str, frees_u8, frees_u16]) (by first | rfl | simp [free, free.frees, frees_str, frees_u8, frees_u16]) (acalls_of mixed J_ref04_inName_ok (Nat.le_of_ble_eq_true rfl) ?_); simp only [J_ref04_inName, wk,if_true,if_false,forall_const,implies_true,ne_eq,eq_self,Nat.reduceEqDiff,Nat.reduceAdd,Nat.reduceMul,Nat.reduceSub,Nat.reduceLeDiff,Nat.reduceLT,Int.reduceEq,Int.reduceLT,Int.reduceLE,Int.reduceAdd,Int.reduceSub,Int.reduceMul,Int.reduceNeg,Int.reduceNe,reduceCtorEq,Int.reduceToNat,↓reduceIte]
  have q := p_rdigit r
  refine PCalls.use (p_rletter r) ?_; simp only [wk,if_true,if_false,forall_const,implies_true,ne_eq,eq_self,Nat.reduceEqDiff,Nat.reduceAdd,Nat.reduceMul,Nat.reduceSub,Nat.reduceLeDiff,Nat.reduceLT,Int.reduceEq,Int.reduceLT,Int.reduceLE,Int.reduceAdd,Int.reduceSub,Int.reduceMul,Int.reduceNeg,Int.reduceNe,reduceCtorEq,Int.reduceToNat,↓reduceIte]
  repeat' (first | (refine PCalls.use q ?_; simp only [wk,if_true,if_false,forall_const,implies_true,ne_eq,eq_self,Nat.reduceEqDiff,Nat.reduceAdd,Nat.reduceMul,Nat.reduceSub,Nat.reduceLeDiff,Nat.reduceLT,Int.reduceEq,Int.reduceLT,Int.reduceLE,Int.reduceAdd,Int.reduceSub,Int.reduceMul,Int.reduceNeg,Int.reduceNe,reduceCtorEq,Int.reduceToNat,↓reduceIte]) | (refine And.intro ?_ ?_) | intro _)
  all_goals (congr 1; simp_all [innI])
theorem p_free (r : Int) : PCalls Try.prog 58 [.int .i32 r] (.bool (freI r)) := by
  refine pcalls_of (by first | rfl | simp [free, free.frees, frees_str, frees_u8, frees_u16]) (by first | rfl | simp [free, free.frees, frees_str, frees_u8, frees_u16]) (acalls_of mixed J_token_free_ok (Nat.le_of_ble_eq_true rfl) ?_); simp only [J_token_free, wk,if_true,if_false,forall_const,implies_true,ne_eq,eq_self,Nat.reduceEqDiff,Nat.reduceAdd,Nat.reduceMul,Nat.reduceSub,Nat.reduceLeDiff,Nat.reduceLT,Int.reduceEq,Int.reduceLT,Int.reduceLE,Int.reduceAdd,Int.reduceSub,Int.reduceMul,Int.reduceNeg,Int.reduceNe,reduceCtorEq,Int.reduceToNat,↓reduceIte]
  refine PCalls.use (p_inName r) ?_; simp only [wk,if_true,if_false,forall_const,implies_true,ne_eq,eq_self,Nat.reduceEqDiff,Nat.reduceAdd,Nat.reduceMul,Nat.reduceSub,Nat.reduceLeDiff,Nat.reduceLT,Int.reduceEq,Int.reduceLT,Int.reduceLE,Int.reduceAdd,Int.reduceSub,Int.reduceMul,Int.reduceNeg,Int.reduceNe,reduceCtorEq,Int.reduceToNat,↓reduceIte]
  repeat' (first | (refine And.intro ?_ ?_) | intro _)
  all_goals (congr 1; unfold freI; simp_all; try omega)
def keyW (s : ByteArray) : Int := if s = ⟨#[97, 110, 100]⟩ then 2 else if s = ⟨#[102, 111, 114]⟩ then 3 else if s = ⟨#[97, 115]⟩ then 5 else 0
theorem p_keyword (s : ByteArray) : PCalls Try.prog 60 [.str s] (.int .i64 (keyW s)) := by
  refine pcalls_of (by first | rfl | simp [free, free.frees, frees_str, frees_u8, frees_u16]) (by first | rfl | simp [free, free.frees, frees_str, frees_u8, frees_u16]) (acalls_of mixed J_token_keyword_ok (Nat.le_of_ble_eq_true rfl) ?_); simp only [J_token_keyword, wk,if_true,if_false,forall_const,implies_true,ne_eq,eq_self,Nat.reduceEqDiff,Nat.reduceAdd,Nat.reduceMul,Nat.reduceSub,Nat.reduceLeDiff,Nat.reduceLT,Int.reduceEq,Int.reduceLT,Int.reduceLE,Int.reduceAdd,Int.reduceSub,Int.reduceMul,Int.reduceNeg,Int.reduceNe,reduceCtorEq,Int.reduceToNat,↓reduceIte]
  repeat' (first | (refine And.intro ?_ ?_) | intro _)
  all_goals (congr 1; simp_all [keyW])
theorem p_rkeyword (s : ByteArray) : PCalls Try.prog 50 [.str s] (.int .i64 (keyW s)) := by
  refine pcalls_of (by first | rfl | simp [free, free.frees, frees_str, frees_u8, frees_u16]) (by first | rfl | simp [free, free.frees, frees_str, frees_u8, frees_u16]) (acalls_of mixed J_ref04_Keyword_ok (Nat.le_of_ble_eq_true rfl) ?_); simp only [J_ref04_Keyword, wk,if_true,if_false,forall_const,implies_true,ne_eq,eq_self,Nat.reduceEqDiff,Nat.reduceAdd,Nat.reduceMul,Nat.reduceSub,Nat.reduceLeDiff,Nat.reduceLT,Int.reduceEq,Int.reduceLT,Int.reduceLE,Int.reduceAdd,Int.reduceSub,Int.reduceMul,Int.reduceNeg,Int.reduceNe,reduceCtorEq,Int.reduceToNat,↓reduceIte]
  repeat' (first | (refine And.intro ?_ ?_) | intro _)
  all_goals (congr 1; simp_all [keyW])
def aheW (s : ByteArray) : Int := if s = ⟨#[107, 101, 121]⟩ then 1 else if s = ⟨#[99, 104, 97, 110]⟩ then 2 else if s = ⟨#[103, 114, 111, 117, 112]⟩ then 4 else if s = ⟨#[114, 111, 108, 101]⟩ then 5 else 0
theorem p_ahead (s : ByteArray) : PCalls Try.prog 77 [.str s] (.int .i64 (aheW s)) := by
  refine pcalls_of (by first | rfl | simp [free, free.frees, frees_str, frees_u8, frees_u16]) (by first | rfl | simp [free, free.frees, frees_str, frees_u8, frees_u16]) (acalls_of mixed J_token_ahead_ok (Nat.le_of_ble_eq_true rfl) ?_); simp only [J_token_ahead, wk,if_true,if_false,forall_const,implies_true,ne_eq,eq_self,Nat.reduceEqDiff,Nat.reduceAdd,Nat.reduceMul,Nat.reduceSub,Nat.reduceLeDiff,Nat.reduceLT,Int.reduceEq,Int.reduceLT,Int.reduceLE,Int.reduceAdd,Int.reduceSub,Int.reduceMul,Int.reduceNeg,Int.reduceNe,reduceCtorEq,Int.reduceToNat,↓reduceIte]
  repeat' (first | (refine And.intro ?_ ?_) | intro _)
  all_goals (congr 1; simp_all [aheW])
def preW (k : Int) : ByteArray := if k = 1 then ⟨#[107, 101, 121, 58]⟩ else if k = 2 then ⟨#[99, 104, 97, 110, 58]⟩ else if k = 4 then ⟨#[103, 114, 111, 117, 112, 58]⟩ else if k = 5 then ⟨#[114, 111, 108, 101, 58]⟩ else ⟨#[]⟩
theorem p_prefix (k : Int) : PCalls Try.prog 51 [.int .i64 k] (.str (preW k)) := by
  refine pcalls_of (by first | rfl | simp [free, free.frees, frees_str, frees_u8, frees_u16]) (by first | rfl | simp [free, free.frees, frees_str, frees_u8, frees_u16]) (acalls_of mixed J_ref04_Prefix_ok (Nat.le_of_ble_eq_true rfl) ?_); simp only [J_ref04_Prefix, wk,if_true,if_false,forall_const,implies_true,ne_eq,eq_self,Nat.reduceEqDiff,Nat.reduceAdd,Nat.reduceMul,Nat.reduceSub,Nat.reduceLeDiff,Nat.reduceLT,Int.reduceEq,Int.reduceLT,Int.reduceLE,Int.reduceAdd,Int.reduceSub,Int.reduceMul,Int.reduceNeg,Int.reduceNe,reduceCtorEq,Int.reduceToNat,↓reduceIte]
  repeat' (first | (refine And.intro ?_ ?_) | intro _)
  all_goals (congr 1; simp_all [preW])
/-- how many bytes from the beginning are such -/
def stopN (q : Int → Bool) (l : List UInt8) : Nat := (l.takeWhile fun b => q b.toNat).length
theorem tw_len {α : Type} {f : α → Bool} : ∀ {l : List α} {p : Nat}, p ≤ l.length → (∀ b ∈ l.take p, f b = true) → (∀ h : p < l.length, f l[p] = false) → (l.takeWhile f).length = p
  | [], p, h, _, _ => by simp at h; simp [h]
  | b :: l, 0, _, _, h => by
    have := h (by simp)
    simp at this
    simp [List.takeWhile_cons, this]
  | b :: l, p + 1, h, h1, h2 => by
    have hb := h1 b (by simp)
    have := tw_len (f := f) (l := l) (p := p) (by simpa using h) (fun x hx => h1 x (by simp [hx])) (fun hp => by have h3 := h2 (by simp; omega); rwa [List.getElem_cons_succ] at h3)
    simp [List.takeWhile_cons, hb, this]
set_option maxRecDepth 100000 in
set_option maxHeartbeats 4000000 in
theorem p_stop {f : FuncId} {q : Int → Bool} (hf : ∀ r : Int, PCalls Try.prog f [.int .i32 r] (.bool (q r))) (hi : ∀ r, 128 ≤ r → q r = q 128) (s : ByteArray) (k : Nat) (hs : s.size ≤ 1000000) (hk : k ≤ s.size) :
    PCalls Try.prog 32 [.str s, .int .i64 k, .fn f []] (.int .i64 (k + stopN q (s.data.toList.drop k))) := by
  refine pcalls_of (by first | rfl | simp [free, free.frees, frees_str, frees_u8, frees_u16]) (by first | rfl | simp [free, free.frees, frees_str, frees_u8, frees_u16]) (acalls_of mixed J_token_stop_ok (Nat.le_of_ble_eq_true rfl) ?_); simp only [J_token_stop, wk,if_true,if_false,forall_const,implies_true,ne_eq,eq_self,Nat.reduceEqDiff,Nat.reduceAdd,Nat.reduceMul,Nat.reduceSub,Nat.reduceLeDiff,Nat.reduceLT,Int.reduceEq,Int.reduceLT,Int.reduceLE,Int.reduceAdd,Int.reduceSub,Int.reduceMul,Int.reduceNeg,Int.reduceNe,reduceCtorEq,Int.reduceToNat,↓reduceIte]
  refine ⟨⟨by omega, by omega⟩, ?_⟩
  obtain ⟨S, hS⟩ : ∃ S, S = s.extract k s.size := ⟨_, rfl⟩
  have hl : S.data.toList = s.data.toList.drop k := by rw [hS]; simp only [ByteArray.data_extract, Array.toList_extract, List.extract_eq_take_drop]; rw [List.take_of_length_le (by simp)]
  have hSz : S.size ≤ 1000000 := by rw [hS]; simp; omega
  rw [← hl]
  simp only [Int.toNat_natCast, ← hS]
  refine W_loop (fun n fr h' => ∃ p : Nat, p ≤ S.data.toList.length ∧ n = S.data.toList.length - p ∧ fr = [(0, .str s), (1, .int .i64 k), (2, .fn f []), (12, .itr S p)] ∧ ∀ b ∈ S.data.toList.take p, q b.toNat = true) S.data.toList.length ⟨0, by omega, by omega, rfl, by simp⟩ ?_
  rintro n fr h' ⟨p, hp, rfl, rfl, hall⟩
  have hlen : S.data.toList.length = S.size := by simp
  simp only [J_token_stop_j2, wk,if_true,if_false,forall_const,implies_true,ne_eq,eq_self,Nat.reduceEqDiff,Nat.reduceAdd,Nat.reduceMul,Nat.reduceSub,Nat.reduceLeDiff,Nat.reduceLT,Int.reduceEq,Int.reduceLT,Int.reduceLE,Int.reduceAdd,Int.reduceSub,Int.reduceMul,Int.reduceNeg,Int.reduceNe,reduceCtorEq,Int.reduceToNat,↓reduceIte]
  refine ⟨fun hlt => ?_, fun hge => ?_⟩
  · have hpl : p < S.data.toList.length := by omega
    have hfr := hf ((Utf8.decode S p).1 : Nat)
    have hstop : q (Utf8.decode S p).1 = q (S.data.toList[p]).toNat := by
      by_cases ha : (S.data.toList[p]).toNat < 128
      · rw [dec_lt hpl ha]
      · rw [hi _ (by have := (dec_ge hpl ha).1; omega), hi (S.data.toList[p]).toNat (by omega)]
    refine PCalls.use (hfr) ?_; simp only [wk,if_true,if_false,forall_const,implies_true,ne_eq,eq_self,Nat.reduceEqDiff,Nat.reduceAdd,Nat.reduceMul,Nat.reduceSub,Nat.reduceLeDiff,Nat.reduceLT,Int.reduceEq,Int.reduceLT,Int.reduceLE,Int.reduceAdd,Int.reduceSub,Int.reduceMul,Int.reduceNeg,Int.reduceNe,reduceCtorEq,Int.reduceToNat,↓reduceIte]
    refine ⟨fun e => ?_, fun e => ?_⟩
    · have h1 : stopN q S.data.toList = p := tw_len hp hall (fun _ => by rw [← hstop]; exact e)
      rw [h1]
      exact ⟨inR_of (by omega) (by omega), rfl⟩
    · by_cases ha : (S.data.toList[p]).toNat < 128
      · rw [dec_lt hpl ha] at e ⊢
        refine ⟨S.data.toList.length - (p + 1), by omega, p + 1, by omega, rfl, rfl, fun b hb => ?_⟩
        rw [List.take_succ_eq_append_getElem hpl] at hb
        rcases List.mem_append.1 hb with hb | hb
        · exact hall b hb
        · simp at hb; subst hb; exact e
      · obtain ⟨d1, d2, d3, d4⟩ := dec_ge hpl ha
        refine ⟨S.data.toList.length - (p + (Utf8.decode S p).2), by omega, p + (Utf8.decode S p).2, by omega, rfl, rfl, fun b hb => ?_⟩
        obtain ⟨i, hi1, rfl⟩ := List.mem_iff_getElem.1 hb
        simp only [List.length_take] at hi1
        rw [List.getElem_take]
        rcases Nat.lt_trichotomy i p with h1 | h1 | h1
        · exact hall _ (List.mem_iff_getElem.2 ⟨i, by simp; omega, by rw [List.getElem_take]⟩)
        · subst h1; rw [← hstop]; exact e
        · have h2 := d4 i (by omega) h1 (by omega)
          rw [hi _ (by omega)] at e
          rw [hi _ (by omega)]; exact e
  · rw [List.take_of_length_le (by omega)] at hall
    simp only [J_token_stop_j1, wk,if_true,if_false,forall_const,implies_true,ne_eq,eq_self,Nat.reduceEqDiff,Nat.reduceAdd,Nat.reduceMul,Nat.reduceSub,Nat.reduceLeDiff,Nat.reduceLT,Int.reduceEq,Int.reduceLT,Int.reduceLE,Int.reduceAdd,Int.reduceSub,Int.reduceMul,Int.reduceNeg,Int.reduceNe,reduceCtorEq,Int.reduceToNat,↓reduceIte]
    have h1 : stopN q S.data.toList = S.data.toList.length := tw_len (Nat.le_refl _) (by rw [List.take_length]; exact hall) (fun h => by omega)
    rw [h1, hl, List.length_drop]
    congr 1
    simp only [Array.length_toList, ByteArray.size_data]
    omega
end Go.Proofs.Ytmbijfcjfhdnjaa

/- The reference's Rune, fine, name, number, begins, isSign. -/
namespace Go.Proofs.Ytmbijfcjfhdnjaa
set_option linter.unusedSimpArgs false
set_option linter.unusedVariables false
open Go.RowKit Go.Lib

/-- the rune at a place, and the place behind it -/
def runeR (s : ByteArray) (p : Nat) : Int := if p < s.size then (Utf8.decode s p).1 else -1
def runeN (s : ByteArray) (p : Nat) : Nat := if p < s.size then p + (Utf8.decode s p).2 else s.size
/-- a place where a rune may begin -/
def atB (s : ByteArray) (p : Nat) : Prop := p = 0 ∨ ∃ h : p - 1 < s.data.toList.length, (s.data.toList[p - 1]).toNat < 128
theorem len_size (s : ByteArray) : s.data.toList.length = s.size := by simp
theorem step_le {s : ByteArray} {p a : Nat} (hb : atB s a) (hp : p < a) (ha : a ≤ s.size) : p + (Utf8.decode s p).2 ≤ a := by
  have hl := len_size s
  have hpl : p < s.data.toList.length := by omega
  rcases hb with hb | ⟨h, hb⟩
  · omega
  · by_cases h1 : (s.data.toList[p]).toNat < 128
    · rw [dec_lt hpl h1]; show p + 1 ≤ a; omega
    · obtain ⟨d1, d2, d3, d4⟩ := dec_ge hpl h1
      rcases Nat.lt_or_ge a (p + (Utf8.decode s p).2) with h2 | h2
      · by_cases h3 : a - 1 = p
        · simp only [h3] at hb; omega
        · have := d4 (a - 1) h (by omega) (by omega)
          omega
      · exact h2
theorem step_one {s : ByteArray} {p : Nat} (hp : p < s.size) : 1 ≤ (Utf8.decode s p).2 ∧ p + (Utf8.decode s p).2 ≤ s.size := by
  have hl := len_size s
  have hpl : p < s.data.toList.length := by omega
  by_cases h1 : (s.data.toList[p]).toNat < 128
  · rw [dec_lt hpl h1]; exact ⟨Nat.le_refl _, by show p + 1 ≤ s.size; omega⟩
  · obtain ⟨d1, d2, d3, d4⟩ := dec_ge hpl h1
    exact ⟨d2, by omega⟩
set_option maxRecDepth 100000 in
set_option maxHeartbeats 4000000 in
theorem p_rune (s : ByteArray) (a : Nat) (hs : s.size ≤ 1000000) (ha : a ≤ s.size) (hb : atB s a) :
    PCalls Try.prog 71 [.str s, .int .i64 a] (.tup [.int .i32 (runeR s a), .int .i64 (runeN s a)]) := by
  refine pcalls_of (by first | rfl | simp [free, free.frees, frees_str, frees_u8, frees_u16]) (by first | rfl | simp [free, free.frees, frees_str, frees_u8, frees_u16]) (acalls_of mixed J_ref04_Rune_ok (Nat.le_of_ble_eq_true rfl) ?_); simp only [J_ref04_Rune, wk,if_true,if_false,forall_const,implies_true,ne_eq,eq_self,Nat.reduceEqDiff,Nat.reduceAdd,Nat.reduceMul,Nat.reduceSub,Nat.reduceLeDiff,Nat.reduceLT,Int.reduceEq,Int.reduceLT,Int.reduceLE,Int.reduceAdd,Int.reduceSub,Int.reduceMul,Int.reduceNeg,Int.reduceNe,reduceCtorEq,Int.reduceToNat,↓reduceIte]
  refine W_loop (fun n fr h' => ∃ (p : Nat) (g : Int), p ≤ s.size ∧ n = s.size - p ∧ fr = [(0, .str s), (1, .int .i64 a), (6, .int .i32 g), (10, .itr s p)] ∧ (p ≤ a → g = -1) ∧ (a < p → g = (Utf8.decode s a).1 ∧ p = a + (Utf8.decode s a).2)) s.size ⟨0, -1, by omega, by omega, rfl, fun _ => rfl, fun h => by omega⟩ ?_
  rintro n fr h' ⟨p, g, hp, rfl, rfl, hg1, hg2⟩
  simp only [J_ref04_Rune_j3, J_ref04_Rune_j2, wk,if_true,if_false,forall_const,implies_true,ne_eq,eq_self,Nat.reduceEqDiff,Nat.reduceAdd,Nat.reduceMul,Nat.reduceSub,Nat.reduceLeDiff,Nat.reduceLT,Int.reduceEq,Int.reduceLT,Int.reduceLE,Int.reduceAdd,Int.reduceSub,Int.reduceMul,Int.reduceNeg,Int.reduceNe,reduceCtorEq,Int.reduceToNat,↓reduceIte]
  refine ⟨fun hlt => ?_, fun hge => ?_⟩
  · have hone := step_one hlt
    refine ⟨fun e1 => ?_, fun e1 => ?_⟩
    · have : p = a := by omega
      subst this
      refine ⟨fun h => by omega, fun _ => ⟨s.size - (p + (Utf8.decode s p).2), by omega, p + (Utf8.decode s p).2, _, by omega, rfl, rfl, fun h => by omega, fun _ => ⟨rfl, rfl⟩⟩⟩
    · refine ⟨fun e2 => ?_, fun e2 => ?_⟩
      · obtain ⟨k1, k2⟩ := hg2 (by omega)
        have ha2 : a < s.size := by omega
        unfold runeR runeN
        rw [if_pos ha2, if_pos ha2, k1, k2]
      · have hpa : p < a := by omega
        have hle := step_le hb hpa ha
        refine ⟨s.size - (p + (Utf8.decode s p).2), by omega, p + (Utf8.decode s p).2, _, by omega, rfl, rfl, fun _ => hg1 (by omega), fun h => by omega⟩
  · simp only [J_ref04_Rune_j1, wk,if_true,if_false,forall_const,implies_true,ne_eq,eq_self,Nat.reduceEqDiff,Nat.reduceAdd,Nat.reduceMul,Nat.reduceSub,Nat.reduceLeDiff,Nat.reduceLT,Int.reduceEq,Int.reduceLT,Int.reduceLE,Int.reduceAdd,Int.reduceSub,Int.reduceMul,Int.reduceNeg,Int.reduceNe,reduceCtorEq,Int.reduceToNat,↓reduceIte]
    have hps : p = s.size := by omega
    unfold runeR runeN
    by_cases ha2 : a < s.size
    · obtain ⟨k1, k2⟩ := hg2 (by omega)
      rw [if_pos ha2, if_pos ha2, k1, ← k2, hps]
    · rw [if_neg ha2, if_neg ha2, hg1 (by omega)]
/-- may these bytes stand behind a name? -/
def fineL : List UInt8 → Bool
  | [] => true
  | b :: _ => freI b.toNat
theorem rune_fre {q : Int → Bool} (hi : ∀ r, 128 ≤ r → q r = q 128) {s : ByteArray} {a : Nat} (h : a < s.data.toList.length) : q (runeR s a) = q (s.data.toList[a]).toNat := by
  have hl := len_size s
  unfold runeR
  rw [if_pos (by omega)]
  by_cases ha : (s.data.toList[a]).toNat < 128
  · rw [dec_lt h ha]
  · rw [hi _ (by have := (dec_ge h ha).1; omega), hi (s.data.toList[a]).toNat (by omega)]
theorem fine_eq (s : ByteArray) (a : Nat) (ha : a ≤ s.size) : freI (runeR s a) = fineL (s.data.toList.drop a) := by
  have hl := len_size s
  by_cases h : a < s.data.toList.length
  · rw [rune_fre hi_fre h, List.drop_eq_getElem_cons h]; rfl
  · rw [List.drop_of_length_le (by omega)]
    unfold runeR
    rw [if_neg (by omega)]
    rfl
theorem p_fine (s : ByteArray) (a : Nat) (hs : s.size ≤ 1000000) (ha : a ≤ s.size) (hb : atB s a) :
    PCalls Try.prog 73 [.str s, .int .i64 a] (.bool (fineL (s.data.toList.drop a))) := by
  refine pcalls_of (by first | rfl | simp [free, free.frees, frees_str, frees_u8, frees_u16]) (by first | rfl | simp [free, free.frees, frees_str, frees_u8, frees_u16]) (acalls_of mixed J_ref04_fine_ok (Nat.le_of_ble_eq_true rfl) ?_); simp only [J_ref04_fine, wk,if_true,if_false,forall_const,implies_true,ne_eq,eq_self,Nat.reduceEqDiff,Nat.reduceAdd,Nat.reduceMul,Nat.reduceSub,Nat.reduceLeDiff,Nat.reduceLT,Int.reduceEq,Int.reduceLT,Int.reduceLE,Int.reduceAdd,Int.reduceSub,Int.reduceMul,Int.reduceNeg,Int.reduceNe,reduceCtorEq,Int.reduceToNat,↓reduceIte]
  refine PCalls.use (p_rune s a hs ha hb) ?_; simp only [wk,if_true,if_false,forall_const,implies_true,ne_eq,eq_self,Nat.reduceEqDiff,Nat.reduceAdd,Nat.reduceMul,Nat.reduceSub,Nat.reduceLeDiff,Nat.reduceLT,Int.reduceEq,Int.reduceLT,Int.reduceLE,Int.reduceAdd,Int.reduceSub,Int.reduceMul,Int.reduceNeg,Int.reduceNe,reduceCtorEq,Int.reduceToNat,↓reduceIte]
  refine PCalls.use (p_rinName (runeR s a)) ?_; simp only [wk,if_true,if_false,forall_const,implies_true,ne_eq,eq_self,Nat.reduceEqDiff,Nat.reduceAdd,Nat.reduceMul,Nat.reduceSub,Nat.reduceLeDiff,Nat.reduceLT,Int.reduceEq,Int.reduceLT,Int.reduceLE,Int.reduceAdd,Int.reduceSub,Int.reduceMul,Int.reduceNeg,Int.reduceNe,reduceCtorEq,Int.reduceToNat,↓reduceIte]
  have e := fine_eq s a ha
  rw [← e]
  repeat' (first | (refine And.intro ?_ ?_) | intro _)
  all_goals (congr 1; unfold freI; simp_all; try omega)
/-- a name's length at the beginning of bytes -/
def nameL (l : List UInt8) : Option Nat := match l with
  | [] => none
  | b :: r => if lttI b.toNat = true ∧ stopN innI (b :: r) ≤ 24 ∧ fineL ((b :: r).drop (stopN innI (b :: r))) = true then some (stopN innI (b :: r)) else none
theorem stopN_le (q : Int → Bool) (l : List UInt8) : stopN q l ≤ l.length := by
  unfold stopN
  exact (List.takeWhile_prefix _).length_le
theorem stopN_at {q : Int → Bool} : ∀ {l : List UInt8} {i : Nat} (h : i < l.length), i < stopN q l → q (l[i]).toNat = true
  | [], i, h, _ => by simp at h
  | b :: l, i, h, hi => by
    by_cases hb : q b.toNat = true
    · have e : stopN q (b :: l) = stopN q l + 1 := by unfold stopN; simp [List.takeWhile_cons, hb]
      cases i with
      | zero => exact hb
      | succ i =>
        rw [List.getElem_cons_succ]
        exact stopN_at (by simpa using h) (by omega)
    · have e : stopN q (b :: l) = 0 := by unfold stopN; simp [List.takeWhile_cons, hb]
      omega
theorem stopN_end {q : Int → Bool} : ∀ {l : List UInt8} (h : stopN q l < l.length), q (l[stopN q l]).toNat = false
  | [], h => by simp at h
  | b :: l, h => by
    by_cases hb : q b.toNat = true
    · have e : stopN q (b :: l) = stopN q l + 1 := by unfold stopN; simp [List.takeWhile_cons, hb]
      have := stopN_end (q := q) (l := l) (by rw [e] at h; simpa using h)
      simp only [e, List.getElem_cons_succ]
      exact this
    · have e : stopN q (b :: l) = 0 := by unfold stopN; simp [List.takeWhile_cons, hb]
      simp only [e, List.getElem_cons_zero]
      simpa using hb
/-- behind what is such and not beyond ASCII a rune may begin -/
theorem atB_stop {q : Int → Bool} (hq : ∀ r, 128 ≤ r → q r = false) {s : ByteArray} {a : Nat} (ha : a ≤ s.size) (hb : atB s a) (n : Nat) (hn : n ≤ stopN q (s.data.toList.drop a)) : atB s (a + n) := by
  have hl := len_size s
  have hle := stopN_le q (s.data.toList.drop a)
  rw [List.length_drop] at hle
  cases n with
  | zero => exact hb
  | succ n =>
    right
    refine ⟨by omega, ?_⟩
    have h1 : n < (s.data.toList.drop a).length := by rw [List.length_drop]; omega
    have := stopN_at (q := q) h1 (by omega)
    rw [List.getElem_drop] at this
    have e : a + (n + 1) - 1 = a + n := by omega
    simp only [e]
    by_cases hc : (s.data.toList[a + n]).toNat < 128
    · exact hc
    · rw [hq _ (by omega)] at this; cases this
theorem lo_inn (r : Int) (h : 128 ≤ r) : innI r = false := by rw [hi_inn r h]; rfl
theorem lo_dig (r : Int) (h : 128 ≤ r) : digI r = false := by rw [hi_dig r h]; rfl
theorem hi_ltt (r : Int) (h : 128 ≤ r) : lttI r = lttI 128 := by simp [lttI]; omega
theorem byte_at {s : ByteArray} {i : Nat} (h : i < s.data.toList.length) : byteAt s i = (s.data.toList[i]).toNat := by
  unfold byteAt; rw [List.getElem?_eq_getElem h]; rfl
theorem conv_u8 (b : UInt8) : IntKind.i32.wrap (b.toNat : Int) = b.toNat := by
  have := b.toNat_lt
  rw [IntKind.wrap_i32]; omega
/-- what a loop over such bytes has seen -/
theorem stop_more {q : Int → Bool} {l : List UInt8} {n : Nat} (h : n < l.length) (hn : n ≤ stopN q l) (hq : q (l[n]).toNat = true) : n + 1 ≤ stopN q l := by
  rcases Nat.lt_or_ge n (stopN q l) with h1 | h1
  · exact h1
  · have e : stopN q l = n := by omega
    have := stopN_end (q := q) (l := l) (by omega)
    simp only [e] at this
    rw [hq] at this; cases this
theorem stop_done {q : Int → Bool} {l : List UInt8} {n : Nat} (h : n < l.length) (hn : n ≤ stopN q l) (hq : q (l[n]).toNat = false) : stopN q l = n := by
  rcases Nat.lt_or_ge n (stopN q l) with h1 | h1
  · have := stopN_at h h1; rw [hq] at this; cases this
  · omega
def rnameV (s : ByteArray) (a : Nat) : AV := match nameL (s.data.toList.drop a) with
  | some n => .tup [.str (s.extract a (a + n)), .int .i64 (a + n : Nat)]
  | none => .tup [.str ⟨#[]⟩, .int .i64 (-1)]
theorem free_rnameV (s : ByteArray) (a : Nat) : free (rnameV s a) = true := by unfold rnameV; split <;> rfl
set_option maxRecDepth 100000 in
set_option maxHeartbeats 4000000 in
theorem p_rname (s : ByteArray) (a : Nat) (hs : s.size ≤ 1000000) (ha : a ≤ s.size) (hb : atB s a) :
    PCalls Try.prog 70 [.str s, .int .i64 a] (rnameV s a) := by
  have hl := len_size s
  refine pcalls_of rfl (free_rnameV s a) (acalls_of mixed J_ref04_name_ok (Nat.le_of_ble_eq_true rfl) ?_); simp only [J_ref04_name, wk,if_true,if_false,forall_const,implies_true,ne_eq,eq_self,Nat.reduceEqDiff,Nat.reduceAdd,Nat.reduceMul,Nat.reduceSub,Nat.reduceLeDiff,Nat.reduceLT,Int.reduceEq,Int.reduceLT,Int.reduceLE,Int.reduceAdd,Int.reduceSub,Int.reduceMul,Int.reduceNeg,Int.reduceNe,reduceCtorEq,Int.reduceToNat,↓reduceIte]
  refine PCalls.use (p_rune s a hs ha hb) ?_; simp only [wk,if_true,if_false,forall_const,implies_true,ne_eq,eq_self,Nat.reduceEqDiff,Nat.reduceAdd,Nat.reduceMul,Nat.reduceSub,Nat.reduceLeDiff,Nat.reduceLT,Int.reduceEq,Int.reduceLT,Int.reduceLE,Int.reduceAdd,Int.reduceSub,Int.reduceMul,Int.reduceNeg,Int.reduceNe,reduceCtorEq,Int.reduceToNat,↓reduceIte]
  refine PCalls.use (p_rletter (runeR s a)) ?_; simp only [wk,if_true,if_false,forall_const,implies_true,ne_eq,eq_self,Nat.reduceEqDiff,Nat.reduceAdd,Nat.reduceMul,Nat.reduceSub,Nat.reduceLeDiff,Nat.reduceLT,Int.reduceEq,Int.reduceLT,Int.reduceLE,Int.reduceAdd,Int.reduceSub,Int.reduceMul,Int.reduceNeg,Int.reduceNe,reduceCtorEq,Int.reduceToNat,↓reduceIte]
  cases hd : s.data.toList.drop a with
  | nil =>
    have : ¬ a < s.size := by
      intro h
      rw [List.drop_eq_getElem_cons (by omega)] at hd; cases hd
    have e : runeR s a = -1 := by unfold runeR; rw [if_neg this]
    rw [e]
    simp only [rnameV, hd, nameL, show lttI (-1) = false from rfl, wk,if_true,if_false,forall_const,implies_true,ne_eq,eq_self,Nat.reduceEqDiff,Nat.reduceAdd,Nat.reduceMul,Nat.reduceSub,Nat.reduceLeDiff,Nat.reduceLT,Int.reduceEq,Int.reduceLT,Int.reduceLE,Int.reduceAdd,Int.reduceSub,Int.reduceMul,Int.reduceNeg,Int.reduceNe,reduceCtorEq,Int.reduceToNat,↓reduceIte]
  | cons b r =>
    have hal : a < s.data.toList.length := by
      rcases Nat.lt_or_ge a s.data.toList.length with h | h
      · exact h
      · rw [List.drop_of_length_le h] at hd; cases hd
    have hba : s.data.toList[a] = b := by
      rw [List.drop_eq_getElem_cons hal] at hd
      simp only [List.cons.injEq] at hd
      exact hd.1
    have e : lttI (runeR s a) = lttI b.toNat := by rw [rune_fre hi_ltt hal, hba]
    rw [e]
    by_cases hb1 : lttI b.toNat = true
    · simp only [hb1, wk,if_true,if_false,forall_const,implies_true,ne_eq,eq_self,Nat.reduceEqDiff,Nat.reduceAdd,Nat.reduceMul,Nat.reduceSub,Nat.reduceLeDiff,Nat.reduceLT,Int.reduceEq,Int.reduceLT,Int.reduceLE,Int.reduceAdd,Int.reduceSub,Int.reduceMul,Int.reduceNeg,Int.reduceNe,reduceCtorEq,Int.reduceToNat,↓reduceIte]
      obtain ⟨L, hL⟩ : ∃ L, L = s.data.toList.drop a := ⟨_, rfl⟩
      have hLl : L.length = s.size - a := by rw [hL, List.length_drop]; omega
      have hLg : ∀ (n : Nat) (h : n < L.length), byteAt s (a + n) = (L[n]).toNat := fun n h => by
        rw [byte_at (show a + n < s.data.toList.length by omega)]
        simp only [hL, List.getElem_drop]
      have hsl := stopN_le innI L
      refine W_loop (fun m fr h' => ∃ n : Nat, n ≤ stopN innI L ∧ m = L.length - n ∧ fr = [(0, .str s), (1, .int .i64 a), (8, .int .i64 (a + n : Nat))]) L.length ⟨0, by omega, by omega, rfl⟩ ?_
      rintro m fr h' ⟨n, hn, rfl, rfl⟩
      simp only [J_ref04_name_j2, wk,if_true,if_false,forall_const,implies_true,ne_eq,eq_self,Nat.reduceEqDiff,Nat.reduceAdd,Nat.reduceMul,Nat.reduceSub,Nat.reduceLeDiff,Nat.reduceLT,Int.reduceEq,Int.reduceLT,Int.reduceLE,Int.reduceAdd,Int.reduceSub,Int.reduceMul,Int.reduceNeg,Int.reduceNe,reduceCtorEq,Int.reduceToNat,↓reduceIte]
      have hj : stopN innI L = n → ∀ x, W Try.prog J_ref04_name_j1 [(0, .str s), (1, .int .i64 a), (8, .int .i64 (a + n : Nat)), (29, x)] h' (kret [.t 4, .t 5] (fun v _ => v = rnameV s a)) := by
        intro hst x
        simp only [J_ref04_name_j1, wk,if_true,if_false,forall_const,implies_true,ne_eq,eq_self,Nat.reduceEqDiff,Nat.reduceAdd,Nat.reduceMul,Nat.reduceSub,Nat.reduceLeDiff,Nat.reduceLT,Int.reduceEq,Int.reduceLT,Int.reduceLE,Int.reduceAdd,Int.reduceSub,Int.reduceMul,Int.reduceNeg,Int.reduceNe,reduceCtorEq,Int.reduceToNat,↓reduceIte]
        have hnm : nameL (s.data.toList.drop a) = if n ≤ 24 ∧ fineL (L.drop n) = true then some n else none := by
          rw [← hL]
          have hLc : L = b :: r := by rw [hL, hd]
          have : nameL L = if lttI b.toNat = true ∧ stopN innI L ≤ 24 ∧ fineL (L.drop (stopN innI L)) = true then some (stopN innI L) else none := by rw [hLc]; rfl
          rw [this, hst]
          simp only [hb1, true_and]
        have hdn : L.drop n = s.data.toList.drop (a + n) := by rw [hL, List.drop_drop]
        unfold rnameV
        rw [hnm]
        refine ⟨inR_of (by omega) (by omega), fun h24 => ?_, fun h24 => ?_⟩
        · have hbn := atB_stop lo_inn ha hb n (by rw [← hL]; omega)
          have hn24 : n ≤ 24 := by omega
          refine PCalls.use (p_fine s (a + n) hs (by omega) hbn) ?_; simp only [wk,if_true,if_false,forall_const,implies_true,ne_eq,eq_self,Nat.reduceEqDiff,Nat.reduceAdd,Nat.reduceMul,Nat.reduceSub,Nat.reduceLeDiff,Nat.reduceLT,Int.reduceEq,Int.reduceLT,Int.reduceLE,Int.reduceAdd,Int.reduceSub,Int.reduceMul,Int.reduceNeg,Int.reduceNe,reduceCtorEq,Int.reduceToNat,↓reduceIte]
          rw [← hdn]
          refine ⟨fun hf => ?_, fun hf => ?_⟩
          · simp only [hn24, hf, Bool.false_eq_true, and_false, if_false]
          · simp only [hn24, hf, and_self, if_true, Int.toNat_natCast]
            exact ⟨⟨by omega, by omega, by omega⟩, trivial⟩
        · rw [if_neg (by omega)]
      refine ⟨fun hlt => ⟨⟨by omega, by omega⟩, ?_⟩, fun hge => hj (by omega) _⟩
      have hnl : n < L.length := by omega
      rw [Int.toNat_natCast, hLg n hnl, conv_u8]
      refine PCalls.use (p_rinName (L[n]).toNat) ?_; simp only [wk,if_true,if_false,forall_const,implies_true,ne_eq,eq_self,Nat.reduceEqDiff,Nat.reduceAdd,Nat.reduceMul,Nat.reduceSub,Nat.reduceLeDiff,Nat.reduceLT,Int.reduceEq,Int.reduceLT,Int.reduceLE,Int.reduceAdd,Int.reduceSub,Int.reduceMul,Int.reduceNeg,Int.reduceNe,reduceCtorEq,Int.reduceToNat,↓reduceIte]
      refine ⟨fun hin => ⟨inR_of (by omega) (by omega), L.length - (n + 1), by omega, n + 1, stop_more hnl hn hin, rfl, by simp; omega⟩, fun hin => hj (stop_done hnl hn hin) _⟩
    · simp only [show lttI b.toNat = false by simpa using hb1, wk,if_true,if_false,forall_const,implies_true,ne_eq,eq_self,Nat.reduceEqDiff,Nat.reduceAdd,Nat.reduceMul,Nat.reduceSub,Nat.reduceLeDiff,Nat.reduceLT,Int.reduceEq,Int.reduceLT,Int.reduceLE,Int.reduceAdd,Int.reduceSub,Int.reduceMul,Int.reduceNeg,Int.reduceNe,reduceCtorEq,Int.reduceToNat,↓reduceIte]
      unfold rnameV
      rw [hd]
      simp [nameL, hb1]
/-- may digits be a number? -/
def numW (s : ByteArray) : Bool := decide (1 ≤ s.size) && (decide (s.size ≤ 9) && (s.data.toList.all (fun b => digI b.toNat) && (decide (byteAt s 0 ≠ 48) || decide (s.size = 1))))
theorem p_rnumber (s : ByteArray) (hs : s.size ≤ 1000000) : PCalls Try.prog 52 [.str s] (.bool (numW s)) := by
  have hl := len_size s
  refine pcalls_of (by first | rfl | simp [free, free.frees, frees_str, frees_u8, frees_u16]) (by first | rfl | simp [free, free.frees, frees_str, frees_u8, frees_u16]) (acalls_of mixed J_ref04_number_ok (Nat.le_of_ble_eq_true rfl) ?_); simp only [J_ref04_number, wk,if_true,if_false,forall_const,implies_true,ne_eq,eq_self,Nat.reduceEqDiff,Nat.reduceAdd,Nat.reduceMul,Nat.reduceSub,Nat.reduceLeDiff,Nat.reduceLT,Int.reduceEq,Int.reduceLT,Int.reduceLE,Int.reduceAdd,Int.reduceSub,Int.reduceMul,Int.reduceNeg,Int.reduceNe,reduceCtorEq,Int.reduceToNat,↓reduceIte]
  refine W_loop (fun m fr h' => ∃ n : Nat, n ≤ s.data.toList.length ∧ m = s.data.toList.length - n ∧ fr = [(0, .str s), (3, .int .i64 n)] ∧ ∀ b ∈ s.data.toList.take n, digI b.toNat = true) s.data.toList.length ⟨0, by omega, by omega, rfl, by simp⟩ ?_
  rintro m fr h' ⟨n, hn, rfl, rfl, hall⟩
  simp only [J_ref04_number_j2, wk,if_true,if_false,forall_const,implies_true,ne_eq,eq_self,Nat.reduceEqDiff,Nat.reduceAdd,Nat.reduceMul,Nat.reduceSub,Nat.reduceLeDiff,Nat.reduceLT,Int.reduceEq,Int.reduceLT,Int.reduceLE,Int.reduceAdd,Int.reduceSub,Int.reduceMul,Int.reduceNeg,Int.reduceNe,reduceCtorEq,Int.reduceToNat,↓reduceIte]
  refine ⟨fun hlt => ⟨⟨by omega, by omega⟩, ?_⟩, fun hge => ?_⟩
  · have hnl : n < s.data.toList.length := by omega
    rw [Int.toNat_natCast, byte_at hnl, conv_u8]
    refine PCalls.use (p_rdigit (s.data.toList[n]).toNat) ?_; simp only [wk,if_true,if_false,forall_const,implies_true,ne_eq,eq_self,Nat.reduceEqDiff,Nat.reduceAdd,Nat.reduceMul,Nat.reduceSub,Nat.reduceLeDiff,Nat.reduceLT,Int.reduceEq,Int.reduceLT,Int.reduceLE,Int.reduceAdd,Int.reduceSub,Int.reduceMul,Int.reduceNeg,Int.reduceNe,reduceCtorEq,Int.reduceToNat,↓reduceIte]
    refine ⟨fun e => ?_, fun e => ⟨inR_of (by omega) (by omega), s.data.toList.length - (n + 1), by omega, n + 1, by omega, rfl, by simp, fun b hb => ?_⟩⟩
    · have : s.data.toList.all (fun b => digI b.toNat) = false := by
        rw [List.all_eq_false]; exact ⟨_, List.getElem_mem hnl, fun h => by rw [e] at h; cases h⟩
      congr 1
      simp [numW, this]
    · rw [List.take_succ_eq_append_getElem hnl] at hb
      rcases List.mem_append.1 hb with hb | hb
      · exact hall b hb
      · simp at hb; subst hb; exact e
  · rw [List.take_of_length_le (by omega)] at hall
    have ha : s.data.toList.all (fun b => digI b.toNat) = true := List.all_eq_true.2 hall
    simp only [J_ref04_number_j1, wk,if_true,if_false,forall_const,implies_true,ne_eq,eq_self,Nat.reduceEqDiff,Nat.reduceAdd,Nat.reduceMul,Nat.reduceSub,Nat.reduceLeDiff,Nat.reduceLT,Int.reduceEq,Int.reduceLT,Int.reduceLE,Int.reduceAdd,Int.reduceSub,Int.reduceMul,Int.reduceNeg,Int.reduceNe,reduceCtorEq,Int.reduceToNat,↓reduceIte]
    unfold numW
    rw [ha]
    repeat' (first | (refine And.intro ?_ ?_) | intro _)
    all_goals first
      | omega
      | (congr 1; simp_all; done)
      | (congr 1; simp_all; omega)
      | (congr 1; rw [Bool.eq_iff_iff]; simp_all; done)
      | (congr 1; rw [Bool.eq_iff_iff]; simp_all; omega)
def begW (s : ByteArray) (a : Nat) (p : ByteArray) : Bool := decide (a + p.size ≤ s.size) && decide (s.extract a (a + p.size) = p)
theorem p_begins (s p : ByteArray) (a : Nat) (hs : s.size ≤ 1000000) (hp : p.size ≤ 1000000) (ha : a ≤ s.size) : PCalls Try.prog 69 [.str s, .int .i64 a, .str p] (.bool (begW s a p)) := by
  refine pcalls_of (by first | rfl | simp [free, free.frees, frees_str, frees_u8, frees_u16]) (by first | rfl | simp [free, free.frees, frees_str, frees_u8, frees_u16]) (acalls_of mixed J_ref04_begins_ok (Nat.le_of_ble_eq_true rfl) ?_); simp only [J_ref04_begins, wk,if_true,if_false,forall_const,implies_true,ne_eq,eq_self,Nat.reduceEqDiff,Nat.reduceAdd,Nat.reduceMul,Nat.reduceSub,Nat.reduceLeDiff,Nat.reduceLT,Int.reduceEq,Int.reduceLT,Int.reduceLE,Int.reduceAdd,Int.reduceSub,Int.reduceMul,Int.reduceNeg,Int.reduceNe,reduceCtorEq,Int.reduceToNat,↓reduceIte]
  have e1 : ((a : Int) + (p.size : Int)).toNat = a + p.size := by omega
  rw [Int.toNat_natCast, e1]
  refine ⟨inR_of (by omega) (by omega), fun h => ⟨inR_of (by omega) (by omega), ⟨by omega, by omega, by omega⟩, ?_⟩, fun h => ?_⟩
  · congr 1
    have : a + p.size ≤ s.size := by omega
    simp [begW, this]
  · congr 1
    have : ¬ a + p.size ≤ s.size := by omega
    simp [begW, this]
/-- the signs that are tokens of their own -/
def sigB (n : Nat) : Bool := n == 61 || n == 44 || n == 59 || n == 60 || n == 62 || n == 33 || n == 63 || n == 42
def sigW (s : ByteArray) : Bool := decide (s.size = 1) && sigB (byteAt s 0)
theorem one_byte {s : ByteArray} (h : s.size = 1) : ∃ b : UInt8, s = ⟨#[b]⟩ := by
  obtain ⟨⟨l⟩⟩ := s
  match l, h with
  | [b], _ => exact ⟨b, rfl⟩
theorem ba_one (b c : UInt8) : ((⟨#[b]⟩ : ByteArray) = ⟨#[c]⟩) ↔ b.toNat = c.toNat := by
  rw [UInt8.toNat_inj]
  constructor
  · intro h; simpa using h
  · rintro rfl; rfl
theorem sigW_iff (s : ByteArray) : sigW s = true ↔ (s = ⟨#[61]⟩ ∨ s = ⟨#[44]⟩ ∨ s = ⟨#[59]⟩ ∨ s = ⟨#[60]⟩ ∨ s = ⟨#[62]⟩ ∨ s = ⟨#[33]⟩ ∨ s = ⟨#[63]⟩ ∨ s = ⟨#[42]⟩) := by
  by_cases h : s.size = 1
  · obtain ⟨b, rfl⟩ := one_byte h
    have e : sigW ⟨#[b]⟩ = sigB b.toNat := by
      unfold sigW
      rw [h]
      rfl
    rw [e]
    simp only [ba_one]
    simp [sigB, or_assoc]
  · constructor
    · intro h1
      simp only [sigW, Bool.and_eq_true, decide_eq_true_eq] at h1
      exact absurd h1.1 h
    · intro h1
      rcases h1 with rfl | rfl | rfl | rfl | rfl | rfl | rfl | rfl <;> exact absurd rfl h
theorem p_isSign (s : ByteArray) : PCalls Try.prog 53 [.str s] (.bool (sigW s)) := by
  refine pcalls_of (by first | rfl | simp [free, free.frees, frees_str, frees_u8, frees_u16]) (by first | rfl | simp [free, free.frees, frees_str, frees_u8, frees_u16]) (acalls_of mixed J_ref04_isSign_ok (Nat.le_of_ble_eq_true rfl) ?_); simp only [J_ref04_isSign, wk,if_true,if_false,forall_const,implies_true,ne_eq,eq_self,Nat.reduceEqDiff,Nat.reduceAdd,Nat.reduceMul,Nat.reduceSub,Nat.reduceLeDiff,Nat.reduceLT,Int.reduceEq,Int.reduceLT,Int.reduceLE,Int.reduceAdd,Int.reduceSub,Int.reduceMul,Int.reduceNeg,Int.reduceNe,reduceCtorEq,Int.reduceToNat,↓reduceIte]
  have no : sigW s = true → AV.bool true = .bool (sigW s) := fun h => by rw [h]
  have hi := sigW_iff s
  repeat' (first | (refine And.intro ?_ ?_) | intro _)
  all_goals first
    | (apply no; rw [hi]; simp_all; done)
    | (congr 1; rw [Bool.eq_iff_iff, hi]; simp_all)
end Go.Proofs.Ytmbijfcjfhdnjaa

/- The token at a place: the plain function; the reference's sign. -/
namespace Go.Proofs.Ytmbijfcjfhdnjaa
set_option linter.unusedSimpArgs false
set_option linter.unusedVariables false
open Go.RowKit Go.Lib

def ba (l : List UInt8) : ByteArray := ⟨l.toArray⟩
theorem ba_list (l : List UInt8) : (ba l).data.toList = l := by simp [ba]
theorem ba_len2 (l : List UInt8) : (ba l).size = l.length := by show l.toArray.size = _; simp
theorem ba_eta (s : ByteArray) : ba s.data.toList = s := by apply ByteArray.ext; apply Array.ext'; simp [ba]
theorem ba_inj {a b : List UInt8} : ba a = ba b ↔ a = b := ⟨fun h => by rw [← ba_list a, h, ba_list], fun h => by rw [h]⟩
theorem ext_ba (s : ByteArray) (a n : Nat) : s.extract a (a + n) = ba ((s.data.toList.drop a).take n) := by
  apply ByteArray.ext; apply Array.ext'
  simp [ba, List.extract_eq_take_drop]
/-- does a text stand at the beginning? -/
def begL (p : ByteArray) (l : List UInt8) : Bool := decide (l.take p.size = p.data.toList)
theorem begW_eq (s p : ByteArray) (a : Nat) (ha : a ≤ s.size) : begW s a p = begL p (s.data.toList.drop a) := by
  have hl := len_size s
  have hp := len_size p
  unfold begW begL
  rw [ext_ba]
  by_cases h : a + p.size ≤ s.size
  · simp only [h, decide_true, Bool.true_and]
    congr 1
    rw [← ba_eta p, ba_inj]
    simp [ba_eta]
  · simp only [h, decide_false, Bool.false_and]
    symm
    rw [decide_eq_false_iff_not]
    intro h2
    have := congrArg List.length h2
    rw [List.length_take, List.length_drop] at this
    omega
abbrev Sig := Int × ByteArray × Int × Nat
def atomL (k : Int) (skip : Nat) (l : List UInt8) : Option Sig := match nameL l with
  | none => none
  | some n => some (1, ba (l.take n), k, skip + n)
/-- what stands at the beginning of bytes, without a kind ahead -/
def plainL : List UInt8 → Option Sig
  | [] => none
  | b :: r =>
    if lttI b.toNat = true then (match nameL (b :: r) with
      | none => none
      | some n => if keyW (ba ((b :: r).take n)) = 0 then some (1, ba ((b :: r).take n), 3, n) else some (keyW (ba ((b :: r).take n)), ba [], 0, n))
    else if b.toNat = 68 then (if fineL r = true then some (1, ba [68], 0, 1) else none)
    else if b.toNat = 124 then some (4, ba [], 0, 1)
    else if b.toNat = 40 then some (6, ba [], 0, 1)
    else if b.toNat = 41 then some (7, ba [], 0, 1)
    else if digI b.toNat = true then (if numW (ba ((b :: r).take (stopN digI (b :: r)))) = true ∧ fineL ((b :: r).drop (stopN digI (b :: r))) = true then some (8, ba ((b :: r).take (stopN digI (b :: r))), 0, stopN digI (b :: r)) else none)
    else if sigB b.toNat = true then some (9, ba [b], 0, 1)
    else none
/-- which kind of atoms is said ahead; 0: none -/
def kindL (l : List UInt8) : Int := if begL (preW 1) l = true then 1 else if begL (preW 2) l = true then 2 else if begL (preW 4) l = true then 4 else if begL (preW 5) l = true then 5 else 0
/-- THE TOKEN at the beginning of bytes: its kind, name, kind of atom, length -/
def signL (l : List UInt8) : Option Sig := if kindL l = 0 then plainL l else atomL (kindL l) (preW (kindL l)).size (l.drop (preW (kindL l)).size)
/-- as the reference tells it -/
def signRV (s : ByteArray) (a : Nat) : AV := match signL (s.data.toList.drop a) with
  | some (k, w, o, n) => .tup [.agg [.int .i64 k, .str w, .int .i64 o, .int .i64 a], .int .i64 (a + n : Nat)]
  | none => .tup [.agg [.int .i64 (if kindL (s.data.toList.drop a) = 0 then 0 else 1), .str ⟨#[]⟩, .int .i64 (kindL (s.data.toList.drop a)), .int .i64 a], .int .i64 (-1)]
theorem free_signRV (s : ByteArray) (a : Nat) : free (signRV s a) = true := by unfold signRV; split <;> rfl
/-- behind a text that ends in ASCII a rune may begin -/
theorem atB_beg {s p : ByteArray} {a : Nat} (ha : a ≤ s.size) (h : begL p (s.data.toList.drop a) = true) (hp : 0 < p.size) (hc : ∀ b ∈ p.data.toList, b.toNat < 128) : a + p.size ≤ s.size ∧ atB s (a + p.size) := by
  have hl := len_size s
  have hpl := len_size p
  unfold begL at h
  have h2 := of_decide_eq_true h
  have h3 := congrArg List.length h2
  rw [List.length_take, List.length_drop] at h3
  refine ⟨by omega, .inr ⟨by omega, ?_⟩⟩
  have h4 : s.data.toList[a + p.size - 1]'(by omega) ∈ p.data.toList := by
    rw [← h2, List.mem_iff_getElem]
    refine ⟨p.size - 1, by rw [List.length_take, List.length_drop]; omega, ?_⟩
    rw [List.getElem_take, List.getElem_drop]
    congr 1; omega
  exact hc _ h4
def kinds : List Int := [1, 2, 4, 5]
theorem kind_at {l : List UInt8} {i : Nat} (hi : i < kinds.length) (hall : ∀ (j : Nat) (hj : j < kinds.length), j < i → begL (preW (kinds[j])) l = false) (h : begL (preW (kinds[i])) l = true) : kindL l = kinds[i] := by
  unfold kinds at hi hall h ⊢
  unfold kindL
  rcases (show i = 0 ∨ i = 1 ∨ i = 2 ∨ i = 3 by simp at hi; omega) with rfl | rfl | rfl | rfl
  · rw [if_pos (show begL (preW 1) l = true from h)]; rfl
  · rw [if_neg (by rw [show begL (preW 1) l = false from hall 0 (by simp) (by omega)]; simp), if_pos (show begL (preW 2) l = true from h)]; rfl
  · rw [if_neg (by rw [show begL (preW 1) l = false from hall 0 (by simp) (by omega)]; simp), if_neg (by rw [show begL (preW 2) l = false from hall 1 (by simp) (by omega)]; simp), if_pos (show begL (preW 4) l = true from h)]; rfl
  · rw [if_neg (by rw [show begL (preW 1) l = false from hall 0 (by simp) (by omega)]; simp), if_neg (by rw [show begL (preW 2) l = false from hall 1 (by simp) (by omega)]; simp), if_neg (by rw [show begL (preW 4) l = false from hall 2 (by simp) (by omega)]; simp), if_pos (show begL (preW 5) l = true from h)]; rfl
theorem kind_no {l : List UInt8} (hall : ∀ (j : Nat) (hj : j < kinds.length), begL (preW (kinds[j])) l = false) : kindL l = 0 := by
  unfold kindL
  rw [if_neg (by rw [show begL (preW 1) l = false from hall 0 (by simp [kinds])]; simp), if_neg (by rw [show begL (preW 2) l = false from hall 1 (by simp [kinds])]; simp), if_neg (by rw [show begL (preW 4) l = false from hall 2 (by simp [kinds])]; simp), if_neg (by rw [show begL (preW 5) l = false from hall 3 (by simp [kinds])]; simp)]
theorem pre_ok {k : Int} (h : k ∈ kinds) : 0 < (preW k).size ∧ (preW k).size ≤ 6 ∧ ∀ b ∈ (preW k).data.toList, b.toNat < 128 := by
  unfold kinds at h
  simp only [List.mem_cons, List.not_mem_nil, or_false] at h
  rcases h with rfl | rfl | rfl | rfl <;> exact ⟨by decide, by decide, by decide⟩
theorem kinds_nz {k : Int} (h : k ∈ kinds) : k ≠ 0 := by
  unfold kinds at h
  simp only [List.mem_cons, List.not_mem_nil, or_false] at h
  omega
set_option maxRecDepth 100000 in
set_option maxHeartbeats 4000000 in
theorem p_rsign (s : ByteArray) (a : Nat) (hs : s.size ≤ 1000000) (ha : a < s.size) (hb : atB s a) :
    PCalls Try.prog 48 [.str s, .int .i64 a] (signRV s a) := by
  have hl := len_size s
  refine pcalls_of rfl (free_signRV s a) (acalls_of mixed J_ref04_sign_ok (Nat.le_of_ble_eq_true rfl) ?_); simp only [J_ref04_sign, wk,if_true,if_false,forall_const,implies_true,ne_eq,eq_self,Nat.reduceEqDiff,Nat.reduceAdd,Nat.reduceMul,Nat.reduceSub,Nat.reduceLeDiff,Nat.reduceLT,Int.reduceEq,Int.reduceLT,Int.reduceLE,Int.reduceAdd,Int.reduceSub,Int.reduceMul,Int.reduceNeg,Int.reduceNe,reduceCtorEq,Int.reduceToNat,↓reduceIte]
  refine W_loop (fun m fr h' => ∃ i : Nat, i ≤ 4 ∧ m = 4 - i ∧ h' = [some (false, [.int .i64 0, .str ⟨#[]⟩, .int .i64 0, .int .i64 0]), some (false, [.int .i64 0, .str ⟨#[]⟩, .int .i64 0, .int .i64 a])] ∧ fr = [(0, .str s), (1, .int .i64 a), (4, .ptr 0 0), (6, .ptr 1 0), (7, .lst (.own 3) 4 [.int .i64 1, .int .i64 2, .int .i64 4, .int .i64 5]), (8, .int .i64 i)] ∧ ∀ (j : Nat) (hj : j < kinds.length), j < i → begL (preW (kinds[j])) (s.data.toList.drop a) = false) 4 ⟨0, by omega, by omega, rfl, rfl, fun j _ h => by omega⟩ ?_
  rintro m fr h' ⟨i, hi, rfl, rfl, rfl, hall⟩
  simp only [J_ref04_sign_j8, wk,if_true,if_false,forall_const,implies_true,ne_eq,eq_self,Nat.reduceEqDiff,Nat.reduceAdd,Nat.reduceMul,Nat.reduceSub,Nat.reduceLeDiff,Nat.reduceLT,Int.reduceEq,Int.reduceLT,Int.reduceLE,Int.reduceAdd,Int.reduceSub,Int.reduceMul,Int.reduceNeg,Int.reduceNe,reduceCtorEq,Int.reduceToNat,↓reduceIte]
  have hkl : kinds.length = 4 := rfl
  refine ⟨fun hlt => ⟨⟨by omega, by omega⟩, ?_⟩, fun hge => ?_⟩
  · have hi4 : i < kinds.length := by omega
    have hd : List.drop (i : Int).toNat [AV.int .i64 1, .int .i64 2, .int .i64 4, .int .i64 5] = .int .i64 kinds[i] :: (kinds.drop (i + 1)).map (AV.int .i64) := by
      rw [Int.toNat_natCast, show [AV.int .i64 1, .int .i64 2, .int .i64 4, .int .i64 5] = kinds.map (AV.int .i64) from rfl, ← List.map_drop, List.drop_eq_getElem_cons hi4]
      rfl
    obtain ⟨g1, g2, g3⟩ := pre_ok (List.getElem_mem hi4)
    simp only [hd, wk,if_true,if_false,forall_const,implies_true,ne_eq,eq_self,Nat.reduceEqDiff,Nat.reduceAdd,Nat.reduceMul,Nat.reduceSub,Nat.reduceLeDiff,Nat.reduceLT,Int.reduceEq,Int.reduceLT,Int.reduceLE,Int.reduceAdd,Int.reduceSub,Int.reduceMul,Int.reduceNeg,Int.reduceNe,reduceCtorEq,Int.reduceToNat,↓reduceIte]
    refine PCalls.use (p_prefix kinds[i]) ?_; simp only [wk,if_true,if_false,forall_const,implies_true,ne_eq,eq_self,Nat.reduceEqDiff,Nat.reduceAdd,Nat.reduceMul,Nat.reduceSub,Nat.reduceLeDiff,Nat.reduceLT,Int.reduceEq,Int.reduceLT,Int.reduceLE,Int.reduceAdd,Int.reduceSub,Int.reduceMul,Int.reduceNeg,Int.reduceNe,reduceCtorEq,Int.reduceToNat,↓reduceIte]
    have hbg := p_begins s (preW kinds[i]) a hs (by omega) (by omega)
    rw [begW_eq s _ a (by omega)] at hbg
    refine PCalls.use (hbg) ?_; simp only [wk,if_true,if_false,forall_const,implies_true,ne_eq,eq_self,Nat.reduceEqDiff,Nat.reduceAdd,Nat.reduceMul,Nat.reduceSub,Nat.reduceLeDiff,Nat.reduceLT,Int.reduceEq,Int.reduceLT,Int.reduceLE,Int.reduceAdd,Int.reduceSub,Int.reduceMul,Int.reduceNeg,Int.reduceNe,reduceCtorEq,Int.reduceToNat,↓reduceIte]
    refine ⟨fun e => ?_, fun e => ?_⟩
    · obtain ⟨b1, b2⟩ := atB_beg (by omega) e g1 g3
      have hkk := kind_at hi4 hall e
      have hnz := kinds_nz (List.getElem_mem hi4)
      have qn := p_rname s (a + (preW kinds[i]).size) hs b1 b2
      have hsg : signL (s.data.toList.drop a) = atomL kinds[i] (preW kinds[i]).size (s.data.toList.drop (a + (preW kinds[i]).size)) := by
        unfold signL
        rw [hkk, if_neg hnz, List.drop_drop]
      rw [show (a : Int) + (preW kinds[i]).size = ((a + (preW kinds[i]).size : Nat) : Int) by omega]
      refine ⟨inR_of (by omega) (by omega), ?_⟩
      unfold rnameV at qn
      unfold signRV
      rw [hsg]
      unfold atomL
      cases hn : nameL (s.data.toList.drop (a + (preW kinds[i]).size)) with
      | none =>
        rw [hn] at qn
        refine PCalls.use (qn) ?_; simp only [wk,if_true,if_false,forall_const,implies_true,ne_eq,eq_self,Nat.reduceEqDiff,Nat.reduceAdd,Nat.reduceMul,Nat.reduceSub,Nat.reduceLeDiff,Nat.reduceLT,Int.reduceEq,Int.reduceLT,Int.reduceLE,Int.reduceAdd,Int.reduceSub,Int.reduceMul,Int.reduceNeg,Int.reduceNe,reduceCtorEq,Int.reduceToNat,↓reduceIte]
        refine ⟨⟨by omega, by omega⟩, ?_⟩
        simp only [hd, hkk, hnz, valL, if_false, wk,if_true,if_false,forall_const,implies_true,ne_eq,eq_self,Nat.reduceEqDiff,Nat.reduceAdd,Nat.reduceMul,Nat.reduceSub,Nat.reduceLeDiff,Nat.reduceLT,Int.reduceEq,Int.reduceLT,Int.reduceLE,Int.reduceAdd,Int.reduceSub,Int.reduceMul,Int.reduceNeg,Int.reduceNe,reduceCtorEq,Int.reduceToNat,↓reduceIte]
      | some n =>
        rw [hn] at qn
        refine PCalls.use (qn) ?_; simp only [wk,if_true,if_false,forall_const,implies_true,ne_eq,eq_self,Nat.reduceEqDiff,Nat.reduceAdd,Nat.reduceMul,Nat.reduceSub,Nat.reduceLeDiff,Nat.reduceLT,Int.reduceEq,Int.reduceLT,Int.reduceLE,Int.reduceAdd,Int.reduceSub,Int.reduceMul,Int.reduceNeg,Int.reduceNe,reduceCtorEq,Int.reduceToNat,↓reduceIte]
        refine ⟨⟨by omega, by omega⟩, ?_⟩
        simp only [hd, hkk, hnz, valL, if_false, ext_ba, wk,if_true,if_false,forall_const,implies_true,ne_eq,eq_self,Nat.reduceEqDiff,Nat.reduceAdd,Nat.reduceMul,Nat.reduceSub,Nat.reduceLeDiff,Nat.reduceLT,Int.reduceEq,Int.reduceLT,Int.reduceLE,Int.reduceAdd,Int.reduceSub,Int.reduceMul,Int.reduceNeg,Int.reduceNe,reduceCtorEq,Int.reduceToNat,↓reduceIte]
        rw [Nat.add_assoc]
    · refine ⟨inR_of (by omega) (by omega), 4 - (i + 1), by omega, i + 1, by omega, rfl, by simp, fun j hj hji => ?_⟩
      rcases Nat.lt_or_ge j i with h1 | h1
      · exact hall j hj h1
      · have h2 : j = i := by omega
        subst h2; exact e
  · have hk0 : kindL (s.data.toList.drop a) = 0 := kind_no (fun j hj => hall j hj (by omega))
    have hsg : signL (s.data.toList.drop a) = plainL (s.data.toList.drop a) := by unfold signL; rw [if_pos hk0]
    have hal : a < s.data.toList.length := by omega
    have hd : s.data.toList.drop a = s.data.toList[a] :: s.data.toList.drop (a + 1) := List.drop_eq_getElem_cons hal
    obtain ⟨b, hb1⟩ : ∃ b, b = s.data.toList[a] := ⟨_, rfl⟩
    rw [← hb1] at hd
    have hr1 : lttI (runeR s a) = lttI b.toNat := by rw [rune_fre hi_ltt hal, hb1]
    have hr2 : digI (runeR s a) = digI b.toNat := by rw [rune_fre hi_dig hal, hb1]
    have hr3 : ∀ k : Int, k < 128 → (runeR s a = k ↔ (b.toNat : Int) = k) := fun k hk => by
      have hq : ∀ r : Int, 128 ≤ r → decide (r = k) = decide ((128 : Int) = k) := fun r hr => by
        rw [decide_eq_decide]; omega
      have := rune_fre (q := fun r => decide (r = k)) hq hal
      rw [← hb1] at this
      simpa using this
    have hn1 : b.toNat < 128 → runeN s a = a + 1 := fun h => by
      unfold runeN
      rw [if_pos ha, dec_lt hal (by rw [← hb1]; exact h)]
    unfold signRV
    rw [hsg, hk0, hd]
    have qlet := p_rletter (runeR s a)
    have qdig := p_rdigit (runeR s a)
    rw [hr1] at qlet
    rw [hr2] at qdig
    have n68 := hr3 68 (by omega)
    have n124 := hr3 124 (by omega)
    have n40 := hr3 40 (by omega)
    have n41 := hr3 41 (by omega)
    simp only [J_ref04_sign_j7, wk,if_true,if_false,forall_const,implies_true,ne_eq,eq_self,Nat.reduceEqDiff,Nat.reduceAdd,Nat.reduceMul,Nat.reduceSub,Nat.reduceLeDiff,Nat.reduceLT,Int.reduceEq,Int.reduceLT,Int.reduceLE,Int.reduceAdd,Int.reduceSub,Int.reduceMul,Int.reduceNeg,Int.reduceNe,reduceCtorEq,Int.reduceToNat,↓reduceIte]
    refine PCalls.use (p_rune s a hs (by omega) hb) ?_; simp only [wk,if_true,if_false,forall_const,implies_true,ne_eq,eq_self,Nat.reduceEqDiff,Nat.reduceAdd,Nat.reduceMul,Nat.reduceSub,Nat.reduceLeDiff,Nat.reduceLT,Int.reduceEq,Int.reduceLT,Int.reduceLE,Int.reduceAdd,Int.reduceSub,Int.reduceMul,Int.reduceNeg,Int.reduceNe,reduceCtorEq,Int.reduceToNat,↓reduceIte]
    by_cases hlet : lttI b.toNat = true
    · rw [hlet] at qlet
      refine PCalls.use (qlet) ?_; simp only [wk,if_true,if_false,forall_const,implies_true,ne_eq,eq_self,Nat.reduceEqDiff,Nat.reduceAdd,Nat.reduceMul,Nat.reduceSub,Nat.reduceLeDiff,Nat.reduceLT,Int.reduceEq,Int.reduceLT,Int.reduceLE,Int.reduceAdd,Int.reduceSub,Int.reduceMul,Int.reduceNeg,Int.reduceNe,reduceCtorEq,Int.reduceToNat,↓reduceIte]
      have qn := p_rname s a hs (by omega) hb
      unfold rnameV at qn
      rw [hd] at qn
      simp only [plainL, hlet, if_true]
      cases hn : nameL (b :: s.data.toList.drop (a + 1)) with
      | none =>
        rw [hn] at qn
        refine PCalls.use (qn) ?_; simp only [wk,if_true,if_false,forall_const,implies_true,ne_eq,eq_self,Nat.reduceEqDiff,Nat.reduceAdd,Nat.reduceMul,Nat.reduceSub,Nat.reduceLeDiff,Nat.reduceLT,Int.reduceEq,Int.reduceLT,Int.reduceLE,Int.reduceAdd,Int.reduceSub,Int.reduceMul,Int.reduceNeg,Int.reduceNe,reduceCtorEq,Int.reduceToNat,↓reduceIte]
        simp only [valL, wk,if_true,if_false,forall_const,implies_true,ne_eq,eq_self,Nat.reduceEqDiff,Nat.reduceAdd,Nat.reduceMul,Nat.reduceSub,Nat.reduceLeDiff,Nat.reduceLT,Int.reduceEq,Int.reduceLT,Int.reduceLE,Int.reduceAdd,Int.reduceSub,Int.reduceMul,Int.reduceNeg,Int.reduceNe,reduceCtorEq,Int.reduceToNat,↓reduceIte]
      | some n =>
        rw [hn] at qn
        refine PCalls.use (qn) ?_; simp only [wk,if_true,if_false,forall_const,implies_true,ne_eq,eq_self,Nat.reduceEqDiff,Nat.reduceAdd,Nat.reduceMul,Nat.reduceSub,Nat.reduceLeDiff,Nat.reduceLT,Int.reduceEq,Int.reduceLT,Int.reduceLE,Int.reduceAdd,Int.reduceSub,Int.reduceMul,Int.reduceNeg,Int.reduceNe,reduceCtorEq,Int.reduceToNat,↓reduceIte]
        have hw : s.extract a (a + n) = ba ((b :: s.data.toList.drop (a + 1)).take n) := by rw [ext_ba, hd]
        rw [hw]
        refine ⟨fun h => by omega, fun _ => ?_⟩
        refine PCalls.use (p_rkeyword (ba ((b :: s.data.toList.drop (a + 1)).take n))) ?_; simp only [wk,if_true,if_false,forall_const,implies_true,ne_eq,eq_self,Nat.reduceEqDiff,Nat.reduceAdd,Nat.reduceMul,Nat.reduceSub,Nat.reduceLeDiff,Nat.reduceLT,Int.reduceEq,Int.reduceLT,Int.reduceLE,Int.reduceAdd,Int.reduceSub,Int.reduceMul,Int.reduceNeg,Int.reduceNe,reduceCtorEq,Int.reduceToNat,↓reduceIte]
        refine ⟨fun h0 => ?_, fun h0 => ?_⟩
        · simp only [h0, J_ref04_sign_j6, valL, if_true, if_false, wk,if_true,if_false,forall_const,implies_true,ne_eq,eq_self,Nat.reduceEqDiff,Nat.reduceAdd,Nat.reduceMul,Nat.reduceSub,Nat.reduceLeDiff,Nat.reduceLT,Int.reduceEq,Int.reduceLT,Int.reduceLE,Int.reduceAdd,Int.reduceSub,Int.reduceMul,Int.reduceNeg,Int.reduceNe,reduceCtorEq,Int.reduceToNat,↓reduceIte]
          try rfl
        · simp only [h0, J_ref04_sign_j6, valL, if_true, if_false, wk,if_true,if_false,forall_const,implies_true,ne_eq,eq_self,Nat.reduceEqDiff,Nat.reduceAdd,Nat.reduceMul,Nat.reduceSub,Nat.reduceLeDiff,Nat.reduceLT,Int.reduceEq,Int.reduceLT,Int.reduceLE,Int.reduceAdd,Int.reduceSub,Int.reduceMul,Int.reduceNeg,Int.reduceNe,reduceCtorEq,Int.reduceToNat,↓reduceIte]
          try rfl
    · rw [show lttI b.toNat = false by simpa using hlet] at qlet
      refine PCalls.use (qlet) ?_; simp only [wk,if_true,if_false,forall_const,implies_true,ne_eq,eq_self,Nat.reduceEqDiff,Nat.reduceAdd,Nat.reduceMul,Nat.reduceSub,Nat.reduceLeDiff,Nat.reduceLT,Int.reduceEq,Int.reduceLT,Int.reduceLE,Int.reduceAdd,Int.reduceSub,Int.reduceMul,Int.reduceNeg,Int.reduceNe,reduceCtorEq,Int.reduceToNat,↓reduceIte]
      by_cases h68 : b.toNat = 68
      · have e : runeR s a = 68 := n68.2 (by omega)
        simp only [e, plainL, show ((68 : Nat) : Int) = 68 from rfl, h68, show lttI 68 = false from rfl, Bool.false_eq_true, if_true, if_false, wk,if_true,if_false,forall_const,implies_true,ne_eq,eq_self,Nat.reduceEqDiff,Nat.reduceAdd,Nat.reduceMul,Nat.reduceSub,Nat.reduceLeDiff,Nat.reduceLT,Int.reduceEq,Int.reduceLT,Int.reduceLE,Int.reduceAdd,Int.reduceSub,Int.reduceMul,Int.reduceNeg,Int.reduceNe,reduceCtorEq,Int.reduceToNat,↓reduceIte]
        rw [hn1 (by omega)]
        refine PCalls.use (p_fine s (a + 1) hs (by omega) (.inr ⟨by omega, by simp only [Nat.add_sub_cancel, ← hb1]; omega⟩)) ?_; simp only [wk,if_true,if_false,forall_const,implies_true,ne_eq,eq_self,Nat.reduceEqDiff,Nat.reduceAdd,Nat.reduceMul,Nat.reduceSub,Nat.reduceLeDiff,Nat.reduceLT,Int.reduceEq,Int.reduceLT,Int.reduceLE,Int.reduceAdd,Int.reduceSub,Int.reduceMul,Int.reduceNeg,Int.reduceNe,reduceCtorEq,Int.reduceToNat,↓reduceIte]
        refine ⟨fun h0 => ?_, fun h0 => ?_⟩
        · simp only [h0, valL, Bool.false_eq_true, if_true, if_false, wk,if_true,if_false,forall_const,implies_true,ne_eq,eq_self,Nat.reduceEqDiff,Nat.reduceAdd,Nat.reduceMul,Nat.reduceSub,Nat.reduceLeDiff,Nat.reduceLT,Int.reduceEq,Int.reduceLT,Int.reduceLE,Int.reduceAdd,Int.reduceSub,Int.reduceMul,Int.reduceNeg,Int.reduceNe,reduceCtorEq,Int.reduceToNat,↓reduceIte]
          try rfl
        · simp only [h0, valL, if_true, if_false, wk,if_true,if_false,forall_const,implies_true,ne_eq,eq_self,Nat.reduceEqDiff,Nat.reduceAdd,Nat.reduceMul,Nat.reduceSub,Nat.reduceLeDiff,Nat.reduceLT,Int.reduceEq,Int.reduceLT,Int.reduceLE,Int.reduceAdd,Int.reduceSub,Int.reduceMul,Int.reduceNeg,Int.reduceNe,reduceCtorEq,Int.reduceToNat,↓reduceIte]
          try rfl
      · by_cases h124 : b.toNat = 124
        · have e : runeR s a = 124 := n124.2 (by omega)
          simp only [e, plainL, show ((124 : Nat) : Int) = 124 from rfl, h124, show lttI 124 = false from rfl, Bool.false_eq_true, if_true, if_false, J_ref04_sign_j5, J_ref04_sign_j4, valL, wk,if_true,if_false,forall_const,implies_true,ne_eq,eq_self,Nat.reduceEqDiff,Nat.reduceAdd,Nat.reduceMul,Nat.reduceSub,Nat.reduceLeDiff,Nat.reduceLT,Int.reduceEq,Int.reduceLT,Int.reduceLE,Int.reduceAdd,Int.reduceSub,Int.reduceMul,Int.reduceNeg,Int.reduceNe,reduceCtorEq,Int.reduceToNat,↓reduceIte]
          rw [hn1 (by omega)]
          rfl
        · by_cases h40 : b.toNat = 40
          · have e : runeR s a = 40 := n40.2 (by omega)
            simp only [e, plainL, show ((40 : Nat) : Int) = 40 from rfl, h40, show lttI 40 = false from rfl, Bool.false_eq_true, if_true, if_false, J_ref04_sign_j5, J_ref04_sign_j4, valL, wk,if_true,if_false,forall_const,implies_true,ne_eq,eq_self,Nat.reduceEqDiff,Nat.reduceAdd,Nat.reduceMul,Nat.reduceSub,Nat.reduceLeDiff,Nat.reduceLT,Int.reduceEq,Int.reduceLT,Int.reduceLE,Int.reduceAdd,Int.reduceSub,Int.reduceMul,Int.reduceNeg,Int.reduceNe,reduceCtorEq,Int.reduceToNat,↓reduceIte]
            rw [hn1 (by omega)]
            rfl
          · by_cases h41 : b.toNat = 41
            · have e : runeR s a = 41 := n41.2 (by omega)
              simp only [e, plainL, show ((41 : Nat) : Int) = 41 from rfl, h41, show lttI 41 = false from rfl, Bool.false_eq_true, if_true, if_false, J_ref04_sign_j5, J_ref04_sign_j4, valL, wk,if_true,if_false,forall_const,implies_true,ne_eq,eq_self,Nat.reduceEqDiff,Nat.reduceAdd,Nat.reduceMul,Nat.reduceSub,Nat.reduceLeDiff,Nat.reduceLT,Int.reduceEq,Int.reduceLT,Int.reduceLE,Int.reduceAdd,Int.reduceSub,Int.reduceMul,Int.reduceNeg,Int.reduceNe,reduceCtorEq,Int.reduceToNat,↓reduceIte]
              rw [hn1 (by omega)]
              rfl
            · have e1 : (runeR s a = 68) = False := by rw [n68]; simp; omega
              have e2 : (runeR s a = 124) = False := by rw [n124]; simp; omega
              have e3 : (runeR s a = 40) = False := by rw [n40]; simp; omega
              have e4 : (runeR s a = 41) = False := by rw [n41]; simp; omega
              simp only [e1, e2, e3, e4, not_false_eq_true, true_implies, false_implies, wk,if_true,if_false,forall_const,implies_true,ne_eq,eq_self,Nat.reduceEqDiff,Nat.reduceAdd,Nat.reduceMul,Nat.reduceSub,Nat.reduceLeDiff,Nat.reduceLT,Int.reduceEq,Int.reduceLT,Int.reduceLE,Int.reduceAdd,Int.reduceSub,Int.reduceMul,Int.reduceNeg,Int.reduceNe,reduceCtorEq,Int.reduceToNat,↓reduceIte]
              refine PCalls.use (qdig) ?_; simp only [wk,if_true,if_false,forall_const,implies_true,ne_eq,eq_self,Nat.reduceEqDiff,Nat.reduceAdd,Nat.reduceMul,Nat.reduceSub,Nat.reduceLeDiff,Nat.reduceLT,Int.reduceEq,Int.reduceLT,Int.reduceLE,Int.reduceAdd,Int.reduceSub,Int.reduceMul,Int.reduceNeg,Int.reduceNe,reduceCtorEq,Int.reduceToNat,↓reduceIte]
              simp only [plainL, show lttI b.toNat = false by simpa using hlet, h68, h124, h40, h41, Bool.false_eq_true, if_false]
              refine ⟨fun hdg => ?_, fun hdg => ?_⟩
              · rw [if_pos hdg]
                obtain ⟨L, hL⟩ : ∃ L, L = b :: s.data.toList.drop (a + 1) := ⟨_, rfl⟩
                rw [← hL] at hd ⊢
                have hLl : L.length = s.size - a := by rw [← hd, List.length_drop]; omega
                have hLg : ∀ (n : Nat) (h : n < L.length), byteAt s (a + n) = (L[n]).toNat := fun n h => by
                  rw [byte_at (show a + n < s.data.toList.length by omega)]
                  simp only [← hd, List.getElem_drop]
                have hsl := stopN_le digI L
                refine W_loop (fun m fr h' => ∃ n : Nat, n ≤ stopN digI L ∧ m = L.length - n ∧ h' = [some (false, [.int .i64 0, .str ⟨#[]⟩, .int .i64 0, .int .i64 0]), some (false, [.int .i64 0, .str ⟨#[]⟩, .int .i64 0, .int .i64 a])] ∧ fr = [(0, .str s), (1, .int .i64 a), (4, .ptr 0 0), (6, .ptr 1 0), (16, .int .i64 (a + n : Nat))]) L.length ⟨0, by omega, by omega, rfl, rfl⟩ ?_
                rintro m fr h' ⟨n, hn, rfl, rfl, rfl⟩
                simp only [J_ref04_sign_j3, wk,if_true,if_false,forall_const,implies_true,ne_eq,eq_self,Nat.reduceEqDiff,Nat.reduceAdd,Nat.reduceMul,Nat.reduceSub,Nat.reduceLeDiff,Nat.reduceLT,Int.reduceEq,Int.reduceLT,Int.reduceLE,Int.reduceAdd,Int.reduceSub,Int.reduceMul,Int.reduceNeg,Int.reduceNe,reduceCtorEq,Int.reduceToNat,↓reduceIte]
                have hj : stopN digI L = n → ∀ x, W Try.prog J_ref04_sign_j2 [(0, .str s), (1, .int .i64 a), (4, .ptr 0 0), (6, .ptr 1 0), (16, .int .i64 (a + n : Nat)), (124, x)] [some (false, [.int .i64 0, .str ⟨#[]⟩, .int .i64 0, .int .i64 0]), some (false, [.int .i64 0, .str ⟨#[]⟩, .int .i64 0, .int .i64 a])] (kseq Try.prog J_ref04_sign_j1 (kret [.c 4 (some 4), .t 5] (fun v _ => v = (match (if numW (ba (L.take (stopN digI L))) = true ∧ fineL (L.drop (stopN digI L)) = true then some (8, ba (L.take (stopN digI L)), 0, stopN digI L) else none : Option Sig) with
                    | some (k, w, o, n) => .tup [.agg [.int .i64 k, .str w, .int .i64 o, .int .i64 a], .int .i64 (a + n : Nat)]
                    | none => .tup [.agg [.int .i64 (if (0 : Int) = 0 then 0 else 1), .str ⟨#[]⟩, .int .i64 0, .int .i64 a], .int .i64 (-1)])))) := by
                  intro hst x
                  simp only [J_ref04_sign_j2, Int.toNat_natCast, ext_ba, hd, hst, wk,if_true,if_false,forall_const,implies_true,ne_eq,eq_self,Nat.reduceEqDiff,Nat.reduceAdd,Nat.reduceMul,Nat.reduceSub,Nat.reduceLeDiff,Nat.reduceLT,Int.reduceEq,Int.reduceLT,Int.reduceLE,Int.reduceAdd,Int.reduceSub,Int.reduceMul,Int.reduceNeg,Int.reduceNe,reduceCtorEq,Int.reduceToNat,↓reduceIte]
                  have qn := p_rnumber (ba (L.take n)) (by rw [ba_len2, List.length_take]; omega)
                  have hbn := atB_stop lo_dig (show a ≤ s.size by omega) hb n (by rw [hd]; omega)
                  have qf := p_fine s (a + n) hs (by omega) hbn
                  rw [← List.drop_drop, hd] at qf
                  refine ⟨⟨by omega, by omega, by omega⟩, ?_⟩
                  refine PCalls.use (qn) ?_; simp only [wk,if_true,if_false,forall_const,implies_true,ne_eq,eq_self,Nat.reduceEqDiff,Nat.reduceAdd,Nat.reduceMul,Nat.reduceSub,Nat.reduceLeDiff,Nat.reduceLT,Int.reduceEq,Int.reduceLT,Int.reduceLE,Int.reduceAdd,Int.reduceSub,Int.reduceMul,Int.reduceNeg,Int.reduceNe,reduceCtorEq,Int.reduceToNat,↓reduceIte]
                  refine ⟨fun h1 => ?_, fun h1 => ?_⟩
                  · refine PCalls.use (qf) ?_; simp only [wk,if_true,if_false,forall_const,implies_true,ne_eq,eq_self,Nat.reduceEqDiff,Nat.reduceAdd,Nat.reduceMul,Nat.reduceSub,Nat.reduceLeDiff,Nat.reduceLT,Int.reduceEq,Int.reduceLT,Int.reduceLE,Int.reduceAdd,Int.reduceSub,Int.reduceMul,Int.reduceNeg,Int.reduceNe,reduceCtorEq,Int.reduceToNat,↓reduceIte]
                    refine ⟨fun h2 => ?_, fun h2 => ?_⟩
                    · simp only [h1, h2, valL, Bool.false_eq_true, and_false, if_false, if_true, wk,if_true,if_false,forall_const,implies_true,ne_eq,eq_self,Nat.reduceEqDiff,Nat.reduceAdd,Nat.reduceMul,Nat.reduceSub,Nat.reduceLeDiff,Nat.reduceLT,Int.reduceEq,Int.reduceLT,Int.reduceLE,Int.reduceAdd,Int.reduceSub,Int.reduceMul,Int.reduceNeg,Int.reduceNe,reduceCtorEq,Int.reduceToNat,↓reduceIte]
                      try rfl
                    · simp only [h1, h2, valL, Bool.false_eq_true, and_self, if_false, if_true, Int.toNat_natCast, ext_ba, hd, wk,if_true,if_false,forall_const,implies_true,ne_eq,eq_self,Nat.reduceEqDiff,Nat.reduceAdd,Nat.reduceMul,Nat.reduceSub,Nat.reduceLeDiff,Nat.reduceLT,Int.reduceEq,Int.reduceLT,Int.reduceLE,Int.reduceAdd,Int.reduceSub,Int.reduceMul,Int.reduceNeg,Int.reduceNe,reduceCtorEq,Int.reduceToNat,↓reduceIte]
                      first
                        | rfl
                        | exact ⟨⟨by omega, by omega, by omega⟩, rfl⟩
                        | exact ⟨by omega, by omega, by omega⟩
                  · simp only [h1, valL, Bool.false_eq_true, false_and, if_false, if_true, wk,if_true,if_false,forall_const,implies_true,ne_eq,eq_self,Nat.reduceEqDiff,Nat.reduceAdd,Nat.reduceMul,Nat.reduceSub,Nat.reduceLeDiff,Nat.reduceLT,Int.reduceEq,Int.reduceLT,Int.reduceLE,Int.reduceAdd,Int.reduceSub,Int.reduceMul,Int.reduceNeg,Int.reduceNe,reduceCtorEq,Int.reduceToNat,↓reduceIte]
                    try rfl
                refine ⟨fun hlt => ⟨⟨by omega, by omega⟩, ?_⟩, fun hge => hj (by omega) _⟩
                have hnl : n < L.length := by omega
                rw [Int.toNat_natCast, hLg n hnl, conv_u8]
                refine PCalls.use (p_rdigit (L[n]).toNat) ?_; simp only [wk,if_true,if_false,forall_const,implies_true,ne_eq,eq_self,Nat.reduceEqDiff,Nat.reduceAdd,Nat.reduceMul,Nat.reduceSub,Nat.reduceLeDiff,Nat.reduceLT,Int.reduceEq,Int.reduceLT,Int.reduceLE,Int.reduceAdd,Int.reduceSub,Int.reduceMul,Int.reduceNeg,Int.reduceNe,reduceCtorEq,Int.reduceToNat,↓reduceIte]
                refine ⟨fun hin => ⟨inR_of (by omega) (by omega), L.length - (n + 1), by omega, n + 1, stop_more hnl hn hin, rfl, by simp; omega⟩, fun hin => hj (stop_done hnl hn hin) _⟩
              · rw [if_neg (by simp [hdg])]
                have hsb : sigW (s.extract a (runeN s a)) = sigB b.toNat := by
                  by_cases hc : b.toNat < 128
                  · rw [hn1 hc, ext_ba, hd]
                    unfold sigW
                    rw [ba_len2, byte_at (by rw [ba_list]; simp)]
                    simp [ba_list]
                  · have hk : sigB b.toNat = false := by
                      simp [sigB]; omega
                    rw [hk]
                    unfold runeN
                    obtain ⟨d1, d2, d3, _⟩ := dec_ge hal (by rw [← hb1]; exact hc)
                    rw [if_pos ha, ext_ba, hd]
                    unfold sigW
                    obtain ⟨w, hw⟩ : ∃ w, (Utf8.decode s a).2 = w + 1 := ⟨(Utf8.decode s a).2 - 1, by omega⟩
                    rw [hw, List.take_succ_cons, byte_at (by rw [ba_list]; simp)]
                    simp only [ba_list, List.getElem_cons_zero, hk, Bool.and_false]
                have hrn : a ≤ runeN s a ∧ runeN s a ≤ s.size := by
                  unfold runeN
                  rw [if_pos ha]
                  have := step_one ha
                  omega
                simp only [J_ref04_sign_j1, Int.toNat_natCast, wk,if_true,if_false,forall_const,implies_true,ne_eq,eq_self,Nat.reduceEqDiff,Nat.reduceAdd,Nat.reduceMul,Nat.reduceSub,Nat.reduceLeDiff,Nat.reduceLT,Int.reduceEq,Int.reduceLT,Int.reduceLE,Int.reduceAdd,Int.reduceSub,Int.reduceMul,Int.reduceNeg,Int.reduceNe,reduceCtorEq,Int.reduceToNat,↓reduceIte]
                refine ⟨⟨by omega, by omega, by omega⟩, ?_⟩
                have qs := p_isSign (s.extract a (runeN s a))
                rw [hsb] at qs
                refine PCalls.use (qs) ?_; simp only [wk,if_true,if_false,forall_const,implies_true,ne_eq,eq_self,Nat.reduceEqDiff,Nat.reduceAdd,Nat.reduceMul,Nat.reduceSub,Nat.reduceLeDiff,Nat.reduceLT,Int.reduceEq,Int.reduceLT,Int.reduceLE,Int.reduceAdd,Int.reduceSub,Int.reduceMul,Int.reduceNeg,Int.reduceNe,reduceCtorEq,Int.reduceToNat,↓reduceIte]
                refine ⟨fun h1 => ?_, fun h1 => ?_⟩
                · simp only [h1, valL, Bool.false_eq_true, if_false, if_true, wk,if_true,if_false,forall_const,implies_true,ne_eq,eq_self,Nat.reduceEqDiff,Nat.reduceAdd,Nat.reduceMul,Nat.reduceSub,Nat.reduceLeDiff,Nat.reduceLT,Int.reduceEq,Int.reduceLT,Int.reduceLE,Int.reduceAdd,Int.reduceSub,Int.reduceMul,Int.reduceNeg,Int.reduceNe,reduceCtorEq,Int.reduceToNat,↓reduceIte]
                  try rfl
                · have hc : b.toNat < 128 := by
                    simp [sigB] at h1; omega
                  simp only [h1, hn1 hc, ext_ba, hd, valL, Int.toNat_natCast, if_true, List.take_succ_cons, List.take_zero, wk,if_true,if_false,forall_const,implies_true,ne_eq,eq_self,Nat.reduceEqDiff,Nat.reduceAdd,Nat.reduceMul,Nat.reduceSub,Nat.reduceLeDiff,Nat.reduceLT,Int.reduceEq,Int.reduceLT,Int.reduceLE,Int.reduceAdd,Int.reduceSub,Int.reduceMul,Int.reduceNeg,Int.reduceNe,reduceCtorEq,Int.reduceToNat,↓reduceIte]
                  first
                    | exact ⟨⟨by omega, by omega, by omega⟩, rfl⟩
                    | exact ⟨by omega, by omega, by omega⟩
end Go.Proofs.Ytmbijfcjfhdnjaa

/- All tokens of a text: the plain function; the reference's All. -/
namespace Go.Proofs.Ytmbijfcjfhdnjaa
set_option linter.unusedSimpArgs false
set_option linter.unusedVariables false
open Go.RowKit Go.Lib

structure Tok where
  kind : Int
  name : ByteArray
  of : Int
  at_ : Int
def tC (t : Tok) : List AV := [.int .i64 t.kind, .str t.name, .int .i64 t.of, .int .i64 t.at_]
def toksC (l : List Tok) : List AV := l.flatMap tC
def vToks (l : List Tok) : AV := .lst .ro l.length (toksC l)
theorem frees_toks (l : List Tok) : free.frees (toksC l) = true := by
  induction l with
  | nil => rfl
  | cons x l ih => simp only [toksC, List.flatMap_cons, tC, List.cons_append, List.nil_append, free.frees, free, Bool.true_and] at ih ⊢; exact ih
theorem rdps_toks : ∀ l : List Tok, rdps (toksC l) = toksC l
  | [] => rdps_nil
  | x :: l => by
    have := rdps_toks l
    simp only [toksC, List.flatMap_cons, tC, List.cons_append, List.nil_append, rdpw] at this ⊢
    rw [this]
theorem toksC_sn (l : List Tok) (t : Tok) : toksC (l ++ [t]) = toksC l ++ [.int .i64 t.kind, .str t.name, .int .i64 t.of, .int .i64 t.at_] := by
  simp [toksC, tC]
theorem toksC_len (l : List Tok) : (toksC l).length = l.length * 4 := by
  induction l with
  | nil => rfl
  | cons x l ih => simp only [toksC, List.flatMap_cons, List.length_append, tC, List.length_cons, List.length_nil] at ih ⊢; omega
theorem toksC_drop : ∀ {l : List Tok} {i : Nat} (h : i < l.length), (toksC l).drop (i * 4) = .int .i64 l[i].kind :: .str l[i].name :: .int .i64 l[i].of :: .int .i64 l[i].at_ :: (toksC l).drop ((i + 1) * 4)
  | [], _, h => by simp at h
  | w :: l, 0, h => by simp [toksC, tC]
  | w :: l, i + 1, h => by
    have := toksC_drop (l := l) (i := i) (by simpa using h)
    simp only [toksC, List.flatMap_cons, tC, List.cons_append, List.nil_append] at this ⊢
    rw [show (i + 1) * 4 = i * 4 + 1 + 1 + 1 + 1 by omega, show (i + 1 + 1) * 4 = (i + 1) * 4 + 1 + 1 + 1 + 1 by omega]
    simp only [List.drop_succ_cons, List.getElem_cons_succ]
    exact this
/-- what a name's length says -/
theorem nameL_ok {l : List UInt8} {n : Nat} (h : nameL l = some n) : n = stopN innI l ∧ 1 ≤ n ∧ n ≤ 24 ∧ n ≤ l.length ∧ ∃ b r, l = b :: r ∧ lttI b.toNat = true := by
  unfold nameL at h
  split at h
  · cases h
  · next b r =>
    split at h
    · next hc =>
      simp only [Option.some.injEq] at h
      subst h
      have hle := stopN_le innI (b :: r)
      refine ⟨rfl, ?_, hc.2.1, hle, b, r, rfl, hc.1⟩
      have hi : innI b.toNat = true := by unfold innI; rw [hc.1]; rfl
      have := stop_more (q := innI) (l := b :: r) (n := 0) (by simp) (by omega) hi
      omega
    · cases h
/-- what is a token's is ASCII -/
def ascii (l : List UInt8) (n : Nat) : Prop := 1 ≤ n ∧ n ≤ l.length ∧ ∀ (i : Nat) (h : i < l.length), i < n → (l[i]).toNat < 128
theorem ascii_one {b : UInt8} {r : List UInt8} (h : b.toNat < 128) : ascii (b :: r) 1 := by
  refine ⟨Nat.le_refl _, by simp, fun i hi h1 => ?_⟩
  obtain rfl : i = 0 := by omega
  exact h
theorem ascii_stop {q : Int → Bool} (hq : ∀ r, 128 ≤ r → q r = false) {l : List UInt8} (h : 1 ≤ stopN q l) : ascii l (stopN q l) := by
  refine ⟨h, stopN_le q l, fun i hi h1 => ?_⟩
  have := stopN_at hi h1
  by_cases hc : (l[i]).toNat < 128
  · exact hc
  · rw [hq _ (by omega)] at this; cases this
theorem plainL_ascii {l : List UInt8} {k : Int} {w : ByteArray} {o : Int} {n : Nat} (h : plainL l = some (k, w, o, n)) : ascii l n := by
  unfold plainL at h
  split at h
  · cases h
  · next b r =>
    have one : ∀ k' : Sig, some k' = some (k, w, o, n) → k'.2.2.2 = n := fun k' e => by simp only [Option.some.injEq] at e; rw [e]
    split at h
    · next hlet =>
      split at h
      · cases h
      · next m hm =>
        obtain ⟨e1, e2, _⟩ := nameL_ok hm
        have : m = n := by
          split at h <;> exact one _ h
        subst this
        rw [e1] at e2 ⊢
        exact ascii_stop lo_inn e2
    · split at h
      · next h68 =>
        split at h
        · rw [← one _ h]; exact ascii_one (by omega)
        · cases h
      · split at h
        · next hc => rw [← one _ h]; exact ascii_one (by omega)
        · split at h
          · next hc => rw [← one _ h]; exact ascii_one (by omega)
          · split at h
            · next hc => rw [← one _ h]; exact ascii_one (by omega)
            · split at h
              · next hc =>
                split at h
                · next hn =>
                  rw [← one _ h]
                  refine ascii_stop lo_dig ?_
                  exact stop_more (q := digI) (l := b :: r) (n := 0) (by simp) (by omega) hc
                · cases h
              · split at h
                · next hc => rw [← one _ h]; exact ascii_one (by simp [sigB] at hc; omega)
                · cases h
theorem kindL_cases (l : List UInt8) : kindL l = 0 ∨ (kindL l ∈ kinds ∧ begL (preW (kindL l)) l = true) := by
  unfold kindL kinds
  split
  · next h => right; exact ⟨by simp, h⟩
  · split
    · next h => right; exact ⟨by simp, h⟩
    · split
      · next h => right; exact ⟨by simp, h⟩
      · split
        · next h => right; exact ⟨by simp, h⟩
        · exact .inl rfl
theorem signL_ascii {l : List UInt8} {k : Int} {w : ByteArray} {o : Int} {n : Nat} (h : signL l = some (k, w, o, n)) : ascii l n := by
  unfold signL at h
  split at h
  · exact plainL_ascii h
  · next hk =>
    rcases kindL_cases l with h0 | ⟨hm, hbg⟩
    · exact absurd h0 hk
    · obtain ⟨g1, g2, g3⟩ := pre_ok hm
      unfold atomL at h
      split at h
      · cases h
      · next m hn =>
        simp only [Option.some.injEq, Prod.mk.injEq] at h
        obtain ⟨_, _, _, rfl⟩ := h
        obtain ⟨e1, e2, _, e3, _⟩ := nameL_ok hn
        rw [List.length_drop] at e3
        refine ⟨by omega, by omega, fun i hi h1 => ?_⟩
        rcases Nat.lt_or_ge i (preW (kindL l)).size with h2 | h2
        · unfold begL at hbg
          have h3 := of_decide_eq_true hbg
          refine g3 _ ?_
          rw [← h3, List.mem_iff_getElem]
          exact ⟨i, by rw [List.length_take]; omega, by rw [List.getElem_take]⟩
        · obtain ⟨j, rfl⟩ : ∃ j, i = (preW (kindL l)).size + j := ⟨i - (preW (kindL l)).size, by omega⟩
          have hj : j < (l.drop (preW (kindL l)).size).length := by rw [List.length_drop]; omega
          have := stopN_at (q := innI) hj (by omega)
          rw [List.getElem_drop] at this
          by_cases hc : (l[(preW (kindL l)).size + j]).toNat < 128
          · exact hc
          · rw [lo_inn _ (by omega)] at this; cases this
abbrev Res := List Tok × Nat × Int
def blankB (b : UInt8) : Bool := b.toNat == 32 || b.toNat == 9 || b.toNat == 10
def scanF : Nat → List UInt8 → Nat → List Tok → Res
  | 0, _, _, acc => (acc, 0, 0)
  | _ + 1, [], _, acc => (acc, 0, 0)
  | f + 1, b :: r, a, acc =>
    if blankB b = true then scanF f r (a + 1) acc
    else if b.toNat = 35 then scanF f ((b :: r).drop (stopN notI (b :: r))) (a + stopN notI (b :: r)) acc
    else match signL (b :: r) with
      | none => ([], a, 2)
      | some (k, w, o, n) => if acc.length = 1000 then ([], a, 3) else scanF f ((b :: r).drop n) (a + n) (acc ++ [⟨k, w, o, a⟩])
theorem note_one {b : UInt8} {r : List UInt8} (h : b.toNat = 35) : 1 ≤ stopN notI (b :: r) := stop_more (q := notI) (l := b :: r) (n := 0) (by simp) (by omega) (by show notI b.toNat = true; rw [h]; rfl)
theorem scanF_more : ∀ (f g : Nat) (l : List UInt8) (a : Nat) (acc : List Tok), l.length ≤ f → l.length ≤ g → scanF f l a acc = scanF g l a acc
  | 0, 0, _, _, _, _, _ => rfl
  | 0, g + 1, l, a, acc, h, _ => by
    have : l = [] := List.eq_nil_of_length_eq_zero (by omega)
    subst this; rfl
  | f + 1, 0, l, a, acc, _, h => by
    have : l = [] := List.eq_nil_of_length_eq_zero (by omega)
    subst this; rfl
  | f + 1, g + 1, [], a, acc, _, _ => rfl
  | f + 1, g + 1, b :: r, a, acc, h1, h2 => by
    simp only [List.length_cons] at h1 h2
    simp only [scanF]
    split
    · exact scanF_more f g r _ _ (by omega) (by omega)
    · split
      · next h => have := note_one (r := r) h; exact scanF_more f g _ _ _ (by simp; omega) (by simp; omega)
      · split
        · rfl
        · next k w o n hs =>
          split
          · rfl
          · have := (signL_ascii hs).1
            exact scanF_more f g _ _ _ (by simp; omega) (by simp; omega)
def scan (l : List UInt8) (a : Nat) (acc : List Tok) : Res := scanF l.length l a acc
theorem scan_nil (a : Nat) (acc : List Tok) : scan [] a acc = (acc, 0, 0) := rfl
theorem scan_cons (b : UInt8) (r : List UInt8) (a : Nat) (acc : List Tok) : scan (b :: r) a acc =
    if blankB b = true then scan r (a + 1) acc
    else if b.toNat = 35 then scan ((b :: r).drop (stopN notI (b :: r))) (a + stopN notI (b :: r)) acc
    else match signL (b :: r) with
      | none => ([], a, 2)
      | some (k, w, o, n) => if acc.length = 1000 then ([], a, 3) else scan ((b :: r).drop n) (a + n) (acc ++ [⟨k, w, o, a⟩]) := by
  unfold scan
  simp only [List.length_cons, scanF]
  split
  · rfl
  · split
    · next h => have := note_one (r := r) h; exact scanF_more _ _ _ _ _ (by simp; omega) (by simp)
    · split
      · rfl
      · next k w o n hs =>
        split
        · rfl
        · have := (signL_ascii hs).1
          exact scanF_more _ _ _ _ _ (by simp; omega) (by simp)
/-- ALL TOKENS of a text -/
def allT (s : ByteArray) : Res := if 4000 < s.size then ([], 0, 3) else scan s.data.toList 0 []
def resV (r : Res) : AV := .tup [vToks r.1, .int .i64 r.2.1, .int .i64 r.2.2]
theorem ascii_at {s : ByteArray} {a n : Nat} (ha : a ≤ s.size) (h : ascii (s.data.toList.drop a) n) : a + n ≤ s.size ∧ atB s (a + n) := by
  have hl := len_size s
  obtain ⟨h1, h2, h3⟩ := h
  rw [List.length_drop] at h2
  refine ⟨by omega, .inr ⟨by omega, ?_⟩⟩
  have := h3 (n - 1) (by rw [List.length_drop]; omega) (by omega)
  rw [List.getElem_drop] at this
  have e : a + n - 1 = a + (n - 1) := by omega
  simp only [e]; exact this
theorem free_resV (r : Res) : free (resV r) = true := by simp [resV, vToks, free, free.frees, frees_toks]
/-- where the rest of a note is passed over -/
def restN (s : ByteArray) (a : Nat) (note : Bool) (acc : List Tok) : Res :=
  if note = true then scan (s.data.toList.drop (a + stopN notI (s.data.toList.drop a))) (a + stopN notI (s.data.toList.drop a)) acc else scan (s.data.toList.drop a) a acc
theorem stopN_cons {q : Int → Bool} {b : UInt8} {r : List UInt8} (h : q b.toNat = true) : stopN q (b :: r) = stopN q r + 1 := by unfold stopN; simp [List.takeWhile_cons, h]
theorem stopN_zero {q : Int → Bool} {b : UInt8} {r : List UInt8} (h : q b.toNat = false) : stopN q (b :: r) = 0 := by unfold stopN; simp [List.takeWhile_cons, h]
set_option maxRecDepth 100000 in
set_option maxHeartbeats 4000000 in
theorem p_rall (s : ByteArray) (hs : s.size ≤ 1000000) : PCalls Try.prog 29 [.str s] (resV (allT s)) := by
  have hl := len_size s
  refine pcalls_of rfl (free_resV _) (ACalls.deep (acalls_of mixed J_ref04_All_ok (Nat.le_of_ble_eq_true rfl) ?_)); simp only [J_ref04_All, wk,if_true,if_false,forall_const,implies_true,ne_eq,eq_self,Nat.reduceEqDiff,Nat.reduceAdd,Nat.reduceMul,Nat.reduceSub,Nat.reduceLeDiff,Nat.reduceLT,Int.reduceEq,Int.reduceLT,Int.reduceLE,Int.reduceAdd,Int.reduceSub,Int.reduceMul,Int.reduceNeg,Int.reduceNe,reduceCtorEq,Int.reduceToNat,↓reduceIte]
  unfold allT
  refine ⟨fun hbig => ?_, fun hbig => ?_⟩
  · rw [if_pos (by omega)]
    simp only [rdpw, resV, vToks, toksC]
    rfl
  rw [if_neg (by omega)]
  refine W_loop (fun m fr h' => ∃ (a : Nat) (note : Bool) (acc : List Tok), a ≤ s.size ∧ m = s.size - a ∧ acc.length ≤ 1000 ∧ (note = false → atB s a) ∧ scan s.data.toList 0 [] = restN s a note acc ∧ fr = [(0, .str s), (5, .lst (.own 28) acc.length (toksC acc)), (6, .int .i64 a), (7, .bool note)]) s.size ⟨0, false, [], by omega, by omega, by simp, fun _ => .inl rfl, by unfold restN; simp, rfl⟩ ?_
  rintro m fr h' ⟨a, note, acc, ha, rfl, hacc, hnb, hscan, rfl⟩
  simp only [J_ref04_All_j4, wk,if_true,if_false,forall_const,implies_true,ne_eq,eq_self,Nat.reduceEqDiff,Nat.reduceAdd,Nat.reduceMul,Nat.reduceSub,Nat.reduceLeDiff,Nat.reduceLT,Int.reduceEq,Int.reduceLT,Int.reduceLE,Int.reduceAdd,Int.reduceSub,Int.reduceMul,Int.reduceNeg,Int.reduceNe,reduceCtorEq,Int.reduceToNat,↓reduceIte]
  refine ⟨fun hlt => ⟨⟨by omega, by omega⟩, ?_⟩, fun hge => ?_⟩
  · have hal : a < s.data.toList.length := by omega
    have hd : s.data.toList.drop a = s.data.toList[a] :: s.data.toList.drop (a + 1) := List.drop_eq_getElem_cons hal
    obtain ⟨b, hb1⟩ : ∃ b, b = s.data.toList[a] := ⟨_, rfl⟩
    rw [← hb1] at hd
    rw [Int.toNat_natCast, byte_at hal, ← hb1]
    -- behind a byte that is passed over
    have next : ∀ (note' : Bool), (note' = false → atB s (a + 1)) → restN s a note acc = restN s (a + 1) note' acc → ∃ m, m < s.size - a ∧ ∃ (a' : Nat) (n' : Bool) (acc' : List Tok), a' ≤ s.size ∧ m = s.size - a' ∧ acc'.length ≤ 1000 ∧ (n' = false → atB s a') ∧ scan s.data.toList 0 [] = restN s a' n' acc' ∧ [(0, AV.str s), (5, .lst (.own 28) acc.length (toksC acc)), (6, .int .i64 (a + 1)), (7, .bool note')] = [(0, .str s), (5, .lst (.own 28) acc'.length (toksC acc')), (6, .int .i64 a'), (7, .bool n')] := fun note' h1 h2 =>
      ⟨s.size - (a + 1), by omega, a + 1, note', acc, by omega, rfl, hacc, h1, hscan.trans h2, by simp⟩
    have hab : b.toNat < 128 → atB s (a + 1) := fun h => .inr ⟨by omega, by simp only [Nat.add_sub_cancel, ← hb1]; exact h⟩
    have r_note : ∀ acc', notI b.toNat = true → restN s a true acc' = restN s (a + 1) true acc' := fun acc' hq => by
      unfold restN
      rw [if_pos rfl, if_pos rfl, hd, stopN_cons hq]
      rw [show a + (stopN notI (s.data.toList.drop (a + 1)) + 1) = a + 1 + stopN notI (s.data.toList.drop (a + 1)) by omega]
    have r_end : ∀ nt : Bool, b.toNat = 10 → restN s a nt acc = restN s (a + 1) false acc := fun nt h => by
      have hz : stopN notI (b :: s.data.toList.drop (a + 1)) = 0 := stopN_zero (by rw [h]; rfl)
      have hs1 : scan (b :: s.data.toList.drop (a + 1)) a acc = scan (s.data.toList.drop (a + 1)) (a + 1) acc := by rw [scan_cons, if_pos (by simp [blankB, h])]
      unfold restN
      cases nt with
      | true => rw [if_pos rfl, if_neg (by simp), hd, hz, Nat.add_zero, hd, hs1]
      | false => rw [if_neg (by simp), if_neg (by simp), hd, hs1]
    have r_blank : blankB b = true → restN s a false acc = restN s (a + 1) false acc := fun h => by
      unfold restN
      rw [if_neg (by simp), if_neg (by simp), hd, scan_cons, if_pos h]
    have r_hash : b.toNat = 35 → restN s a false acc = restN s (a + 1) true acc := fun h => by
      have hq : notI b.toNat = true := by rw [h]; rfl
      unfold restN
      rw [if_neg (by simp), if_pos rfl, hd, scan_cons, if_neg (by simp [blankB, h]), if_pos h, stopN_cons hq, List.drop_succ_cons, List.drop_drop]
      rw [show a + (stopN notI (s.data.toList.drop (a + 1)) + 1) = a + 1 + stopN notI (s.data.toList.drop (a + 1)) by omega]
    refine ⟨fun e10 => ?_, fun e10 => ?_⟩
    · have h10 : b.toNat = 10 := by omega
      simp only [J_ref04_All_j3, J_ref04_All_j2, e10, wk,if_true,if_false,forall_const,implies_true,ne_eq,eq_self,Nat.reduceEqDiff,Nat.reduceAdd,Nat.reduceMul,Nat.reduceSub,Nat.reduceLeDiff,Nat.reduceLT,Int.reduceEq,Int.reduceLT,Int.reduceLE,Int.reduceAdd,Int.reduceSub,Int.reduceMul,Int.reduceNeg,Int.reduceNe,reduceCtorEq,Int.reduceToNat,↓reduceIte]
      exact ⟨inR_of (by omega) (by omega), next false (fun _ => hab (by omega)) (r_end note h10)⟩
    · have hq : notI b.toNat = true := by simp [notI]; omega
      simp only [J_ref04_All_j3, wk,if_true,if_false,forall_const,implies_true,ne_eq,eq_self,Nat.reduceEqDiff,Nat.reduceAdd,Nat.reduceMul,Nat.reduceSub,Nat.reduceLeDiff,Nat.reduceLT,Int.reduceEq,Int.reduceLT,Int.reduceLE,Int.reduceAdd,Int.reduceSub,Int.reduceMul,Int.reduceNeg,Int.reduceNe,reduceCtorEq,Int.reduceToNat,↓reduceIte]
      refine ⟨fun e35 => ?_, fun e35 => ?_⟩
      · simp only [J_ref04_All_j2, e35, wk,if_true,if_false,forall_const,implies_true,ne_eq,eq_self,Nat.reduceEqDiff,Nat.reduceAdd,Nat.reduceMul,Nat.reduceSub,Nat.reduceLeDiff,Nat.reduceLT,Int.reduceEq,Int.reduceLT,Int.reduceLE,Int.reduceAdd,Int.reduceSub,Int.reduceMul,Int.reduceNeg,Int.reduceNe,reduceCtorEq,Int.reduceToNat,↓reduceIte]
        refine ⟨inR_of (by omega) (by omega), next true (fun h => by cases h) ?_⟩
        cases note with
        | true => exact r_note acc hq
        | false => exact r_hash (by omega)
      · cases note with
        | true =>
          simp only [J_ref04_All_j2, wk,if_true,if_false,forall_const,implies_true,ne_eq,eq_self,Nat.reduceEqDiff,Nat.reduceAdd,Nat.reduceMul,Nat.reduceSub,Nat.reduceLeDiff,Nat.reduceLT,Int.reduceEq,Int.reduceLT,Int.reduceLE,Int.reduceAdd,Int.reduceSub,Int.reduceMul,Int.reduceNeg,Int.reduceNe,reduceCtorEq,Int.reduceToNat,↓reduceIte]
          exact ⟨inR_of (by omega) (by omega), next true (fun h => by cases h) (r_note acc hq)⟩
        | false =>
          have hba := hnb rfl
          have e10f : ((b.toNat : Int) = 10) = False := by simpa using e10
          by_cases hbl : blankB b = true
          · have h2 : b.toNat = 32 ∨ b.toNat = 9 := by simp [blankB] at hbl; omega
            have hn := next false (fun _ => hab (by omega)) (r_blank hbl)
            simp only [J_ref04_All_j2, wk,if_true,if_false,forall_const,implies_true,ne_eq,eq_self,Nat.reduceEqDiff,Nat.reduceAdd,Nat.reduceMul,Nat.reduceSub,Nat.reduceLeDiff,Nat.reduceLT,Int.reduceEq,Int.reduceLT,Int.reduceLE,Int.reduceAdd,Int.reduceSub,Int.reduceMul,Int.reduceNeg,Int.reduceNe,reduceCtorEq,Int.reduceToNat,↓reduceIte]
            refine ⟨fun e32 => ?_, fun e32 => ?_⟩
            · exact ⟨fun e9 => ⟨fun _ => ⟨inR_of (by omega) (by omega), hn⟩, fun n10 => by omega⟩, fun _ => ⟨inR_of (by omega) (by omega), hn⟩⟩
            · exact ⟨inR_of (by omega) (by omega), hn⟩
          · have b1 : ((b.toNat : Int) = 32) = False := by simp [blankB] at hbl ⊢; omega
            have b2 : ((b.toNat : Int) = 9) = False := by simp [blankB] at hbl ⊢; omega
            simp only [J_ref04_All_j2, e10f, b1, b2, not_false_eq_true, true_implies, false_implies, wk,if_true,if_false,forall_const,implies_true,ne_eq,eq_self,Nat.reduceEqDiff,Nat.reduceAdd,Nat.reduceMul,Nat.reduceSub,Nat.reduceLeDiff,Nat.reduceLT,Int.reduceEq,Int.reduceLT,Int.reduceLE,Int.reduceAdd,Int.reduceSub,Int.reduceMul,Int.reduceNeg,Int.reduceNe,reduceCtorEq,Int.reduceToNat,↓reduceIte]
            have qs := p_rsign s a hs (by omega) hba
            unfold signRV at qs
            rw [hd] at qs
            have hrest : scan s.data.toList 0 [] = match signL (b :: s.data.toList.drop (a + 1)) with
                | none => ([], a, 2)
                | some (k, w, o, n) => if acc.length = 1000 then ([], a, 3) else scan ((b :: s.data.toList.drop (a + 1)).drop n) (a + n) (acc ++ [⟨k, w, o, a⟩]) := by
              rw [hscan]
              unfold restN
              rw [if_neg (by simp), hd, scan_cons, if_neg hbl, if_neg (by omega)]
            cases hsg : signL (b :: s.data.toList.drop (a + 1)) with
            | none =>
              rw [hsg] at qs hrest
              refine PCalls.use (qs) ?_; simp only [wk,if_true,if_false,forall_const,implies_true,ne_eq,eq_self,Nat.reduceEqDiff,Nat.reduceAdd,Nat.reduceMul,Nat.reduceSub,Nat.reduceLeDiff,Nat.reduceLT,Int.reduceEq,Int.reduceLT,Int.reduceLE,Int.reduceAdd,Int.reduceSub,Int.reduceMul,Int.reduceNeg,Int.reduceNe,reduceCtorEq,Int.reduceToNat,↓reduceIte]
              simp only [hrest, resV, vToks, toksC, rdpw, wk,if_true,if_false,forall_const,implies_true,ne_eq,eq_self,Nat.reduceEqDiff,Nat.reduceAdd,Nat.reduceMul,Nat.reduceSub,Nat.reduceLeDiff,Nat.reduceLT,Int.reduceEq,Int.reduceLT,Int.reduceLE,Int.reduceAdd,Int.reduceSub,Int.reduceMul,Int.reduceNeg,Int.reduceNe,reduceCtorEq,Int.reduceToNat,↓reduceIte]
              rfl
            | some x =>
              obtain ⟨k, w, o, n⟩ := x
              rw [hsg] at qs hrest
              refine PCalls.use (qs) ?_; simp only [wk,if_true,if_false,forall_const,implies_true,ne_eq,eq_self,Nat.reduceEqDiff,Nat.reduceAdd,Nat.reduceMul,Nat.reduceSub,Nat.reduceLeDiff,Nat.reduceLT,Int.reduceEq,Int.reduceLT,Int.reduceLE,Int.reduceAdd,Int.reduceSub,Int.reduceMul,Int.reduceNeg,Int.reduceNe,reduceCtorEq,Int.reduceToNat,↓reduceIte]
              have hasc := signL_ascii hsg
              rw [← hd] at hasc
              obtain ⟨k1, k2⟩ := ascii_at (by omega) hasc
              have hn1 := hasc.1
              refine ⟨fun h => by omega, fun _ => ⟨fun h => ?_, fun h => ?_⟩⟩
              · simp only [hrest, show acc.length = 1000 by omega, if_true, resV, vToks, toksC, rdpw]
                rfl
              · refine ⟨⟨by omega, by omega⟩, s.size - (a + n), by omega, a + n, false, acc ++ [⟨k, w, o, a⟩], by omega, rfl, by simp; omega, fun _ => k2, ?_, ?_⟩
                · rw [hrest]
                  simp only
                  rw [if_neg (by omega), ← hd, List.drop_drop]
                  unfold restN
                  rw [if_neg (by simp)]
                · simp [toksC_sn]
  · have hn : scan s.data.toList 0 [] = (acc, 0, 0) := by
      rw [hscan]
      unfold restN
      rw [List.drop_of_length_le (by omega), List.drop_of_length_le (by omega)]
      split <;> rfl
    simp only [J_ref04_All_j1, hn, resV, vToks, rdpw, rdps_toks, wk,if_true,if_false,forall_const,implies_true,ne_eq,eq_self,Nat.reduceEqDiff,Nat.reduceAdd,Nat.reduceMul,Nat.reduceSub,Nat.reduceLeDiff,Nat.reduceLT,Int.reduceEq,Int.reduceLT,Int.reduceLE,Int.reduceAdd,Int.reduceSub,Int.reduceMul,Int.reduceNeg,Int.reduceNe,reduceCtorEq,Int.reduceToNat,↓reduceIte]
    rfl
end Go.Proofs.Ytmbijfcjfhdnjaa

/- Expressions: plain laws: what the reader's stack reads of tokens is what the document's way, by the last sign that binds least, reads; what is written is read; terms as trees, told from the front and from behind; texts; what is read, written, has no more parentheses; what tokens are read as, and where they are wrong. No program in sight. -/
namespace Go.Proofs.Ytmbijfcjfhdnjaa
set_option linter.unusedSimpArgs false
set_option linter.unusedVariables false
open Go.RowKit Go.Lib

structure Trm where
  op : Int
  of : Int
  name : ByteArray
def sgn (k : Int) : Trm := ⟨k, 0, ⟨#[]⟩⟩
def leaf (t : Tok) : Trm := ⟨1, t.of, t.name⟩
/-- how closely a sign binds; 0: it is none -/
def bindK (k : Int) : Int := if k = 2 then 1 else if k = 3 then 2 else if k = 4 then 3 else if k = 5 then 4 else 0
/-- which signs that wait are laid, and which wait on (the last one ahead) -/
def popL (m : Int) (w : List Int) : List Int := w.takeWhile fun k => decide (m ≤ bindK k)
def popR (m : Int) (w : List Int) : List Int := w.dropWhile fun k => decide (m ≤ bindK k)
/-- what the reader does with a token that may stand there -/
def sstep (s : List Trm × List Int) (t : Tok) : List Trm × List Int :=
  if t.kind = 1 then (s.1 ++ [leaf t], s.2)
  else if t.kind = 6 then (s.1, 6 :: s.2)
  else if t.kind = 7 then (s.1 ++ (popL 1 s.2).map sgn, (popR 1 s.2).tail)
  else (s.1 ++ (popL (bindK t.kind) s.2).map sgn, t.kind :: popR (bindK t.kind) s.2)
def srun (l : List Tok) (s : List Trm × List Int) : List Trm × List Int := l.foldl sstep s
/-- the terms that are read -/
def readD (l : List Tok) : List Trm := (srun l ([], [])).1 ++ (popL 1 (srun l ([], [])).2).map sgn
/-- may a token stand there? whether a part stands behind, and how many parentheses are open -/
def cstep (M : Nat) (b : Bool) (n : Nat) (az : Bool) (t : Tok) : Option (Bool × Nat) :=
  if b = false then
    (if t.kind = 1 ∧ (az = false ∨ t.of = 5) then some (true, n)
    else if t.kind = 6 ∧ az = false then (if n = M then none else some (false, n + 1))
    else none)
  else if t.kind = 7 then (if 0 < n then some (true, n - 1) else none)
  else if 0 < bindK t.kind then some (false, n)
  else none
def ctl (M : Nat) (b : Bool) (n : Nat) (az : Bool) : List Tok → Option (Bool × Nat)
  | [] => some (b, n)
  | t :: l => match cstep M b n az t with
    | none => none
    | some (b', n') => ctl M b' n' (decide (t.kind = 5)) l
def accT (M : Nat) (l : List Tok) : Prop := ctl M false 0 false l = some (true, 0)
theorem bind6 : bindK 6 = 0 := by decide
theorem bind7 : bindK 7 = 0 := by decide
theorem bind1 : bindK 1 = 0 := by decide
theorem bind_pos {k : Int} (h : 0 < bindK k) : k = 2 ∨ k = 3 ∨ k = 4 ∨ k = 5 := by
  unfold bindK at h
  split at h <;> (try split at h) <;> (try split at h) <;> (try split at h) <;> omega
theorem bind_le (k : Int) : bindK k ≤ 4 := by
  unfold bindK
  split <;> (try split) <;> (try split) <;> (try split) <;> omega
theorem bind_ge (k : Int) : 0 ≤ bindK k := by
  unfold bindK
  split <;> (try split) <;> (try split) <;> (try split) <;> omega
theorem bind_ne {k : Int} (h : 0 < bindK k) : k ≠ 1 ∧ k ≠ 6 ∧ k ≠ 7 := by have := bind_pos h; omega
/-- what is accepted, by kind -/
theorem cstep_cases {M : Nat} {b : Bool} {n : Nat} {az : Bool} {t : Tok} {b' : Bool} {n' : Nat} (h : cstep M b n az t = some (b', n')) :
    (b = false ∧ t.kind = 1 ∧ (az = false ∨ t.of = 5) ∧ b' = true ∧ n' = n) ∨ (b = false ∧ t.kind = 6 ∧ az = false ∧ n ≠ M ∧ b' = false ∧ n' = n + 1) ∨
    (b = true ∧ t.kind = 7 ∧ 0 < n ∧ b' = true ∧ n' = n - 1) ∨ (b = true ∧ 0 < bindK t.kind ∧ b' = false ∧ n' = n) := by
  unfold cstep at h
  by_cases hb : b = false
  · rw [if_pos hb] at h
    by_cases h1 : t.kind = 1 ∧ (az = false ∨ t.of = 5)
    · rw [if_pos h1] at h
      simp only [Option.some.injEq, Prod.mk.injEq] at h
      exact .inl ⟨hb, h1.1, h1.2, h.1.symm, h.2.symm⟩
    · rw [if_neg h1] at h
      by_cases h2 : t.kind = 6 ∧ az = false
      · rw [if_pos h2] at h
        by_cases h3 : n = M
        · rw [if_pos h3] at h; cases h
        · rw [if_neg h3] at h
          simp only [Option.some.injEq, Prod.mk.injEq] at h
          exact .inr (.inl ⟨hb, h2.1, h2.2, h3, h.1.symm, h.2.symm⟩)
      · rw [if_neg h2] at h; cases h
  · rw [if_neg hb] at h
    have hb : b = true := by simpa using hb
    by_cases h1 : t.kind = 7
    · rw [if_pos h1] at h
      by_cases h2 : 0 < n
      · rw [if_pos h2] at h
        simp only [Option.some.injEq, Prod.mk.injEq] at h
        exact .inr (.inr (.inl ⟨hb, h1, h2, h.1.symm, h.2.symm⟩))
      · rw [if_neg h2] at h; cases h
    · rw [if_neg h1] at h
      by_cases h2 : 0 < bindK t.kind
      · rw [if_pos h2] at h
        simp only [Option.some.injEq, Prod.mk.injEq] at h
        exact .inr (.inr (.inr ⟨hb, h2, h.1.symm, h.2.symm⟩))
      · rw [if_neg h2] at h; cases h
theorem ctl_cons {M : Nat} {b : Bool} {n : Nat} {az : Bool} {t : Tok} {l : List Tok} {r : Bool × Nat} (h : ctl M b n az (t :: l) = some r) : ∃ b' n', cstep M b n az t = some (b', n') ∧ ctl M b' n' (decide (t.kind = 5)) l = some r := by
  simp only [ctl] at h
  cases hc : cstep M b n az t with
  | none => rw [hc] at h; cases h
  | some x => obtain ⟨b', n'⟩ := x; rw [hc] at h; exact ⟨b', n', rfl, h⟩
/-- signs outside of all parentheses bind at least so closely -/
def lowsOk (m : Int) : Nat → List Tok → Prop
  | _, [] => True
  | n, t :: l => if t.kind = 6 then lowsOk m (n + 1) l else if t.kind = 7 then lowsOk m (n - 1) l else (n = 0 → 0 < bindK t.kind → m ≤ bindK t.kind) ∧ lowsOk m n l
/-- of what waits, what no parenthesis is beneath binds at least so closely -/
def geOk (m : Int) : List Int → Prop
  | [] => True
  | k :: P => (P.count 6 = 0 → k ≠ 6 → m ≤ bindK k) ∧ geOk m P
theorem geOk_all {m : Int} : ∀ {P : List Int}, geOk m P → P.count 6 = 0 → ∀ k ∈ P, m ≤ bindK k
  | [], _, _, k, hk => by simp at hk
  | a :: P, ⟨h1, h2⟩, hc, k, hk => by
    rw [List.count_cons] at hc
    have hc1 : P.count 6 = 0 := by omega
    have ha : a ≠ 6 := fun e => by subst e; simp at hc
    rcases List.mem_cons.1 hk with rfl | hk
    · exact h1 hc1 ha
    · exact geOk_all h2 hc1 k hk
theorem geOk_popR {m q : Int} : ∀ {P : List Int}, geOk m P → geOk m (popR q P)
  | [], _ => trivial
  | a :: P, ⟨h1, h2⟩ => by
    unfold popR
    rw [List.dropWhile_cons]
    split
    · exact geOk_popR h2
    · exact ⟨h1, h2⟩
theorem geOk_tail {m : Int} : ∀ {P : List Int}, geOk m P → geOk m P.tail
  | [], _ => trivial
  | _ :: _, ⟨_, h2⟩ => h2
theorem pop_app {q : Int} (hq : 0 < q) : ∀ (P : List Int) (base : List Int), (6 ∈ P ∨ ∀ k ∈ base.head?, bindK k < q) → popL q (P ++ base) = popL q P ∧ popR q (P ++ base) = popR q P ++ base
  | [], base, h => by
    rcases h with h | h
    · simp at h
    · cases base with
      | nil => simp [popL, popR]
      | cons a r =>
        have : ¬ q ≤ bindK a := by have := h a (by simp); omega
        simp [popL, popR, this]
  | a :: P, base, h => by
    by_cases ha : q ≤ bindK a
    · have h' : 6 ∈ P ∨ ∀ k ∈ base.head?, bindK k < q := by
        rcases h with h | h
        · rcases List.mem_cons.1 h with rfl | h
          · rw [bind6] at ha; omega
          · exact .inl h
        · exact .inr h
      obtain ⟨i1, i2⟩ := pop_app hq P base h'
      simp only [popL, popR] at i1 i2 ⊢
      simp [List.takeWhile_cons, List.dropWhile_cons, ha, i1, i2]
    · simp [popL, popR, ha]
theorem popR_count {q : Int} (hq : 0 < q) : ∀ P : List Int, (popR q P).count 6 = P.count 6
  | [] => rfl
  | a :: P => by
    unfold popR
    rw [List.dropWhile_cons]
    split
    · next h =>
      have : a ≠ 6 := fun e => by subst e; simp [bind6] at h; omega
      rw [List.count_cons, if_neg (by simpa using this)]
      exact popR_count hq P
    · rfl
/-- what waits behind a parenthesis's close -/
theorem popR_close : ∀ {P : List Int}, 0 < P.count 6 → (∀ k ∈ P, k = 6 ∨ 0 < bindK k) → ∃ R, popR 1 P = 6 :: R ∧ R.count 6 + 1 = P.count 6
  | [], h, _ => by simp at h
  | a :: P, h, hs => by
    unfold popR
    rw [List.dropWhile_cons]
    by_cases ha : a = 6
    · subst ha
      rw [if_neg (by simp [bind6])]
      exact ⟨P, rfl, by rw [List.count_cons]; simp⟩
    · have hb : 0 < bindK a := (hs a (by simp)).resolve_left ha
      rw [if_pos (by simp; omega)]
      rw [List.count_cons, if_neg (by simpa using ha)] at h ⊢
      exact popR_close h (fun k hk => hs k (by simp [hk]))
theorem popR_mem {q : Int} {P : List Int} {k : Int} (h : k ∈ popR q P) : k ∈ P := (List.dropWhile_suffix _).subset h
/-- what is done on top of what waited before does not touch it -/
theorem frame {M : Nat} {base : List Int} {m : Int} (hm : 0 < m) (hb : ∀ k ∈ base.head?, bindK k < m) : ∀ (l : List Tok) (b : Bool) (n : Nat) (az : Bool) (r : Bool × Nat) (out A : List Trm) (P : List Int), ctl M b n az l = some r → lowsOk m n l → P.count 6 = n → (∀ k ∈ P, k = 6 ∨ 0 < bindK k) → geOk m P →
    srun l (out ++ A, P ++ base) = (out ++ (srun l (A, P)).1, (srun l (A, P)).2 ++ base) ∧ (srun l (A, P)).2.count 6 = r.2 ∧ (∀ k ∈ (srun l (A, P)).2, k = 6 ∨ 0 < bindK k) ∧ geOk m (srun l (A, P)).2
  | [], b, n, az, r, out, A, P, hc, _, hn, hs, hg => by
    simp only [ctl, Option.some.injEq] at hc
    subst hc
    exact ⟨rfl, hn, hs, hg⟩
  | t :: l, b, n, az, r, out, A, P, hc, hl, hn, hs, hg => by
    obtain ⟨b', n', h1, h2⟩ := ctl_cons hc
    have go : ∀ (A' : List Trm) (P' : List Int), sstep (A, P) t = (A', P') → sstep (out ++ A, P ++ base) t = (out ++ A', P' ++ base) → lowsOk m n' l → P'.count 6 = n' → (∀ k ∈ P', k = 6 ∨ 0 < bindK k) → geOk m P' →
        srun (t :: l) (out ++ A, P ++ base) = (out ++ (srun (t :: l) (A, P)).1, (srun (t :: l) (A, P)).2 ++ base) ∧ (srun (t :: l) (A, P)).2.count 6 = r.2 ∧ (∀ k ∈ (srun (t :: l) (A, P)).2, k = 6 ∨ 0 < bindK k) ∧ geOk m (srun (t :: l) (A, P)).2 := by
      intro A' P' e1 e2 q1 q2 q3 q4
      have := frame hm hb l b' n' _ r out A' P' h2 q1 q2 q3 q4
      simp only [srun, List.foldl_cons, e1, e2] at this ⊢
      exact this
    simp only [lowsOk] at hl
    rcases cstep_cases h1 with ⟨_, k1, _, _, rfl⟩ | ⟨_, k1, _, _, _, rfl⟩ | ⟨_, k1, hpos, _, rfl⟩ | ⟨_, k1, _, rfl⟩
    · rw [k1, if_neg (by decide), if_neg (by decide)] at hl
      refine go (A ++ [leaf t]) P ?_ ?_ hl.2 hn hs hg
      · unfold sstep; rw [if_pos k1]
      · unfold sstep; rw [if_pos k1]; simp
    · rw [if_pos k1] at hl
      refine go A (6 :: P) ?_ ?_ hl ?_ ?_ ⟨fun _ h => absurd rfl h, hg⟩
      · unfold sstep; rw [if_neg (by omega), if_pos k1]
      · unfold sstep; rw [if_neg (by omega), if_pos k1]; rfl
      · rw [List.count_cons, hn]; simp
      · intro k hk
        rcases List.mem_cons.1 hk with rfl | hk
        · exact .inl rfl
        · exact hs k hk
    · rw [if_neg (by omega), if_pos k1] at hl
      obtain ⟨R, e1, e2⟩ := popR_close (P := P) (by omega) hs
      have h6 : 6 ∈ P := List.count_pos_iff.1 (by omega)
      obtain ⟨p1, p2⟩ := pop_app (q := 1) (by decide) P base (.inl h6)
      refine go (A ++ (popL 1 P).map sgn) R ?_ ?_ hl (by omega) ?_ ?_
      · unfold sstep; rw [if_neg (by omega), if_neg (by omega), if_pos k1]; simp [e1]
      · unfold sstep; rw [if_neg (by omega), if_neg (by omega), if_pos k1, p1, p2]; simp [e1]
      · intro k hk
        exact hs k (popR_mem (q := 1) (by rw [e1]; simp [hk]))
      · have := geOk_popR (q := 1) hg
        rw [e1] at this
        exact this.2
    · obtain ⟨n1, n6, n7⟩ := bind_ne k1
      rw [if_neg n6, if_neg n7] at hl
      have hor : 6 ∈ P ∨ ∀ k ∈ base.head?, bindK k < bindK t.kind := by
        by_cases h0 : P.count 6 = 0
        · exact .inr fun k hk => by have := hb k hk; have := hl.1 (by omega) k1; omega
        · exact .inl (List.count_pos_iff.1 (by omega))
      obtain ⟨p1, p2⟩ := pop_app (q := bindK t.kind) k1 P base hor
      refine go (A ++ (popL (bindK t.kind) P).map sgn) (t.kind :: popR (bindK t.kind) P) ?_ ?_ hl.2 ?_ ?_ ⟨fun h0 _ => ?_, geOk_popR hg⟩
      · unfold sstep; rw [if_neg n1, if_neg n6, if_neg n7]
      · unfold sstep; rw [if_neg n1, if_neg n6, if_neg n7, p1, p2]; simp
      · rw [List.count_cons, popR_count k1, if_neg (by simpa using n6)]; omega
      · intro k hk
        rcases List.mem_cons.1 hk with rfl | hk
        · exact .inr k1
        · exact hs k (popR_mem hk)
      · rw [popR_count k1] at h0
        exact hl.1 (by omega) k1

theorem popL_all {q : Int} : ∀ {P : List Int}, (∀ k ∈ P, q ≤ bindK k) → popL q P = P ∧ popR q P = []
  | [], _ => ⟨rfl, rfl⟩
  | a :: P, h => by
    have ha := h a (by simp)
    obtain ⟨i1, i2⟩ := popL_all (P := P) (fun k hk => h k (by simp [hk]))
    simp only [popL, popR] at i1 i2 ⊢
    simp [List.takeWhile_cons, List.dropWhile_cons, ha, i1, i2]
theorem lowsOk_one {n : Nat} : ∀ (l : List Tok), lowsOk 1 n l := by
  intro l
  induction l generalizing n with
  | nil => trivial
  | cons t l ih =>
    simp only [lowsOk]
    split
    · exact ih
    · split
      · exact ih
      · exact ⟨fun _ h => by omega, ih⟩
/-- what waits behind an expression -/
theorem readD_state {M : Nat} {l : List Tok} {m : Int} (hm : 0 < m) (ha : accT M l) (hl : lowsOk m 0 l) : (∀ k ∈ (srun l ([], [])).2, m ≤ bindK k) ∧ readD l = (srun l ([], [])).1 ++ (srun l ([], [])).2.map sgn := by
  have h := frame (base := []) (m := m) hm (by simp) l false 0 false (true, 0) [] [] [] ha hl rfl (by simp) trivial
  obtain ⟨_, h2, h3, h4⟩ := h
  have h5 := geOk_all h4 h2
  refine ⟨h5, ?_⟩
  unfold readD
  rw [(popL_all (q := 1) (fun k hk => by have := h5 k hk; omega)).1]
theorem srun_app (a b : List Tok) (s : List Trm × List Int) : srun (a ++ b) s = srun b (srun a s) := List.foldl_append
/-- a sign outside of all parentheses, the last one that binds least -/
theorem readD_sign {M : Nat} {l1 l2 : List Tok} {s : Tok} (h1 : accT M l1) (h2 : accT M l2) (hs : 0 < bindK s.kind) (hl1 : lowsOk (bindK s.kind) 0 l1) (hl2 : lowsOk (bindK s.kind + 1) 0 l2) : readD (l1 ++ s :: l2) = readD l1 ++ (readD l2 ++ [sgn s.kind]) := by
  obtain ⟨a1, a2⟩ := readD_state hs h1 hl1
  obtain ⟨b1, b2⟩ := readD_state (m := bindK s.kind + 1) (by omega) h2 hl2
  obtain ⟨n1, n6, n7⟩ := bind_ne hs
  have e1 : sstep (srun l1 ([], [])) s = (readD l1, [s.kind]) := by
    unfold sstep
    rw [if_neg n1, if_neg n6, if_neg n7, (popL_all a1).1, (popL_all a1).2, a2]
  have e2 := (frame (base := [s.kind]) (m := bindK s.kind + 1) (by omega) (by intro k hk; simp at hk; subst hk; omega) l2 false 0 false (true, 0) (readD l1) [] [] h2 hl2 rfl (by simp) trivial).1
  have e3 : srun (l1 ++ s :: l2) ([], []) = (readD l1 ++ (srun l2 ([], [])).1, (srun l2 ([], [])).2 ++ [s.kind]) := by
    rw [srun_app]
    show srun l2 (sstep (srun l1 ([], [])) s) = _
    rw [e1]
    simpa using e2
  unfold readD at b2 ⊢
  rw [e3]
  have : ∀ k ∈ (srun l2 ([], [])).2 ++ [s.kind], (1 : Int) ≤ bindK k := by
    intro k hk
    rcases List.mem_append.1 hk with hk | hk
    · have := b1 k hk; omega
    · simp at hk; subst hk; omega
  rw [(popL_all this).1, b2]
  simp [readD]
/-- parentheses around a whole expression -/
theorem readD_open {M : Nat} {m : List Tok} {o c : Tok} (ho : o.kind = 6) (hc : c.kind = 7) (h : accT M m) : readD (o :: (m ++ [c])) = readD m := by
  obtain ⟨a1, a2⟩ := readD_state (m := 1) (by decide) h (lowsOk_one m)
  have e1 : sstep ([], []) o = ([], [6]) := by
    unfold sstep; rw [if_neg (by omega), if_pos ho]
  have e2 := (frame (base := [6]) (m := 1) (by decide) (by intro k hk; simp at hk; subst hk; decide) m false 0 false (true, 0) [] [] [] h (lowsOk_one m) rfl (by simp) trivial).1
  have e3 : srun (o :: (m ++ [c])) ([], []) = sstep (srun m ([], [6])) c := by
    show srun (m ++ [c]) (sstep ([], []) o) = _
    rw [e1, srun_app]; rfl
  simp only [List.nil_append] at e2
  have e4 : sstep (srun m ([], [6])) c = (readD m, []) := by
    rw [e2]
    unfold sstep
    rw [if_neg (by omega), if_neg (by omega), if_pos hc]
    obtain ⟨p1, p2⟩ := pop_app (q := 1) (by decide) (srun m ([], [])).2 [6] (.inr (by intro k hk; simp at hk; subst hk; decide))
    simp only [p1, p2, (popL_all a1).1, (popL_all a1).2, a2]
    simp
  unfold readD at e4 ⊢
  rw [e3, e4]
  simp [popL]
theorem readD_one (t : Tok) (h : t.kind = 1) : readD [t] = [leaf t] := by
  simp [readD, srun, sstep, h, popL]
/-- is the last token a sign of a role? -/
def lastAs (az : Bool) (l : List Tok) : Bool := match l.getLast? with
  | some t => decide (t.kind = 5)
  | none => az
theorem lastAs_cons (az : Bool) (t : Tok) (l : List Tok) : lastAs az (t :: l) = lastAs (decide (t.kind = 5)) l := by
  cases l with
  | nil => rfl
  | cons u l =>
    obtain ⟨x, hx⟩ : ∃ x, (u :: l).getLast? = some x := ⟨_, List.getLast?_eq_some_getLast (by simp)⟩
    simp only [lastAs, List.getLast?_cons_cons, hx]
theorem ctl_app {M : Nat} : ∀ (l1 l2 : List Tok) (b : Bool) (n : Nat) (az : Bool), ctl M b n az (l1 ++ l2) = match ctl M b n az l1 with
    | none => none
    | some (b', n') => ctl M b' n' (lastAs az l1) l2
  | [], l2, b, n, az => rfl
  | t :: l1, l2, b, n, az => by
    simp only [List.cons_append, ctl]
    cases cstep M b n az t with
    | none => rfl
    | some x =>
      obtain ⟨b', n'⟩ := x
      simp only
      rw [ctl_app l1 l2 b' n' _, lastAs_cons]
/-- whether the token ahead is a sign of a role matters to the next one alone -/
theorem ctl_as {M : Nat} {b : Bool} {n : Nat} {l : List Tok} {r : Bool × Nat} (h : ctl M b n true l = some r) : ctl M b n false l = some r := by
  cases l with
  | nil => exact h
  | cons t l =>
    obtain ⟨b', n', h1, h2⟩ := ctl_cons h
    have : cstep M b n false t = some (b', n') := by
      rcases cstep_cases h1 with ⟨rfl, k1, _, rfl, rfl⟩ | ⟨_, _, k, _⟩ | ⟨rfl, k1, k2, rfl, rfl⟩ | ⟨rfl, k1, rfl, rfl⟩
      · unfold cstep; rw [if_pos rfl, if_pos ⟨k1, .inl rfl⟩]
      · cases k
      · unfold cstep; rw [if_neg (by simp), if_pos k1, if_pos k2]
      · unfold cstep; rw [if_neg (by simp), if_neg (bind_ne k1).2.2, if_pos k1]
    simp only [ctl, this]
    exact h2

/-- the document's way: the last sign outside of all parentheses that binds least -/
def bestF : Nat → Int → Int → Int → List Tok → Int × Int
  | _, _, a, low, [] => (a, low)
  | i, o, a, low, t :: l =>
    let o' := if t.kind = 6 then o + 1 else if t.kind = 7 then o - 1 else o
    if o' = 0 ∧ 0 < bindK t.kind ∧ bindK t.kind ≤ low then bestF (i + 1) o' i (bindK t.kind) l else bestF (i + 1) o' a low l
theorem best_spec {M : Nat} : ∀ (l : List Tok) (b : Bool) (n : Nat) (az : Bool) (r : Bool × Nat) (i : Nat) (a low : Int), ctl M b n az l = some r →
    (bestF i n a low l = (a, low) ∧ lowsOk (low + 1) n l) ∨
    ∃ (l1 l2 : List Tok) (s : Tok), l = l1 ++ s :: l2 ∧ bestF i n a low l = (((i + l1.length : Nat) : Int), bindK s.kind) ∧ 0 < bindK s.kind ∧ bindK s.kind ≤ low ∧ ctl M b n az l1 = some (true, 0) ∧ ctl M false 0 (decide (s.kind = 5)) l2 = some r ∧ lowsOk (bindK s.kind) n l1 ∧ lowsOk (bindK s.kind + 1) 0 l2
  | [], b, n, az, r, i, a, low, _ => .inl ⟨rfl, trivial⟩
  | t :: l, b, n, az, r, i, a, low, hc => by
    obtain ⟨b', n', h1, h2⟩ := ctl_cons hc
    have up : ∀ l1, ctl M b n az (t :: l1) = ctl M b' n' (decide (t.kind = 5)) l1 := fun l1 => by simp only [ctl, h1]
    have ho : (if t.kind = 6 then (n : Int) + 1 else if t.kind = 7 then (n : Int) - 1 else n) = (n' : Int) := by
      rcases cstep_cases h1 with ⟨_, k, _, _, rfl⟩ | ⟨_, k, _, _, _, rfl⟩ | ⟨_, k, hp, _, rfl⟩ | ⟨_, k, _, rfl⟩
      · rw [if_neg (by omega), if_neg (by omega)]
      · rw [if_pos k]; omega
      · rw [if_neg (by omega), if_pos k]; omega
      · rw [if_neg (bind_ne k).2.1, if_neg (bind_ne k).2.2]
    have lo : ∀ (m : Int) (l1 : List Tok), (n' = 0 → 0 < bindK t.kind → m ≤ bindK t.kind) → lowsOk m n' l1 → lowsOk m n (t :: l1) := by
      intro m l1 hm hl
      simp only [lowsOk]
      rcases cstep_cases h1 with ⟨_, k, _, _, rfl⟩ | ⟨_, k, _, _, _, rfl⟩ | ⟨_, k, hp, _, rfl⟩ | ⟨_, k, _, rfl⟩
      · rw [if_neg (by omega), if_neg (by omega)]; exact ⟨hm, hl⟩
      · rw [if_pos k]; exact hl
      · rw [if_neg (by omega), if_pos k]; exact hl
      · rw [if_neg (bind_ne k).2.1, if_neg (bind_ne k).2.2]; exact ⟨hm, hl⟩
    simp only [bestF, ho]
    by_cases ht : (n' : Int) = 0 ∧ 0 < bindK t.kind ∧ bindK t.kind ≤ low
    · rw [if_pos ht]
      have hn0 : n' = 0 := by omega
      have hb' : b' = false ∧ b = true ∧ n = n' := by
        rcases cstep_cases h1 with ⟨_, k, _⟩ | ⟨_, k, _⟩ | ⟨_, k, _⟩ | ⟨k0, k, k1, k2⟩
        · exact absurd k (bind_ne ht.2.1).1
        · exact absurd k (bind_ne ht.2.1).2.1
        · exact absurd k (bind_ne ht.2.1).2.2
        · exact ⟨k1, k0, k2.symm⟩
      obtain ⟨rfl, rfl, hnn⟩ := hb'
      rcases best_spec l false n' _ r (i + 1) (i : Int) (bindK t.kind) h2 with ⟨e1, e2⟩ | ⟨l1, l2, s, e1, e2, e3, e4, e5, e6, e7, e8⟩
      · refine .inr ⟨[], l, t, rfl, by rw [e1]; simp, ht.2.1, ht.2.2, ?_, ?_, trivial, ?_⟩
        · simp only [ctl]; rw [hnn, hn0]
        · rw [hn0] at h2; exact h2
        · rw [hn0] at e2; exact e2
      · refine .inr ⟨t :: l1, l2, s, by rw [e1]; rfl, by rw [e2]; simp only [List.length_cons]; congr 1; omega, e3, by omega, by rw [up]; exact e5, e6, lo _ _ (fun _ _ => e4) e7, e8⟩
    · rw [if_neg ht]
      rcases best_spec l b' n' _ r (i + 1) a low h2 with ⟨e1, e2⟩ | ⟨l1, l2, s, e1, e2, e3, e4, e5, e6, e7, e8⟩
      · exact .inl ⟨e1, lo _ _ (fun h0 hp => by omega) e2⟩
      · exact .inr ⟨t :: l1, l2, s, by rw [e1]; rfl, by rw [e2]; simp only [List.length_cons]; congr 1; omega, e3, e4, by rw [up]; exact e5, e6, lo _ _ (fun h0 hp => by omega) e7, e8⟩
/-- nothing but one pair of parentheses outside -/
theorem ctl_close {M : Nat} : ∀ (l : List Tok) (b : Bool) (k : Nat) (az : Bool), k + 1 ≤ M → ctl M b (k + 1) az l = some (true, 0) → lowsOk 10 (k + 1) l → ∃ (m : List Tok) (c : Tok), l = m ++ [c] ∧ c.kind = 7 ∧ ctl M b k az m = some (true, 0)
  | [], b, k, az, _, h, _ => by simp [ctl] at h
  | t :: l, b, k, az, hk, h, hl => by
    obtain ⟨b', n', h1, h2⟩ := ctl_cons h
    simp only [lowsOk] at hl
    rcases cstep_cases h1 with ⟨rfl, k1, k2, rfl, rfl⟩ | ⟨rfl, k1, rfl, k3, rfl, rfl⟩ | ⟨rfl, k1, hp, rfl, rfl⟩ | ⟨rfl, k1, rfl, rfl⟩
    · rw [if_neg (by omega), if_neg (by omega)] at hl
      obtain ⟨m, c, e1, e2, e3⟩ := ctl_close l true k _ hk h2 hl.2
      refine ⟨t :: m, c, by rw [e1]; rfl, e2, ?_⟩
      have : cstep M false k az t = some (true, k) := by unfold cstep; rw [if_pos rfl, if_pos ⟨k1, k2⟩]
      simp only [ctl, this]; exact e3
    · rw [if_pos k1] at hl
      obtain ⟨m, c, e1, e2, e3⟩ := ctl_close l false (k + 1) _ (by omega) h2 hl
      refine ⟨t :: m, c, by rw [e1]; rfl, e2, ?_⟩
      have : cstep M false k false t = some (false, k + 1) := by unfold cstep; rw [if_pos rfl, if_neg (by omega), if_pos ⟨k1, rfl⟩, if_neg (by omega)]
      simp only [ctl, this]; exact e3
    · rw [if_neg (by omega), if_pos k1] at hl
      simp only [Nat.add_sub_cancel] at h2 hl
      cases n' with
      | zero =>
        cases l with
        | nil => exact ⟨[], t, rfl, k1, rfl⟩
        | cons u l2 =>
          exfalso
          obtain ⟨b2, n2, q1, q2⟩ := ctl_cons h2
          rcases cstep_cases q1 with ⟨q, _⟩ | ⟨q, _⟩ | ⟨_, _, q, _⟩ | ⟨_, q, _⟩
          · cases q
          · cases q
          · omega
          · simp only [lowsOk] at hl
            rw [if_neg (bind_ne q).2.1, if_neg (bind_ne q).2.2] at hl
            have := hl.1 (by first | exact rfl | trivial) q
            have := bind_le u.kind
            omega
      | succ k' =>
        obtain ⟨m, c, e1, e2, e3⟩ := ctl_close l true k' _ (by omega) h2 hl
        refine ⟨t :: m, c, by rw [e1]; rfl, e2, ?_⟩
        have : cstep M true (k' + 1) az t = some (true, k') := by unfold cstep; rw [if_neg (by simp), if_pos k1, if_pos (by omega)]; rfl
        simp only [ctl, this]; exact e3
    · rw [if_neg (bind_ne k1).2.1, if_neg (bind_ne k1).2.2] at hl
      obtain ⟨m, c, e1, e2, e3⟩ := ctl_close l false k _ hk h2 hl.2
      refine ⟨t :: m, c, by rw [e1]; rfl, e2, ?_⟩
      have : cstep M true k az t = some (false, k) := by unfold cstep; rw [if_neg (by simp), if_neg (bind_ne k1).2.2, if_pos k1]
      simp only [ctl, this]; exact e3
/-- the document's terms -/
def termsF : Nat → List Tok → List Trm
  | 0, _ => []
  | f + 1, l =>
    if l.length = 1 then l.map leaf
    else if (bestF 0 0 (-1) 9 l).1 < 0 then termsF f l.tail.dropLast
    else termsF f (l.take (bestF 0 0 (-1) 9 l).1.toNat) ++ (termsF f (l.drop ((bestF 0 0 (-1) 9 l).1.toNat + 1)) ++ [sgn ((l[(bestF 0 0 (-1) 9 l).1.toNat]?).elim 0 Tok.kind)])
/-- THE READER READS WHAT THE DOCUMENT SAYS -/
theorem terms_read {M : Nat} : ∀ (f : Nat) (l : List Tok), accT M l → l.length ≤ f → termsF f l = readD l
  | 0, l, ha, hl => by
    have : l = [] := List.eq_nil_of_length_eq_zero (by omega)
    subst this
    simp [accT, ctl] at ha
  | f + 1, l, ha, hl => by
    simp only [termsF]
    by_cases h1 : l.length = 1
    · rw [if_pos h1]
      obtain ⟨t, rfl⟩ := List.length_eq_one_iff.1 h1
      obtain ⟨b', n', q1, q2⟩ := ctl_cons ha
      rcases cstep_cases q1 with ⟨_, k, _⟩ | ⟨_, k, _, _, rfl, _⟩ | ⟨q, _⟩ | ⟨q, _⟩
      · rw [readD_one t k]; rfl
      · simp [ctl] at q2
      · cases q
      · cases q
    rw [if_neg h1]
    rcases best_spec l false 0 false (true, 0) 0 (-1) 9 ha with ⟨e1, e2⟩ | ⟨l1, l2, s, e1, e2, e3, e4, e5, e6, e7, e8⟩
    · have e1' : bestF 0 0 (-1) 9 l = (-1, 9) := e1
      rw [e1', if_pos (by decide)]
      cases l with
      | nil => simp [accT, ctl] at ha
      | cons t l =>
        obtain ⟨b', n', q1, q2⟩ := ctl_cons ha
        simp only [lowsOk] at e2
        rcases cstep_cases q1 with ⟨_, k, _, rfl, rfl⟩ | ⟨_, k, _, _, rfl, rfl⟩ | ⟨q, _⟩ | ⟨q, _⟩
        · exfalso
          rw [if_neg (by omega), if_neg (by omega)] at e2
          cases l with
          | nil => simp at h1
          | cons u l2 =>
            obtain ⟨b2, n2, q3, q4⟩ := ctl_cons q2
            rcases cstep_cases q3 with ⟨q, _⟩ | ⟨q, _⟩ | ⟨_, _, q, _⟩ | ⟨_, q, _⟩
            · cases q
            · cases q
            · omega
            · have := e2.2
              simp only [lowsOk] at this
              rw [if_neg (bind_ne q).2.1, if_neg (bind_ne q).2.2] at this
              have := this.1 (by first | exact rfl | trivial) q
              have := bind_le u.kind
              omega
        · rw [if_pos k] at e2
          rw [show decide (t.kind = 5) = false by rw [decide_eq_false]; omega] at q2
          obtain ⟨m, c, r1, r2, r3⟩ := ctl_close l false 0 false (by omega) q2 e2
          subst r1
          rw [readD_open k r2 r3, List.tail_cons, List.dropLast_concat]
          exact terms_read f m r3 (by simp at hl; omega)
        · cases q
        · cases q
    · have e2' : bestF 0 0 (-1) 9 l = (((l1.length : Nat) : Int), bindK s.kind) := by rw [show (0 : Int) = ((0 : Nat) : Int) from rfl, e2]; simp
      have a2 : accT M l2 := by
        unfold accT
        cases hk : decide (s.kind = 5) with
        | false => rw [hk] at e6; exact e6
        | true => rw [hk] at e6; exact ctl_as e6
      rw [e2', if_neg (by omega)]
      simp only [Int.toNat_natCast]
      subst e1
      simp only [List.length_append, List.length_cons] at hl
      rw [readD_sign e5 a2 e3 e7 e8]
      have d1 : (l1 ++ s :: l2).take l1.length = l1 := List.take_left
      have d2 : (l1 ++ s :: l2).drop (l1.length + 1) = l2 := by rw [← List.drop_drop, List.drop_left]; rfl
      have d3 : (l1 ++ s :: l2)[l1.length]? = some s := by simp
      rw [d1, d2, d3, terms_read f l1 e5 (by omega), terms_read f l2 a2 (by omega)]
      rfl
/-- expressions as trees -/
inductive Xp where
  | atm (t : Trm)
  | op (k : Int) (a b : Xp)
namespace Xp
/-- in postfix form -/
def post : Xp → List Trm
  | .atm t => [t]
  | .op k a b => a.post ++ (b.post ++ [sgn k])
/-- how closely it binds -/
def lev : Xp → Int
  | .atm _ => 5
  | .op k _ _ => bindK k
def deep : Xp → Int
  | .atm _ => 1
  | .op _ a b => (if a.deep < b.deep then b.deep else a.deep) + 1
/-- may it be? (wr: may an atom be written?) -/
def okE (wr : Trm → Bool) : Xp → Prop
  | .atm t => t.op = 1 ∧ wr t = true
  | .op k a b => 0 < bindK k ∧ (k = 5 → ∃ t, b = .atm t ∧ t.of = 5) ∧ a.okE wr ∧ b.okE wr
end Xp
def tokA (t : Trm) : Tok := ⟨1, t.name, t.of, 0⟩
def tokS (k : Int) : Tok := ⟨k, ⟨#[]⟩, 0, 0⟩
namespace Xp
/-- as tokens, where it must bind at least so closely -/
def toks : Int → Xp → List Tok
  | _, .atm t => [tokA t]
  | m, .op k a b => if bindK k < m then tokS 6 :: ((a.toks (bindK k) ++ tokS k :: b.toks (bindK k + 1)) ++ [tokS 7]) else a.toks (bindK k) ++ tokS k :: b.toks (bindK k + 1)
/-- how many parentheses are open at most -/
def pd : Int → Xp → Nat
  | _, .atm _ => 0
  | m, .op k a b => if bindK k < m then max (a.pd (bindK k)) (b.pd (bindK k + 1)) + 1 else max (a.pd (bindK k)) (b.pd (bindK k + 1))
end Xp
theorem tok_ctl {M : Nat} {wr : Trm → Bool} : ∀ (e : Xp) (m : Int) (n : Nat) (az : Bool) (rest : List Tok), e.okE wr → (az = true → ∃ t, e = .atm t ∧ t.of = 5) → n + e.pd m ≤ M → ctl M false n az (e.toks m ++ rest) = ctl M true n false rest
  | .atm t, m, n, az, rest, _, ha, _ => by
    have h1 : cstep M false n az (tokA t) = some (true, n) := by
      unfold cstep
      rw [if_pos rfl, if_pos]
      refine ⟨rfl, ?_⟩
      cases az with
      | false => exact .inl rfl
      | true =>
        obtain ⟨t', e, h⟩ := ha rfl
        injection e with e
        subst e
        exact .inr h
    simp only [Xp.toks, List.cons_append, List.nil_append, ctl, h1]
    rfl
  | .op k a b, m, n, az, rest, ⟨hk, h5, oa, ob⟩, ha, hp => by
    have has : az = false := by
      cases az with
      | false => rfl
      | true => obtain ⟨t, e, _⟩ := ha rfl; cases e
    subst has
    have body : ∀ (n : Nat) (rest : List Tok), n + max (a.pd (bindK k)) (b.pd (bindK k + 1)) ≤ M → ctl M false n false ((a.toks (bindK k) ++ tokS k :: b.toks (bindK k + 1)) ++ rest) = ctl M true n false rest := by
      intro n rest hn
      rw [List.append_assoc, tok_ctl a _ n false _ oa (by simp) (by omega), List.cons_append]
      have h1 : cstep M true n false (tokS k) = some (false, n) := by
        unfold cstep
        rw [if_neg (by simp), if_neg (show ¬ (tokS k).kind = 7 from (bind_ne hk).2.2), if_pos (show 0 < bindK (tokS k).kind from hk)]
      simp only [ctl, h1]
      refine tok_ctl b _ n _ _ ob (fun h => h5 (of_decide_eq_true h)) (by omega)
    simp only [Xp.toks, Xp.pd] at hp ⊢
    by_cases hm : bindK k < m
    · rw [if_pos hm] at hp ⊢
      have h1 : cstep M false n false (tokS 6) = some (false, n + 1) := by
        unfold cstep
        rw [if_pos rfl, if_neg (by simp [tokS]), if_pos ⟨rfl, rfl⟩, if_neg (by omega)]
      have h2 : cstep M true (n + 1) false (tokS 7) = some (true, n) := by
        unfold cstep
        rw [if_neg (by simp), if_pos (show (tokS 7).kind = 7 from rfl), if_pos (by omega)]; rfl
      rw [List.cons_append, List.append_assoc]
      simp only [ctl, h1]
      rw [show decide ((tokS 6).kind = 5) = false from rfl, body (n + 1) _ (by omega), List.singleton_append]
      simp only [ctl, h2]
      rfl
    · rw [if_neg hm] at hp ⊢
      exact body n rest hp
theorem tok_lows {wr : Trm → Bool} : ∀ (e : Xp) (m q : Int) (n : Nat) (rest : List Tok), e.okE wr → (n = 0 → q ≤ m) → lowsOk q n rest → lowsOk q n (e.toks m ++ rest)
  | .atm t, m, q, n, rest, _, _, hr => by
    simp only [Xp.toks, List.cons_append, List.nil_append, lowsOk]
    rw [if_neg (by simp [tokA]), if_neg (by simp [tokA])]
    exact ⟨fun _ h => absurd h (by simp [tokA, bind1]), hr⟩
  | .op k a b, m, q, n, rest, ⟨hk, h5, oa, ob⟩, hq, hr => by
    have body : ∀ (n : Nat) (rest : List Tok), (n = 0 → q ≤ bindK k) → lowsOk q n rest → lowsOk q n ((a.toks (bindK k) ++ tokS k :: b.toks (bindK k + 1)) ++ rest) := by
      intro n rest hn hr
      rw [List.append_assoc]
      refine tok_lows a _ _ _ _ oa hn ?_
      rw [List.cons_append]
      simp only [lowsOk]
      rw [if_neg (show ¬ (tokS k).kind = 6 from (bind_ne hk).2.1), if_neg (show ¬ (tokS k).kind = 7 from (bind_ne hk).2.2)]
      exact ⟨fun h0 _ => hn h0, tok_lows b _ _ _ _ ob (fun h0 => by have := hn h0; omega) hr⟩
    simp only [Xp.toks]
    by_cases hm : bindK k < m
    · rw [if_pos hm, List.cons_append, List.append_assoc]
      simp only [lowsOk]
      rw [if_pos (show (tokS 6).kind = 6 from rfl)]
      refine body (n + 1) _ (fun h0 => by omega) ?_
      rw [List.singleton_append]
      simp only [lowsOk]
      rw [if_neg (by simp [tokS]), if_pos (show (tokS 7).kind = 7 from rfl)]
      exact hr
    · rw [if_neg hm]
      exact body n rest (fun h0 => by have := hq h0; omega) hr
theorem tok_acc {M : Nat} {wr : Trm → Bool} {e : Xp} (h : e.okE wr) (m : Int) (hp : e.pd m ≤ M) : accT M (e.toks m) := by
  have := tok_ctl (M := M) e m 0 false [] h (by simp) (by omega)
  rw [List.append_nil] at this
  exact this
/-- WHAT IS WRITTEN IS READ -/
theorem tok_read {wr : Trm → Bool} : ∀ (e : Xp) (m : Int), e.okE wr → readD (e.toks m) = e.post
  | .atm t, m, h => by
    simp only [Xp.toks, Xp.post]
    rw [readD_one _ rfl]
    obtain ⟨h1, _⟩ := h
    cases t
    simp only at h1
    subst h1
    rfl
  | .op k a b, m, h => by
    obtain ⟨hk, h5, oa, ob⟩ := h
    have pa := Nat.le_max_left (a.pd (bindK k)) (b.pd (bindK k + 1))
    have pb := Nat.le_max_right (a.pd (bindK k)) (b.pd (bindK k + 1))
    have la := tok_lows a (bindK k) (bindK k) 0 [] oa (fun _ => Int.le_refl _) trivial
    have lb := tok_lows b (bindK k + 1) (bindK k + 1) 0 [] ob (fun _ => Int.le_refl _) trivial
    rw [List.append_nil] at la lb
    have hb : readD (a.toks (bindK k) ++ tokS k :: b.toks (bindK k + 1)) = (Xp.op k a b).post := by
      rw [readD_sign (tok_acc oa _ pa) (tok_acc ob _ pb) hk la lb, tok_read a _ oa, tok_read b _ ob]
      rfl
    simp only [Xp.toks]
    by_cases hm : bindK k < m
    · rw [if_pos hm, readD_open (M := max (a.pd (bindK k)) (b.pd (bindK k + 1))) rfl rfl, hb]
      have := tok_acc (M := max (a.pd (bindK k)) (b.pd (bindK k + 1))) (e := .op k a b) (wr := wr) ⟨hk, h5, oa, ob⟩ (bindK k) (by simp only [Xp.pd]; rw [if_neg (by omega)]; exact Nat.le_refl _)
      simp only [Xp.toks] at this
      rwa [if_neg (by omega)] at this
    · rw [if_neg hm, hb]
/-- an atom of the kind Role -/
def Xp.role : Xp → Bool
  | .atm t => decide (t.of = 5)
  | .op _ _ _ => false
theorem role_iff (e : Xp) : e.role = true ↔ ∃ t, e = .atm t ∧ t.of = 5 := by
  cases e with
  | atm t => simp [Xp.role]
  | op k a b => simp [Xp.role]
/-- what a term makes of the expressions ahead (the last one first) -/
def stepX (wr : Trm → Bool) (t : Trm) (st : List Xp) : Option (List Xp) :=
  if t.op = 1 then (if wr t = true then some (.atm t :: st) else none)
  else if 0 < bindK t.op ∧ t.of = 0 ∧ t.name = ⟨#[]⟩ then (match st with
    | b :: a :: r => if t.op = 5 ∧ b.role = false then none else some (.op t.op a b :: r)
    | _ => none)
  else none
def runX (wr : Trm → Bool) : List Trm → List Xp → Option (List Xp)
  | [], st => some st
  | t :: l, st => match stepX wr t st with
    | none => none
    | some st' => runX wr l st'
theorem runX_post {wr : Trm → Bool} : ∀ (e : Xp) (l : List Trm) (st : List Xp), e.okE wr → runX wr (e.post ++ l) st = runX wr l (e :: st)
  | .atm t, l, st, ⟨h1, h2⟩ => by
    simp only [Xp.post, List.cons_append, List.nil_append, runX, stepX]
    rw [if_pos h1, if_pos h2]
  | .op k a b, l, st, ⟨hk, h5, oa, ob⟩ => by
    simp only [Xp.post, List.append_assoc]
    rw [runX_post a _ _ oa, runX_post b _ _ ob]
    simp only [List.cons_append, List.nil_append, runX, stepX]
    rw [if_neg (show ¬ (sgn k).op = 1 from (bind_ne hk).1), if_pos (show 0 < bindK (sgn k).op ∧ (sgn k).of = 0 ∧ (sgn k).name = ⟨#[]⟩ from ⟨hk, rfl, rfl⟩)]
    have : ¬ ((sgn k).op = 5 ∧ b.role = false) := fun ⟨h, hr⟩ => by
      have := (role_iff b).2 (h5 h)
      rw [this] at hr; cases hr
    try simp only
    rw [if_neg this]
    try rfl
/-- the terms of expressions, the last one first -/
def stp (st : List Xp) : List Trm := st.reverse.flatMap Xp.post
theorem stp_cons (e : Xp) (st : List Xp) : stp (e :: st) = stp st ++ e.post := by simp [stp]
theorem sgn_eta {t : Trm} (h1 : t.of = 0) (h2 : t.name = ⟨#[]⟩) : sgn t.op = t := by
  cases t; simp only at h1 h2; subst h1; subst h2; rfl
theorem runX_ok {wr : Trm → Bool} : ∀ (l : List Trm) (st st' : List Xp), runX wr l st = some st' → (∀ e ∈ st, e.okE wr) → (∀ e ∈ st', e.okE wr) ∧ stp st' = stp st ++ l
  | [], st, st', h, ho => by
    simp only [runX, Option.some.injEq] at h
    subst h
    exact ⟨ho, by simp⟩
  | t :: l, st, st', h, ho => by
    simp only [runX] at h
    cases hs : stepX wr t st with
    | none => rw [hs] at h; cases h
    | some s1 =>
      rw [hs] at h
      simp only [stepX] at hs
      by_cases h1 : t.op = 1
      · rw [if_pos h1] at hs
        by_cases h2 : wr t = true
        · rw [if_pos h2] at hs
          simp only [Option.some.injEq] at hs
          subst hs
          obtain ⟨q1, q2⟩ := runX_ok l _ _ h (fun e he => by
            rcases List.mem_cons.1 he with rfl | he
            · exact ⟨h1, h2⟩
            · exact ho e he)
          exact ⟨q1, by rw [q2, stp_cons]; simp [Xp.post]⟩
        · rw [if_neg h2] at hs; cases hs
      · rw [if_neg h1] at hs
        by_cases h2 : 0 < bindK t.op ∧ t.of = 0 ∧ t.name = ⟨#[]⟩
        · rw [if_pos h2] at hs
          cases st with
          | nil => cases hs
          | cons b st =>
            cases st with
            | nil => cases hs
            | cons a r =>
              simp only at hs
              by_cases h3 : t.op = 5 ∧ b.role = false
              · rw [if_pos h3] at hs; cases hs
              · rw [if_neg h3] at hs
                simp only [Option.some.injEq] at hs
                subst hs
                obtain ⟨q1, q2⟩ := runX_ok l _ _ h (fun e he => by
                  rcases List.mem_cons.1 he with rfl | he
                  · refine ⟨h2.1, fun h5 => ?_, ho a (by simp), ho b (by simp)⟩
                    refine (role_iff b).1 ?_
                    cases hr : b.role with
                    | true => rfl
                    | false => exact absurd ⟨h5, hr⟩ h3
                  · exact ho e (by simp [he]))
                refine ⟨q1, ?_⟩
                rw [q2, stp_cons, stp_cons, stp_cons]
                simp only [Xp.post, sgn_eta h2.2.1 h2.2.2]
                simp
        · rw [if_neg h2] at hs; cases hs
/-- the expression that terms are -/
def treeX (wr : Trm → Bool) (x : List Trm) : Option Xp := match runX wr x [] with
  | some [e] => some e
  | _ => none
theorem treeX_iff {wr : Trm → Bool} {x : List Trm} {e : Xp} : treeX wr x = some e ↔ e.okE wr ∧ x = e.post := by
  constructor
  · intro h
    unfold treeX at h
    split at h
    · next e' hr =>
      simp only [Option.some.injEq] at h
      subst h
      obtain ⟨q1, q2⟩ := runX_ok x [] _ hr (by simp)
      exact ⟨q1 _ (by simp), by rw [stp_cons] at q2; simpa [stp] using q2.symm⟩
    · cases h
  · rintro ⟨h, rfl⟩
    have := runX_post e [] [] h
    rw [List.append_nil] at this
    unfold treeX
    rw [this]
    rfl
theorem post_inj {wr : Trm → Bool} {a b : Xp} (ha : a.okE wr) (hb : b.okE wr) (h : a.post = b.post) : a = b := by
  have h1 := treeX_iff.2 ⟨ha, rfl⟩
  have h2 := treeX_iff.2 ⟨hb, h⟩
  rw [h1] at h2
  injection h2
/-- the document's way: the last expression of terms (told from behind), and what is ahead of it -/
def lastX (wr : Trm → Bool) : Nat → List Trm → Option (Xp × List Trm)
  | 0, _ => none
  | _ + 1, [] => none
  | f + 1, t :: r =>
    if t.op = 1 then (if wr t = true then some (.atm t, r) else none)
    else if 0 < bindK t.op ∧ t.of = 0 ∧ t.name = ⟨#[]⟩ then (match lastX wr f r with
      | none => none
      | some (b, r1) => if t.op = 5 ∧ b.role = false then none else match lastX wr f r1 with
        | none => none
        | some (a, r2) => some (.op t.op a b, r2))
    else none
theorem lastX_ok {wr : Trm → Bool} : ∀ (f : Nat) (x r : List Trm) (e : Xp), lastX wr f x = some (e, r) → e.okE wr ∧ x = e.post.reverse ++ r
  | 0, x, r, e, h => by simp [lastX] at h
  | f + 1, [], r, e, h => by simp [lastX] at h
  | f + 1, t :: x, r, e, h => by
    simp only [lastX] at h
    by_cases h1 : t.op = 1
    · rw [if_pos h1] at h
      by_cases h2 : wr t = true
      · rw [if_pos h2] at h
        simp only [Option.some.injEq, Prod.mk.injEq] at h
        obtain ⟨rfl, rfl⟩ := h
        exact ⟨⟨h1, h2⟩, rfl⟩
      · rw [if_neg h2] at h; cases h
    · rw [if_neg h1] at h
      by_cases h2 : 0 < bindK t.op ∧ t.of = 0 ∧ t.name = ⟨#[]⟩
      · rw [if_pos h2] at h
        cases hb : lastX wr f x with
        | none => rw [hb] at h; cases h
        | some y =>
          obtain ⟨b, r1⟩ := y
          rw [hb] at h
          simp only at h
          by_cases h3 : t.op = 5 ∧ b.role = false
          · rw [if_pos h3] at h; cases h
          · rw [if_neg h3] at h
            cases ha : lastX wr f r1 with
            | none => rw [ha] at h; cases h
            | some z =>
              obtain ⟨a, r2⟩ := z
              rw [ha] at h
              simp only [Option.some.injEq, Prod.mk.injEq] at h
              obtain ⟨rfl, rfl⟩ := h
              obtain ⟨q1, q2⟩ := lastX_ok f _ _ _ hb
              obtain ⟨q3, q4⟩ := lastX_ok f _ _ _ ha
              refine ⟨⟨h2.1, fun h5 => ?_, q3, q1⟩, ?_⟩
              · refine (role_iff b).1 ?_
                cases hr : b.role with
                | true => rfl
                | false => exact absurd ⟨h5, hr⟩ h3
              · rw [q2, q4]
                simp only [Xp.post, sgn_eta h2.2.1 h2.2.2]
                simp
      · rw [if_neg h2] at h; cases h
theorem lastX_post {wr : Trm → Bool} : ∀ (e : Xp) (f : Nat) (r : List Trm), e.okE wr → e.post.length ≤ f → lastX wr f (e.post.reverse ++ r) = some (e, r)
  | .atm t, f, r, ⟨h1, h2⟩, hf => by
    obtain ⟨f, rfl⟩ : ∃ g, f = g + 1 := ⟨f - 1, by simp [Xp.post] at hf; omega⟩
    simp only [Xp.post, List.reverse_cons, List.reverse_nil, List.nil_append, List.cons_append, lastX]
    rw [if_pos h1, if_pos h2]
  | .op k a b, f, r, ⟨hk, h5, oa, ob⟩, hf => by
    simp only [Xp.post, List.length_append, List.length_cons, List.length_nil] at hf
    obtain ⟨f, rfl⟩ : ∃ g, f = g + 1 := ⟨f - 1, by omega⟩
    have e1 : (Xp.op k a b).post.reverse ++ r = sgn k :: (b.post.reverse ++ (a.post.reverse ++ r)) := by simp [Xp.post]
    rw [e1]
    simp only [lastX]
    rw [if_neg (show ¬ (sgn k).op = 1 from (bind_ne hk).1), if_pos (show 0 < bindK (sgn k).op ∧ (sgn k).of = 0 ∧ (sgn k).name = ⟨#[]⟩ from ⟨hk, rfl, rfl⟩), lastX_post b f _ ob (by omega)]
    have : ¬ ((sgn k).op = 5 ∧ b.role = false) := fun ⟨h, hr⟩ => by
      have := (role_iff b).2 (h5 h)
      rw [this] at hr; cases hr
    simp only
    rw [if_neg this, lastX_post a f _ oa (by omega)]
    rfl
/-- both ways tell the same -/
theorem lastX_tree {wr : Trm → Bool} (x : List Trm) : treeX wr x = match lastX wr x.length x.reverse with
    | some (e, []) => some e
    | _ => none := by
  cases ht : treeX wr x with
  | some e =>
    obtain ⟨h1, rfl⟩ := treeX_iff.1 ht
    have := lastX_post e e.post.length [] h1 (Nat.le_refl _)
    rw [List.append_nil] at this
    rw [this]
  | none =>
    cases hl : lastX wr x.length x.reverse with
    | none => rfl
    | some y =>
      obtain ⟨e, r⟩ := y
      cases r with
      | cons _ _ => rfl
      | nil =>
        exfalso
        obtain ⟨h1, h2⟩ := lastX_ok _ _ _ _ hl
        rw [List.append_nil] at h2
        have := treeX_iff.2 ⟨h1, List.reverse_inj.1 h2⟩
        rw [ht] at this; cases this
/-- words with a blank between -/
def joinS : List (List UInt8) → List UInt8
  | [] => []
  | [x] => x
  | x :: y :: r => x ++ 32 :: joinS (y :: r)
theorem joinS_cons {x : List UInt8} {r : List (List UInt8)} (h : r ≠ []) : joinS (x :: r) = x ++ 32 :: joinS r := by
  cases r with
  | nil => exact absurd rfl h
  | cons y r => rfl
theorem joinS_app : ∀ {a b : List (List UInt8)}, a ≠ [] → b ≠ [] → joinS (a ++ b) = joinS a ++ 32 :: joinS b
  | [], _, h, _ => absurd rfl h
  | [x], b, _, hb => joinS_cons hb
  | x :: y :: r, b, _, hb => by
    show x ++ 32 :: joinS ((y :: r) ++ b) = (x ++ 32 :: joinS (y :: r)) ++ 32 :: joinS b
    rw [joinS_app (a := y :: r) (by simp) hb, List.append_assoc]
    rfl
theorem toks_ne : ∀ (m : Int) (e : Xp), e.toks m ≠ []
  | _, .atm t => by simp [Xp.toks]
  | m, .op k a b => by
    simp only [Xp.toks]
    split <;> simp
/-- the document's text -/
def textS (w : Tok → List UInt8) : Xp → List UInt8
  | .atm t => w (tokA t)
  | .op k a b => (if a.lev < bindK k then w (tokS 6) ++ 32 :: (textS w a ++ 32 :: w (tokS 7)) else textS w a) ++ 32 :: (w (tokS k) ++ 32 :: (if b.lev ≤ bindK k then w (tokS 6) ++ 32 :: (textS w b ++ 32 :: w (tokS 7)) else textS w b))
theorem text_words (w : Tok → List UInt8) : ∀ (e : Xp) (m : Int), m ≤ 5 → joinS ((e.toks m).map w) = if e.lev < m then w (tokS 6) ++ 32 :: (textS w e ++ 32 :: w (tokS 7)) else textS w e
  | .atm t, m, hm => by
    simp only [Xp.toks, List.map_cons, List.map_nil, joinS, textS]
    rw [if_neg (show ¬ (Xp.atm t).lev < m from by show ¬ (5 : Int) < m; omega)]
  | .op k a b, m, hm => by
    have hk := bind_le k
    have body : joinS ((a.toks (bindK k) ++ tokS k :: b.toks (bindK k + 1)).map w) = textS w (.op k a b) := by
      rw [List.map_append, List.map_cons, joinS_app (by simpa using toks_ne _ a) (by simp), joinS_cons (by simpa using toks_ne _ b), text_words w a _ (by omega), text_words w b _ (by omega)]
      simp only [textS]
      have : (b.lev < bindK k + 1) = (b.lev ≤ bindK k) := propext (by omega)
      simp only [this]
    simp only [Xp.toks]
    by_cases h : bindK k < m
    · rw [if_pos h, if_pos (show (Xp.op k a b).lev < m from h), List.map_cons, List.map_append, joinS_cons (by simp), joinS_app (by simp) (by simp), body]
      rfl
    · rw [if_neg h, if_neg (show ¬ (Xp.op k a b).lev < m from h), body]
/-- which parts a term took, and how deep it is -/
abbrev Prt := Int × Int × Int
inductive Reps (x : List Trm) (l : List Prt) : Nat → Xp → Prop where
  | atm (i : Nat) (t : Trm) (p : Prt) : x[i]? = some t → l[i]? = some p → p.2.2 = 1 → Reps x l i (.atm t)
  | op (i j m : Nat) (k : Int) (a b : Xp) : x[i]? = some (sgn k) → l[i]? = some ((j : Int), (m : Int), (Xp.op k a b).deep) → j < i → m < i → Reps x l j a → Reps x l m b → Reps x l i (.op k a b)
theorem Reps.deep {x : List Trm} {l : List Prt} {i : Nat} {e : Xp} (h : Reps x l i e) : ∃ p, l[i]? = some p ∧ p.2.2 = e.deep := by
  cases h with
  | atm t p h1 h2 h3 => exact ⟨_, by assumption, by assumption⟩
  | op j m k a b h1 h2 h3 h4 h5 h6 => exact ⟨_, by assumption, rfl⟩
theorem Reps.set {x : List Trm} {l : List Prt} {q : Nat} {p : Prt} : ∀ {i : Nat} {e : Xp}, Reps x l i e → i < q → Reps x (l.set q p) i e
  | _, _, .atm i t p' h1 h2 h3, hi => .atm i t p' h1 (by rw [List.getElem?_set_ne (by omega)]; exact h2) h3
  | _, _, .op i j m k a b h1 h2 hj hm ha hb, hi => .op i j m k a b h1 (by rw [List.getElem?_set_ne (by omega)]; exact h2) hj hm (Reps.set ha (by omega)) (Reps.set hb (by omega))
theorem runX_snoc {wr : Trm → Bool} {t : Trm} : ∀ {l : List Trm} {st : List Xp}, runX wr (l ++ [t]) st = match runX wr l st with
    | none => none
    | some s => stepX wr t s
  | [], st => by
    simp only [List.nil_append, runX]
    cases stepX wr t st <;> rfl
  | u :: l, st => by
    simp only [List.cons_append, runX]
    cases stepX wr u st with
    | none => rfl
    | some s => exact runX_snoc
theorem deep_pos : ∀ e : Xp, 1 ≤ e.deep
  | .atm _ => Int.le_refl _
  | .op _ a b => by
    have := deep_pos a
    have := deep_pos b
    simp only [Xp.deep]
    split <;> omega
theorem deep_le : ∀ e : Xp, e.deep ≤ e.post.length
  | .atm _ => by simp [Xp.deep, Xp.post]
  | .op _ a b => by
    have := deep_le a
    have := deep_le b
    simp only [Xp.deep, Xp.post, List.length_append, List.length_cons, List.length_nil]
    split <;> omega
/-- how many parentheses are opened; the other tokens, without their places -/
def opens (l : List Tok) : Nat := l.countP fun t => decide (t.kind = 6)
def isPar (t : Tok) : Bool := decide (t.kind = 6) || decide (t.kind = 7)
def others (l : List Tok) : List (Int × ByteArray × Int) := (l.filter fun t => !isPar t).map fun t => (t.kind, t.name, t.of)
theorem opens_app (a b : List Tok) : opens (a ++ b) = opens a + opens b := List.countP_append
theorem opens_cons (t : Tok) (l : List Tok) : opens (t :: l) = opens l + if t.kind = 6 then 1 else 0 := by
  simp [opens, List.countP_cons]
theorem others_app (a b : List Tok) : others (a ++ b) = others a ++ others b := by simp [others]
theorem others_cons (t : Tok) (l : List Tok) : others (t :: l) = if isPar t = true then others l else (t.kind, t.name, t.of) :: others l := by
  by_cases h : isPar t = true
  · rw [if_pos h]; simp [others, h]
  · rw [if_neg h]; simp [others, h]
theorem toks_more : ∀ (m : Int) (e : Xp), opens (e.toks m) ≤ opens (e.toks 0) + 1 ∧ others (e.toks m) = others (e.toks 0)
  | m, .atm t => by simp [Xp.toks]
  | m, .op k a b => by
    have h0 : ¬ bindK k < 0 := by have := bind_ge k; omega
    simp only [Xp.toks]
    rw [if_neg h0]
    split
    · rw [opens_cons, opens_app, others_cons, others_app]
      have e1 : isPar (tokS 6) = true := rfl
      have e2 : others [tokS 7] = [] := rfl
      have e3 : opens [tokS 7] = 0 := rfl
      rw [if_pos e1, e2, e3, List.append_nil, if_pos (show (tokS 6).kind = 6 from rfl)]
      exact ⟨by omega, rfl⟩
    · exact ⟨by omega, rfl⟩
/-- WHAT IS READ, as a tree: written it has no more parentheses, and the same other tokens -/
theorem read_tree {M : Nat} {wr : Trm → Bool} : ∀ (f : Nat) (l : List Tok), l.length ≤ f → accT M l → (∀ t ∈ l, t.kind = 1 → wr (leaf t) = true) → (∀ t ∈ l, 0 < bindK t.kind → t.name = ⟨#[]⟩ ∧ t.of = 0) →
    ∃ e : Xp, e.okE wr ∧ readD l = e.post ∧ (∀ m, lowsOk m 0 l → opens (e.toks m) ≤ opens l) ∧ (∀ m, others (e.toks m) = others l)
  | 0, l, hl, ha, _, _ => by
    have : l = [] := List.eq_nil_of_length_eq_zero (by omega)
    subst this
    simp [accT, ctl] at ha
  | f + 1, l, hl, ha, hw, hn => by
    by_cases h1 : l.length = 1
    · obtain ⟨t, rfl⟩ := List.length_eq_one_iff.1 h1
      obtain ⟨b', n', q1, q2⟩ := ctl_cons ha
      rcases cstep_cases q1 with ⟨_, k, _⟩ | ⟨_, k, _, _, rfl, _⟩ | ⟨q, _⟩ | ⟨q, _⟩
      · refine ⟨.atm (leaf t), ⟨rfl, hw t (by simp) k⟩, readD_one t k, fun m _ => ?_, fun m => ?_⟩
        · simp [Xp.toks, opens, tokA]
        · simp [Xp.toks, others, isPar, tokA, leaf, k]
      · simp [ctl] at q2
      · cases q
      · cases q
    rcases best_spec l false 0 false (true, 0) 0 (-1) 9 ha with ⟨e1, e2⟩ | ⟨l1, l2, s, e1, e2, e3, e4, e5, e6, e7, e8⟩
    · cases l with
      | nil => simp [accT, ctl] at ha
      | cons t l =>
        obtain ⟨b', n', q1, q2⟩ := ctl_cons ha
        simp only [lowsOk] at e2
        rcases cstep_cases q1 with ⟨_, k, _, rfl, rfl⟩ | ⟨_, k, _, _, rfl, rfl⟩ | ⟨q, _⟩ | ⟨q, _⟩
        · exfalso
          rw [if_neg (by omega), if_neg (by omega)] at e2
          cases l with
          | nil => simp at h1
          | cons u l2 =>
            obtain ⟨b2, n2, q3, q4⟩ := ctl_cons q2
            rcases cstep_cases q3 with ⟨q, _⟩ | ⟨q, _⟩ | ⟨_, _, q, _⟩ | ⟨_, q, _⟩
            · cases q
            · cases q
            · omega
            · have := e2.2
              simp only [lowsOk] at this
              rw [if_neg (bind_ne q).2.1, if_neg (bind_ne q).2.2] at this
              have := this.1 (by first | exact rfl | trivial) q
              have := bind_le u.kind
              omega
        · rw [if_pos k] at e2
          rw [show decide (t.kind = 5) = false by rw [decide_eq_false]; omega] at q2
          obtain ⟨m, c, r1, r2, r3⟩ := ctl_close l false 0 false (by omega) q2 e2
          subst r1
          obtain ⟨e, o1, o2, o3, o4⟩ := read_tree f m (by simp at hl; omega) r3 (fun u hu => hw u (by simp [hu])) (fun u hu => hn u (by simp [hu]))
          have c6 : ¬ c.kind = 6 := by omega
          have p1 : isPar t = true := by simp [isPar, k]
          have p2 : isPar c = true := by simp [isPar, r2]
          refine ⟨e, o1, by rw [readD_open k r2 r3, o2], fun q _ => ?_, fun q => ?_⟩
          · have l0 : lowsOk 0 0 m := by
              have : ∀ (n : Nat) (l : List Tok), lowsOk 0 n l := by
                intro n l
                induction l generalizing n with
                | nil => trivial
                | cons u l ih =>
                  simp only [lowsOk]
                  split
                  · exact ih _
                  · split
                    · exact ih _
                    · exact ⟨fun _ _ => bind_ge _, ih _⟩
              exact this 0 m
            have := o3 0 l0
            have := (toks_more q e).1
            rw [opens_cons, opens_app, if_pos k]
            omega
          · rw [others_cons, if_pos p1, others_app, others_cons, if_pos p2, (toks_more q e).2, o4 0]
            simp [others]
        · cases q
        · cases q
    · have a2 : accT M l2 := by
        unfold accT
        cases hk : decide (s.kind = 5) with
        | false => rw [hk] at e6; exact e6
        | true => rw [hk] at e6; exact ctl_as e6
      subst e1
      simp only [List.length_append, List.length_cons] at hl
      obtain ⟨a, a1, a3, a4, a5⟩ := read_tree f l1 (by omega) e5 (fun u hu => hw u (by simp [hu])) (fun u hu => hn u (by simp [hu]))
      obtain ⟨b, b1, b3, b4, b5⟩ := read_tree f l2 (by omega) a2 (fun u hu => hw u (by simp [hu])) (fun u hu => hn u (by simp [hu]))
      have hs : tokS s.kind = ⟨s.kind, s.name, s.of, 0⟩ := by
        obtain ⟨z1, z2⟩ := hn s (by simp) e3
        rw [z1, z2]; rfl
      obtain ⟨n1, n6, n7⟩ := bind_ne e3
      have hp : isPar s = false := by simp [isPar, n6, n7]
      have hp2 : isPar (tokS s.kind) = false := by simp [isPar, tokS, n6, n7]
      have role : s.kind = 5 → ∃ t, b = .atm t ∧ t.of = 5 := by
        intro h5
        rw [decide_eq_true h5] at e6
        cases l2 with
        | nil => simp [ctl] at e6
        | cons t l2 =>
          obtain ⟨b', n', q1, q2⟩ := ctl_cons e6
          rcases cstep_cases q1 with ⟨_, k, k2, rfl, rfl⟩ | ⟨_, _, q, _⟩ | ⟨q, _⟩ | ⟨q, _⟩
          · cases l2 with
            | nil =>
              have hb : (Xp.atm (leaf t)).post = b.post := by rw [← b3, readD_one t k]; rfl
              have := post_inj (wr := wr) (a := .atm (leaf t)) ⟨rfl, hw t (by simp) k⟩ b1 hb
              exact ⟨leaf t, this.symm, by rcases k2 with h | h; cases h; exact h⟩
            | cons u l3 =>
              exfalso
              obtain ⟨b2, n2, q3, q4⟩ := ctl_cons q2
              rcases cstep_cases q3 with ⟨q, _⟩ | ⟨q, _⟩ | ⟨_, _, q, _⟩ | ⟨_, q, _⟩
              · cases q
              · cases q
              · omega
              · simp only [lowsOk] at e8
                rw [if_neg (by omega), if_neg (by omega), if_neg (bind_ne q).2.1, if_neg (bind_ne q).2.2] at e8
                have := e8.2.1 (by first | exact rfl | trivial) q
                have := bind_le u.kind
                have : bindK s.kind = 4 := by rw [h5]; decide
                omega
          · cases q
          · cases q
          · cases q
      have lowM : ∀ (q : Int), lowsOk q 0 (l1 ++ s :: l2) → q ≤ bindK s.kind := by
        intro q hq
        have gen : ∀ (l1 : List Tok) (b : Bool) (n : Nat) (az : Bool), ctl M b n az l1 = some (true, 0) → lowsOk q n (l1 ++ s :: l2) → q ≤ bindK s.kind := by
          intro l1
          induction l1 with
          | nil =>
            intro b n az hc hq
            simp only [ctl, Option.some.injEq, Prod.mk.injEq] at hc
            simp only [List.nil_append, lowsOk] at hq
            rw [if_neg n6, if_neg n7] at hq
            exact hq.1 hc.2 e3
          | cons t l1 ih =>
            intro b n az hc hq
            obtain ⟨b', n', q1, q2⟩ := ctl_cons hc
            simp only [List.cons_append, lowsOk] at hq
            rcases cstep_cases q1 with ⟨_, k, _, _, rfl⟩ | ⟨_, k, _, _, _, rfl⟩ | ⟨_, k, _, _, rfl⟩ | ⟨_, k, _, rfl⟩
            · rw [if_neg (by omega), if_neg (by omega)] at hq; exact ih _ _ _ q2 hq.2
            · rw [if_pos k] at hq; exact ih _ _ _ q2 hq
            · rw [if_neg (by omega), if_pos k] at hq; exact ih _ _ _ q2 hq
            · rw [if_neg (bind_ne k).2.1, if_neg (bind_ne k).2.2] at hq; exact ih _ _ _ q2 hq.2
        exact gen l1 false 0 false e5 hq
      refine ⟨.op s.kind a b, ⟨e3, role, a1, b1⟩, ?_, fun q hq => ?_, fun q => ?_⟩
      · rw [readD_sign e5 a2 e3 e7 e8, a3, b3]; rfl
      · have hq2 := lowM q hq
        have r1 := a4 _ e7
        have r2 := b4 _ e8
        simp only [Xp.toks]
        rw [if_neg (by omega), opens_app, opens_app, opens_cons, opens_cons, if_neg n6, if_neg (show ¬ (tokS s.kind).kind = 6 from n6)]
        omega
      · rw [(toks_more q _).2]
        simp only [Xp.toks]
        rw [if_neg (by have := bind_ge s.kind; omega), others_app, others_app, others_cons, others_cons, if_neg (by rw [hp2]; simp), if_neg (by rw [hp]; simp), a5, b5, hs]
/-- the first token that may not stand where it does, and why; or how it ends -/
def ctlE (M : Nat) : Nat → Bool → Nat → Bool → List Tok → (Nat × Int) ⊕ (Bool × Nat)
  | _, b, n, _, [] => .inr (b, n)
  | i, b, n, az, t :: l => match cstep M b n az t with
    | none => .inl (i, if b = false ∧ t.kind = 6 ∧ az = false then 3 else 2)
    | some (b', n') => ctlE M (i + 1) b' n' (decide (t.kind = 5)) l
theorem ctlE_ok {M : Nat} : ∀ (l : List Tok) (i : Nat) (b : Bool) (n : Nat) (az : Bool) (r : Bool × Nat), ctlE M i b n az l = .inr r ↔ ctl M b n az l = some r
  | [], i, b, n, az, r => by simp [ctlE, ctl]
  | t :: l, i, b, n, az, r => by
    simp only [ctlE, ctl]
    cases cstep M b n az t with
    | none => simp
    | some x => exact ctlE_ok l _ _ _ _ _
theorem ctlE_app {M : Nat} : ∀ (l1 l2 : List Tok) (i : Nat) (b : Bool) (n : Nat) (az : Bool), ctlE M i b n az (l1 ++ l2) = match ctlE M i b n az l1 with
    | .inl x => .inl x
    | .inr (b', n') => ctlE M (i + l1.length) b' n' (lastAs az l1) l2
  | [], l2, i, b, n, az => rfl
  | t :: l1, l2, i, b, n, az => by
    simp only [List.cons_append, ctlE]
    cases cstep M b n az t with
    | none => rfl
    | some x =>
      obtain ⟨b', n'⟩ := x
      simp only
      rw [ctlE_app l1 l2 (i + 1) b' n' _, lastAs_cons, List.length_cons, show i + 1 + l1.length = i + (l1.length + 1) by omega]
theorem ctlE_lt {M : Nat} : ∀ (l : List Tok) (i : Nat) (b : Bool) (n : Nat) (az : Bool) (j : Nat) (e : Int), ctlE M i b n az l = .inl (j, e) → i ≤ j ∧ j < i + l.length ∧ (e = 2 ∨ e = 3)
  | [], i, b, n, az, j, e, h => by simp [ctlE] at h
  | t :: l, i, b, n, az, j, e, h => by
    simp only [ctlE] at h
    rw [List.length_cons]
    cases hc : cstep M b n az t with
    | none =>
      rw [hc] at h
      simp only [Sum.inl.injEq, Prod.mk.injEq] at h
      obtain ⟨rfl, rfl⟩ := h
      refine ⟨Nat.le_refl _, by omega, ?_⟩
      split <;> simp
    | some x =>
      obtain ⟨b', n'⟩ := x
      rw [hc] at h
      have := ctlE_lt l _ _ _ _ _ _ h
      omega
/-- with one parenthesis more around: the same, or too many are open -/
theorem ctl_up {M : Nat} : ∀ (l : List Tok) (i : Nat) (b : Bool) (n : Nat) (az : Bool) (r : Bool × Nat), ctl M b n az l = some r → ctlE M i b (n + 1) az l = .inr (r.1, r.2 + 1) ∨ ∃ j, ctlE M i b (n + 1) az l = .inl (j, 3)
  | [], i, b, n, az, r, h => by
    simp only [ctl, Option.some.injEq] at h
    subst h
    exact .inl rfl
  | t :: l, i, b, n, az, r, h => by
    obtain ⟨b', n', h1, h2⟩ := ctl_cons h
    simp only [ctlE]
    rcases cstep_cases h1 with ⟨rfl, k1, k2, rfl, rfl⟩ | ⟨rfl, k1, rfl, k3, rfl, rfl⟩ | ⟨rfl, k1, hp, rfl, rfl⟩ | ⟨rfl, k1, rfl, rfl⟩
    · have : cstep M false (n' + 1) az t = some (true, n' + 1) := by unfold cstep; rw [if_pos rfl, if_pos ⟨k1, k2⟩]
      rw [this]
      exact ctl_up l _ _ _ _ _ h2
    · by_cases hM : n + 1 = M
      · have : cstep M false (n + 1) false t = none := by unfold cstep; rw [if_pos rfl, if_neg (by omega), if_pos ⟨k1, rfl⟩, if_pos hM]
        rw [this]
        exact .inr ⟨i, by simp [k1]⟩
      · have : cstep M false (n + 1) false t = some (false, n + 1 + 1) := by unfold cstep; rw [if_pos rfl, if_neg (by omega), if_pos ⟨k1, rfl⟩, if_neg hM]
        rw [this]
        exact ctl_up l _ _ _ _ _ h2
    · have : cstep M true (n + 1) az t = some (true, n - 1 + 1) := by unfold cstep; rw [if_neg (by simp), if_pos k1, if_pos (by omega)]; congr 2; omega
      rw [this]
      exact ctl_up l _ _ _ _ _ h2
    · have : cstep M true (n' + 1) az t = some (false, n' + 1) := by unfold cstep; rw [if_neg (by simp), if_neg (bind_ne k1).2.2, if_pos k1]
      rw [this]
      exact ctl_up l _ _ _ _ _ h2
/-- WHAT TOKENS ARE READ AS: terms; where they are wrong, and why -/
def readR (wd : Tok → Bool) (l : List Tok) : List Trm × Nat × Int :=
  match l.findIdx? (fun t => !wd t) with
  | some i => ([], i, 2)
  | none => match ctlE 100 0 false 0 false l with
    | .inl (i, e) => ([], i, e)
    | .inr (b, n) => if b = false ∨ 0 < n then ([], l.length, 2) else if 200 < (readD l).length then ([], l.length, 3) else (readD l, 0, 0)
theorem readR_ok {wd : Tok → Bool} {l : List Tok} (h : (readR wd l).2.2 = 0) : (∀ t ∈ l, wd t = true) ∧ accT 100 l ∧ (readD l).length ≤ 200 ∧ readR wd l = (readD l, 0, 0) := by
  unfold readR at h ⊢
  cases hf : l.findIdx? (fun t => !wd t) with
  | some i => rw [hf] at h; cases h
  | none =>
    rw [hf] at h
    simp only at h ⊢
    have hw : ∀ t ∈ l, wd t = true := fun t ht => by
      have := List.findIdx?_eq_none_iff.1 hf t ht
      simpa using this
    cases hc : ctlE 100 0 false 0 false l with
    | inl x =>
      obtain ⟨i, e⟩ := x
      rw [hc] at h
      have := (ctlE_lt _ _ _ _ _ _ _ hc).2.2
      simp only at h
      omega
    | inr x =>
      obtain ⟨b, n⟩ := x
      rw [hc] at h
      simp only at h ⊢
      by_cases h1 : b = false ∨ 0 < n
      · rw [if_pos h1] at h; cases h
      · rw [if_neg h1] at h ⊢
        by_cases h2 : 200 < (readD l).length
        · rw [if_pos h2] at h; cases h
        · rw [if_neg h2]
          simp only [not_or, Bool.not_eq_false, Nat.not_lt, Nat.le_zero] at h1
          obtain ⟨rfl, rfl⟩ := h1
          exact ⟨hw, (ctlE_ok _ _ _ _ _ _).1 hc, by omega, rfl⟩
theorem readR_acc {wd : Tok → Bool} {l : List Tok} (hw : ∀ t ∈ l, wd t = true) : readR wd l = match ctlE 100 0 false 0 false l with
    | .inl (i, e) => ([], i, e)
    | .inr (b, n) => if b = false ∨ 0 < n then ([], l.length, 2) else if 200 < (readD l).length then ([], l.length, 3) else (readD l, 0, 0) := by
  unfold readR
  rw [List.findIdx?_eq_none_iff.2 (fun t ht => by simp [hw t ht])]
/-- a parenthesis that isn't open -/
theorem readR_close {wd : Tok → Bool} {l : List Tok} {c : Tok} (h : (readR wd l).2.2 = 0) (hc : c.kind = 7) (hw : wd c = true) : readR wd (l ++ [c]) = ([], l.length, 2) := by
  obtain ⟨h1, h2, h3, _⟩ := readR_ok h
  rw [readR_acc (by intro t ht; rcases List.mem_append.1 ht with ht | ht; exact h1 t ht; simp at ht; subst ht; exact hw), ctlE_app, (ctlE_ok l 0 false 0 false _).2 h2]
  simp only [ctlE]
  have : cstep 100 true 0 (lastAs false l) c = none := by unfold cstep; rw [if_neg (by simp), if_pos hc, if_neg (by omega)]
  rw [this]
  simp
/-- one that isn't closed -/
theorem readR_open {wd : Tok → Bool} {l : List Tok} {o : Tok} (h : (readR wd l).2.2 = 0) (ho : o.kind = 6) (hw : wd o = true) : readR wd (o :: l) = ([], l.length + 1, 2) ∨ (readR wd (o :: l)).2.2 = 3 := by
  obtain ⟨h1, h2, h3, _⟩ := readR_ok h
  rw [readR_acc (by intro t ht; rcases List.mem_cons.1 ht with rfl | ht; exact hw; exact h1 t ht)]
  have e1 : cstep 100 false 0 false o = some (false, 1) := by unfold cstep; rw [if_pos rfl, if_neg (by omega), if_pos ⟨ho, rfl⟩, if_neg (by omega)]
  simp only [ctlE, e1]
  rw [show decide (o.kind = 5) = false by rw [decide_eq_false]; omega]
  rcases ctl_up l 1 false 0 false _ h2 with e | ⟨j, e⟩
  · rw [e]; left; simp
  · rw [e]; right; rfl
/-- one more around -/
theorem readR_around {wd : Tok → Bool} {l : List Tok} {o c : Tok} (h : (readR wd l).2.2 = 0) (ho : o.kind = 6) (hc : c.kind = 7) (hwo : wd o = true) (hwc : wd c = true) : readR wd (o :: (l ++ [c])) = readR wd l ∨ (readR wd (o :: (l ++ [c]))).2.2 = 3 := by
  obtain ⟨h1, h2, h3, h4⟩ := readR_ok h
  rw [h4, readR_acc (l := o :: (l ++ [c])) (by intro t ht; simp at ht; rcases ht with rfl | ht | rfl; exact hwo; exact h1 t ht; exact hwc)]
  have e1 : cstep 100 false 0 false o = some (false, 1) := by unfold cstep; rw [if_pos rfl, if_neg (by omega), if_pos ⟨ho, rfl⟩, if_neg (by omega)]
  simp only [ctlE, e1]
  rw [show decide (o.kind = 5) = false by rw [decide_eq_false]; omega, ctlE_app]
  rcases ctl_up l (0 + 1) false 0 false _ h2 with e | ⟨j, e⟩
  · left
    rw [e]
    have e2 : cstep 100 true (0 + 1) (lastAs false l) c = some (true, 0) := by unfold cstep; rw [if_neg (by simp), if_pos hc, if_pos (by omega)]
    simp only [ctlE, e2]
    rw [readD_open ho hc h2, if_neg (by simp), if_neg (by omega)]
  · right
    rw [e]
end Go.Proofs.Ytmbijfcjfhdnjaa

/- Expressions: the reader, token by token: it takes just what may stand there (plain). -/
namespace Go.Proofs.Ytmbijfcjfhdnjaa
set_option linter.unusedSimpArgs false
set_option linter.unusedVariables false
open Go.RowKit Go.Lib

/-- the reader: terms, what waits (the last one ahead), how many parentheses are open, whether a part stands behind -/
structure Rdr where
  out : List Trm
  w : List Int
  opn : Nat
  beh : Bool
/-- the reader takes a token, or tells what is wrong -/
def takeR (r : Rdr) (t : Tok) : Int ⊕ Rdr :=
  if r.beh = false then
    if t.kind = 1 then (if r.w.headD 0 = 5 ∧ t.of ≠ 5 then .inl 2 else .inr ⟨r.out ++ [leaf t], r.w, r.opn, true⟩)
    else if t.kind = 6 ∧ r.w.headD 0 ≠ 5 then (if r.opn = 100 then .inl 3 else .inr ⟨r.out, 6 :: r.w, r.opn + 1, false⟩)
    else .inl 2
  else if 0 < bindK t.kind then .inr ⟨r.out ++ (popL (bindK t.kind) r.w).map sgn, t.kind :: popR (bindK t.kind) r.w, r.opn, false⟩
  else if t.kind = 7 then (if r.opn = 0 then .inl 2 else .inr ⟨r.out ++ (popL 1 r.w).map sgn, (popR 1 r.w).tail, r.opn - 1, true⟩)
  else .inl 2
/-- what waits last tells whether a role must come -/
def rinv (az : Bool) (r : Rdr) : Prop := r.beh = false → (az = true ↔ r.w.headD 0 = 5)
theorem takeR_eq {az : Bool} {r : Rdr} {t : Tok} (h : rinv az r) : takeR r t = match cstep 100 r.beh r.opn az t with
    | none => .inl (if r.beh = false ∧ t.kind = 6 ∧ az = false then 3 else 2)
    | some (b', n') => .inr ⟨(sstep (r.out, r.w) t).1, (sstep (r.out, r.w) t).2, n', b'⟩ := by
  obtain ⟨out, w, n, b⟩ := r
  unfold takeR cstep sstep
  simp only at h ⊢
  cases b with
  | false =>
    have h := h rfl
    simp only at h
    by_cases k1 : t.kind = 1
    · have k6 : ¬ t.kind = 6 := by omega
      by_cases ho : t.of = 5 <;> by_cases hw : w.headD 0 = 5 <;> cases az <;> simp_all
    · by_cases k6 : t.kind = 6
      · by_cases hw : w.headD 0 = 5 <;> by_cases hn : n = 100 <;> cases az <;> simp_all
      · by_cases hw : w.headD 0 = 5 <;> cases az <;> simp_all
  | true =>
    by_cases kb : 0 < bindK t.kind
    · obtain ⟨n1, n6, n7⟩ := bind_ne kb
      simp [kb, n1, n6, n7]
    · by_cases k7 : t.kind = 7
      · by_cases hn : n = 0
        · simp [k7, hn, bind7]
        · simp [k7, hn, bind7, Nat.pos_of_ne_zero hn]
      · simp [kb, k7]
theorem rinv_step {az : Bool} {r : Rdr} {t : Tok} {b' : Bool} {n' : Nat} (h : cstep 100 r.beh r.opn az t = some (b', n')) : rinv (decide (t.kind = 5)) ⟨(sstep (r.out, r.w) t).1, (sstep (r.out, r.w) t).2, n', b'⟩ := by
  intro hb
  simp only at hb
  rcases cstep_cases h with ⟨_, k, _, rfl, _⟩ | ⟨_, k, _, _, rfl, _⟩ | ⟨_, k, _, rfl, _⟩ | ⟨_, k, rfl, _⟩
  · cases hb
  · simp [sstep, k]
  · cases hb
  · obtain ⟨n1, n6, n7⟩ := bind_ne k
    simp [sstep, n1, n6, n7]
/-- THE READER over all tokens -/
def runR : Nat → Rdr → List Tok → (Nat × Int) ⊕ Rdr
  | _, r, [] => .inr r
  | i, r, t :: l => match takeR r t with
    | .inl e => .inl (i, e)
    | .inr r' => runR (i + 1) r' l
theorem runR_eq : ∀ (l : List Tok) (i : Nat) (az : Bool) (r : Rdr), rinv az r → runR i r l = match ctlE 100 i r.beh r.opn az l with
    | .inl x => .inl x
    | .inr (b, n) => .inr ⟨(srun l (r.out, r.w)).1, (srun l (r.out, r.w)).2, n, b⟩
  | [], i, az, r, h => rfl
  | t :: l, i, az, r, h => by
    simp only [runR, ctlE, takeR_eq h]
    cases hc : cstep 100 r.beh r.opn az t with
    | none => rfl
    | some x =>
      obtain ⟨b', n'⟩ := x
      simp only
      rw [runR_eq l (i + 1) _ _ (rinv_step hc)]
      rfl
/-- how many parentheses wait is how many are open -/
def rcnt (r : Rdr) : Prop := r.w.count 6 = r.opn ∧ ∀ k ∈ r.w, k = 6 ∨ 0 < bindK k
theorem rcnt_take {r r' : Rdr} {t : Tok} (h : rcnt r) (ht : takeR r t = .inr r') : rcnt r' := by
  obtain ⟨out, w, n, b⟩ := r
  obtain ⟨h1, h2⟩ := h
  simp only at h1 h2
  unfold takeR at ht
  simp only at ht
  split at ht
  · split at ht
    · split at ht
      · cases ht
      · simp only [Sum.inr.injEq] at ht
        subst ht
        exact ⟨h1, h2⟩
    · split at ht
      · split at ht
        · cases ht
        · simp only [Sum.inr.injEq] at ht
          subst ht
          refine ⟨by simp [List.count_cons, h1], fun k hk => ?_⟩
          rcases List.mem_cons.1 hk with rfl | hk
          · exact .inl rfl
          · exact h2 k hk
      · cases ht
  · split at ht
    · next kb =>
      simp only [Sum.inr.injEq] at ht
      subst ht
      refine ⟨?_, fun k hk => ?_⟩
      · show List.count 6 (t.kind :: popR (bindK t.kind) w) = n
        rw [List.count_cons, popR_count kb, if_neg (by simpa using (bind_ne kb).2.1)]; omega
      · rcases List.mem_cons.1 hk with rfl | hk
        · exact .inr kb
        · exact h2 k (popR_mem hk)
    · split at ht
      · split at ht
        · cases ht
        · next hn =>
          simp only [Sum.inr.injEq] at ht
          subst ht
          obtain ⟨R, e1, e2⟩ := popR_close (P := w) (by omega) h2
          refine ⟨?_, fun k hk => ?_⟩
          · show List.count 6 (popR 1 w).tail = n - 1
            rw [e1, List.tail_cons]; omega
          · have hk : k ∈ (popR 1 w).tail := hk
            exact h2 k (popR_mem (q := 1) (List.mem_of_mem_tail hk))
      · cases ht
end Go.Proofs.Ytmbijfcjfhdnjaa
