/- Texts of one proof, laid together: Ka Kb Kc Kd Ea Eb FnE Al Ke Kf Ec Ed Ee Ef Eg Kg Kh Kj Kk Ay FnN St Sa. -/
import Derived.Test.YtedaffmkpljlnaaGreatMB18
import Derived.Test.YtedaffmkpljlnaaGreatProg
import Derived.Test.YtedaffmkpljlnaaGreatMB17
import Derived.Test.YtedaffmkpljlnaaGreatMB13
set_option maxRecDepth 100000
set_option maxHeartbeats 16000000

/- Texts rune by rune; the small functions of token and its reference; stop. -/
namespace Go.Proofs.YtedaffmkpljlnaaGreat
set_option linter.unusedSimpArgs false
set_option linter.unusedVariables false
open Go.RowKit Go.Lib

theorem byte_get {s : ByteArray} {i : Nat} (h : i < s.size) : s.get! i = s.data.toList[i]'(by simpa using h) := by
  show s.get! i = _
  simp only [ByteArray.get!]
  rw [getElem!_pos s.data i h]
  simp
theorem dec_lt {s : ByteArray} {pos : Nat} (h : pos < s.data.toList.length) (ha : (s.data.toList[pos]).toNat < 128) : Utf8.decode s pos = ((s.data.toList[pos]).toNat, 1) := by
  have h' : pos < s.size := by simpa using h
  have e : s.get! (pos + 0) = s.data.toList[pos] := by rw [Nat.add_zero]; exact byte_get h'
  simp only [Utf8.decode, e, ha, if_true]
theorem dec_ge {s : ByteArray} {pos : Nat} (h : pos < s.data.toList.length) (ha : ¬ (s.data.toList[pos]).toNat < 128) :
    128 ≤ (Utf8.decode s pos).1 ∧ 1 ≤ (Utf8.decode s pos).2 ∧ pos + (Utf8.decode s pos).2 ≤ s.data.toList.length ∧ ∀ k (hk : k < s.data.toList.length), pos < k → k < pos + (Utf8.decode s pos).2 → 128 ≤ (s.data.toList[k]).toNat := by
  have h' : pos < s.size := by simpa using h
  have hl : s.data.toList.length = s.size := by simp
  have e : s.get! (pos + 0) = s.data.toList[pos] := by rw [Nat.add_zero]; exact byte_get h'
  have hb : (s.data.toList[pos]).toNat < 256 := (s.data.toList[pos]).toNat_lt
  have cont : ∀ k, (decide (pos + k < s.size) && ((s.get! (pos + k)).toNat / 64 == 2)) = true → pos + k < s.data.toList.length ∧ ∀ hk : pos + k < s.data.toList.length, 128 ≤ (s.data.toList[pos + k]).toNat := by
    intro k hk
    simp only [Bool.and_eq_true, decide_eq_true_eq, beq_iff_eq] at hk
    refine ⟨by omega, fun hk2 => ?_⟩
    have := hk.2
    rw [byte_get hk.1] at this
    omega
  have one : 128 ≤ Utf8.runeError := by decide
  simp only [Utf8.decode, e, ha, if_false]
  split
  · next c =>
    simp only [Bool.and_eq_true, beq_iff_eq] at c
    obtain ⟨c0, c1⟩ := c
    obtain ⟨g1, g2⟩ := cont 1 (by simpa using c1)
    split
    · next c2 => exact ⟨c2, by simp, by omega, fun k hk h1 h2 => by
        obtain rfl : k = pos + 1 := by omega
        exact g2 hk⟩
    · exact ⟨one, by decide, by omega, fun k hk h1 h2 => by omega⟩
  · split
    · next c =>
      simp only [Bool.and_eq_true, beq_iff_eq] at c
      obtain ⟨⟨c0, c1⟩, c2⟩ := c
      obtain ⟨g1, g2⟩ := cont 1 (by simpa using c1)
      obtain ⟨g3, g4⟩ := cont 2 (by simpa using c2)
      split
      · next c3 =>
        simp only [Bool.and_eq_true, decide_eq_true_eq] at c3
        exact ⟨by omega, by simp, by omega, fun k hk h1 h2 => by
          rcases (show k = pos + 1 ∨ k = pos + 2 by omega) with rfl | rfl
          · exact g2 hk
          · exact g4 hk⟩
      · exact ⟨one, by decide, by omega, fun k hk h1 h2 => by omega⟩
    · split
      · next c =>
        simp only [Bool.and_eq_true, beq_iff_eq] at c
        obtain ⟨⟨⟨c0, c1⟩, c2⟩, c3⟩ := c
        obtain ⟨g1, g2⟩ := cont 1 (by simpa using c1)
        obtain ⟨g3, g4⟩ := cont 2 (by simpa using c2)
        obtain ⟨g5, g6⟩ := cont 3 (by simpa using c3)
        split
        · next c3 =>
          simp only [Bool.and_eq_true, decide_eq_true_eq] at c3
          exact ⟨by omega, by simp, by omega, fun k hk h1 h2 => by
            rcases (show k = pos + 1 ∨ k = pos + 2 ∨ k = pos + 3 by omega) with rfl | rfl | rfl
            · exact g2 hk
            · exact g4 hk
            · exact g6 hk⟩
        · exact ⟨one, by decide, by omega, fun k hk h1 h2 => by omega⟩
      · exact ⟨one, by decide, by omega, fun k hk h1 h2 => by omega⟩
def digI (r : Int) : Bool := decide (48 ≤ r) && decide (r ≤ 57)
def lttI (r : Int) : Bool := decide (97 ≤ r) && decide (r ≤ 122)
def innI (r : Int) : Bool := lttI r || digI r || decide (r = 45) || decide (r = 46)
def freI (r : Int) : Bool := !innI r && decide (r ≠ 58) && (decide (r < 65) || decide (90 < r))
def notI (r : Int) : Bool := decide (r ≠ 10)
theorem hi_dig (r : Int) (h : 128 ≤ r) : digI r = digI 128 := by simp [digI]; omega
theorem hi_inn (r : Int) (h : 128 ≤ r) : innI r = innI 128 := by simp [innI, digI, lttI]; omega
theorem hi_fre (r : Int) (h : 128 ≤ r) : freI r = freI 128 := by simp [freI, innI, digI, lttI]; omega
theorem hi_not (r : Int) (h : 128 ≤ r) : notI r = notI 128 := by simp [notI]; omega
theorem p_digit (r : Int) : PCalls Tryz.prog 117 [.int .i32 r] (.bool (digI r)) := by
  refine pcalls_of (by first | rfl | simp [free, free.frees, frees_str, frees_u8, frees_u16]) (by first | rfl | simp [free, free.frees, frees_str, frees_u8, frees_u16]) (acalls_of mixed J_token_digit_ok (Nat.le_of_ble_eq_true rfl) ?_); simp only [J_token_digit, wk,eq_self,Nat.reduceEqDiff,reduceCtorEq,↓reduceIte]
  refine ⟨fun e => ?_, fun e => ?_⟩ <;> congr 1 <;> simp [digI, e]
theorem p_letter (r : Int) : PCalls Tryz.prog 118 [.int .i32 r] (.bool (lttI r)) := by
  refine pcalls_of (by first | rfl | simp [free, free.frees, frees_str, frees_u8, frees_u16]) (by first | rfl | simp [free, free.frees, frees_str, frees_u8, frees_u16]) (acalls_of mixed J_token_letter_ok (Nat.le_of_ble_eq_true rfl) ?_); simp only [J_token_letter, wk,eq_self,Nat.reduceEqDiff,reduceCtorEq,↓reduceIte]
  refine ⟨fun e => ?_, fun e => ?_⟩ <;> congr 1 <;> simp [lttI, e]
theorem p_rdigit (r : Int) : PCalls Tryz.prog 111 [.int .i32 r] (.bool (digI r)) := by
  refine pcalls_of (by first | rfl | simp [free, free.frees, frees_str, frees_u8, frees_u16]) (by first | rfl | simp [free, free.frees, frees_str, frees_u8, frees_u16]) (acalls_of mixed J_ref04_digit_ok (Nat.le_of_ble_eq_true rfl) ?_); simp only [J_ref04_digit, wk,eq_self,Nat.reduceEqDiff,reduceCtorEq,↓reduceIte]
  refine ⟨fun e => ?_, fun e => ?_⟩ <;> congr 1 <;> simp [digI, e]
theorem p_not (r : Int) : PCalls Tryz.prog 97 [.int .i32 r] (.bool (notI r)) := by
  refine pcalls_of (by first | rfl | simp [free, free.frees, frees_str, frees_u8, frees_u16]) (by first | rfl | simp [free, free.frees, frees_str, frees_u8, frees_u16]) (acalls_of mixed J_token_All_1_ok (Nat.le_of_ble_eq_true rfl) ?_); simp only [J_token_All_1, wk,ne_eq,eq_self,reduceCtorEq,↓reduceIte]
  rfl
theorem p_inName (r : Int) : PCalls Tryz.prog 143 [.int .i32 r] (.bool (innI r)) := by
  refine pcalls_of (by first | rfl | simp [free, free.frees, frees_str, frees_u8, frees_u16]) (by first | rfl | simp [free, free.frees, frees_str, frees_u8, frees_u16]) (acalls_of mixed J_token_inName_ok (Nat.le_of_ble_eq_true rfl) ?_); simp only [J_token_inName, wk,eq_self,reduceCtorEq,↓reduceIte]
  have q := p_digit r
  refine PCalls.use (p_letter r) ?_; simp only [wk,eq_self,Nat.reduceEqDiff,reduceCtorEq,↓reduceIte]
  repeat' (first | (refine PCalls.use q ?_; simp only [wk,eq_self,Nat.reduceEqDiff,reduceCtorEq,↓reduceIte]) | (refine And.intro ?_ ?_) | intro _)
  all_goals (congr 1; simp_all [innI])
theorem p_free (r : Int) : PCalls Tryz.prog 120 [.int .i32 r] (.bool (freI r)) := by
  refine pcalls_of (by first | rfl | simp [free, free.frees, frees_str, frees_u8, frees_u16]) (by first | rfl | simp [free, free.frees, frees_str, frees_u8, frees_u16]) (acalls_of mixed J_token_free_ok (Nat.le_of_ble_eq_true rfl) ?_); simp only [J_token_free, wk,eq_self,reduceCtorEq,↓reduceIte]
  refine PCalls.use (p_inName r) ?_; simp only [wk,ne_eq,eq_self,Nat.reduceEqDiff,reduceCtorEq,↓reduceIte]
  repeat' (first | (refine And.intro ?_ ?_) | intro _)
  all_goals (congr 1; unfold freI; simp_all; try omega)
def keyW (s : ByteArray) : Int := if s = ⟨#[97, 110, 100]⟩ then 2 else if s = ⟨#[102, 111, 114]⟩ then 3 else if s = ⟨#[97, 115]⟩ then 5 else 0
theorem p_keyword (s : ByteArray) : PCalls Tryz.prog 128 [.str s] (.int .i64 (keyW s)) := by
  refine pcalls_of (by first | rfl | simp [free, free.frees, frees_str, frees_u8, frees_u16]) (by first | rfl | simp [free, free.frees, frees_str, frees_u8, frees_u16]) (acalls_of mixed J_token_keyword_ok (Nat.le_of_ble_eq_true rfl) ?_); simp only [J_token_keyword, wk,eq_self,Nat.reduceEqDiff,reduceCtorEq,↓reduceIte]
  repeat' (first | (refine And.intro ?_ ?_) | intro _)
  all_goals (congr 1; simp_all [keyW])
theorem p_rkeyword (s : ByteArray) : PCalls Tryz.prog 78 [.str s] (.int .i64 (keyW s)) := by
  refine pcalls_of (by first | rfl | simp [free, free.frees, frees_str, frees_u8, frees_u16]) (by first | rfl | simp [free, free.frees, frees_str, frees_u8, frees_u16]) (acalls_of mixed J_ref04_Keyword_ok (Nat.le_of_ble_eq_true rfl) ?_); simp only [J_ref04_Keyword, wk,eq_self,Nat.reduceEqDiff,reduceCtorEq,↓reduceIte]
  repeat' (first | (refine And.intro ?_ ?_) | intro _)
  all_goals (congr 1; simp_all [keyW])
def aheW (s : ByteArray) : Int := if s = ⟨#[107, 101, 121]⟩ then 1 else if s = ⟨#[99, 104, 97, 110]⟩ then 2 else if s = ⟨#[103, 114, 111, 117, 112]⟩ then 4 else if s = ⟨#[114, 111, 108, 101]⟩ then 5 else 0
theorem p_ahead (s : ByteArray) : PCalls Tryz.prog 144 [.str s] (.int .i64 (aheW s)) := by
  refine pcalls_of (by first | rfl | simp [free, free.frees, frees_str, frees_u8, frees_u16]) (by first | rfl | simp [free, free.frees, frees_str, frees_u8, frees_u16]) (acalls_of mixed J_token_ahead_ok (Nat.le_of_ble_eq_true rfl) ?_); simp only [J_token_ahead, wk,eq_self,Nat.reduceEqDiff,reduceCtorEq,↓reduceIte]
  repeat' (first | (refine And.intro ?_ ?_) | intro _)
  all_goals (congr 1; simp_all [aheW])
def preW (k : Int) : ByteArray := if k = 1 then ⟨#[107, 101, 121, 58]⟩ else if k = 2 then ⟨#[99, 104, 97, 110, 58]⟩ else if k = 4 then ⟨#[103, 114, 111, 117, 112, 58]⟩ else if k = 5 then ⟨#[114, 111, 108, 101, 58]⟩ else ⟨#[]⟩
theorem p_prefix (k : Int) : PCalls Tryz.prog 79 [.int .i64 k] (.str (preW k)) := by
  refine pcalls_of (by first | rfl | simp [free, free.frees, frees_str, frees_u8, frees_u16]) (by first | rfl | simp [free, free.frees, frees_str, frees_u8, frees_u16]) (acalls_of mixed J_ref04_Prefix_ok (Nat.le_of_ble_eq_true rfl) ?_); simp only [J_ref04_Prefix, wk,eq_self,Nat.reduceEqDiff,reduceCtorEq,↓reduceIte]
  repeat' (first | (refine And.intro ?_ ?_) | intro _)
  all_goals (congr 1; simp_all [preW])
def stopN (q : Int → Bool) (l : List UInt8) : Nat := (l.takeWhile fun b => q b.toNat).length
theorem tw_len {α : Type} {f : α → Bool} : ∀ {l : List α} {p : Nat}, p ≤ l.length → (∀ b ∈ l.take p, f b = true) → (∀ h : p < l.length, f l[p] = false) → (l.takeWhile f).length = p
  | [], p, h, _, _ => by simp at h; simp [h]
  | b :: l, 0, _, _, h => by
    have := h (by simp)
    simp at this
    simp [this]
  | b :: l, p + 1, h, h1, h2 => by
    have hb := h1 b (by simp)
    have := tw_len (f := f) (l := l) (p := p) (by simpa using h) (fun x hx => h1 x (by simp [hx])) (fun hp => by have h3 := h2 (by simp; omega); rwa [List.getElem_cons_succ] at h3)
    simp [hb, this]
theorem p_stop {f : FuncId} {q : Int → Bool} (hf : ∀ r : Int, PCalls Tryz.prog f [.int .i32 r] (.bool (q r))) (hi : ∀ r, 128 ≤ r → q r = q 128) (s : ByteArray) (k : Nat) (hs : s.size ≤ 1000000) (hk : k ≤ s.size) :
    PCalls Tryz.prog 96 [.str s, .int .i64 k, .fn f []] (.int .i64 (k + stopN q (s.data.toList.drop k))) := by
  refine pcalls_of (by first | rfl | simp [free, free.frees, frees_str, frees_u8, frees_u16]) (by first | rfl | simp [free, free.frees, frees_str, frees_u8, frees_u16]) (acalls_of mixed J_token_stop_ok (Nat.le_of_ble_eq_true rfl) ?_); simp only [J_token_stop, wk,eq_self,Nat.reduceEqDiff,Nat.reduceAdd,reduceCtorEq,↓reduceIte]
  refine ⟨⟨by omega, by omega⟩, ?_⟩
  obtain ⟨S, hS⟩ : ∃ S, S = s.extract k s.size := ⟨_, rfl⟩
  have hl : S.data.toList = s.data.toList.drop k := by rw [hS]; simp only [ByteArray.data_extract, Array.toList_extract, List.extract_eq_take_drop]; rw [List.take_of_length_le (by simp)]
  have hSz : S.size ≤ 1000000 := by rw [hS]; simp; omega
  rw [← hl]
  simp only [Int.toNat_natCast, ← hS]
  refine W_loop (fun n fr h' => ∃ p : Nat, p ≤ S.data.toList.length ∧ n = S.data.toList.length - p ∧ fr = [(0, .str s), (1, .int .i64 k), (2, .fn f []), (12, .itr S p)] ∧ ∀ b ∈ S.data.toList.take p, q b.toNat = true) S.data.toList.length ⟨0, by omega, by omega, rfl, by simp⟩ ?_
  rintro n fr h' ⟨p, hp, rfl, rfl, hall⟩
  have hlen : S.data.toList.length = S.size := by simp
  simp only [J_token_stop_j2, wk,eq_self,Nat.reduceEqDiff,reduceCtorEq,↓reduceIte]
  refine ⟨fun hlt => ?_, fun hge => ?_⟩
  · have hpl : p < S.data.toList.length := by omega
    have hfr := hf ((Utf8.decode S p).1 : Nat)
    have hstop : q (Utf8.decode S p).1 = q (S.data.toList[p]).toNat := by
      by_cases ha : (S.data.toList[p]).toNat < 128
      · rw [dec_lt hpl ha]
      · rw [hi _ (by have := (dec_ge hpl ha).1; omega), hi (S.data.toList[p]).toNat (by omega)]
    refine PCalls.use (hfr) ?_; simp only [wk,eq_self,Nat.reduceEqDiff,reduceCtorEq,↓reduceIte]
    refine ⟨fun e => ?_, fun e => ?_⟩
    · have h1 : stopN q S.data.toList = p := tw_len hp hall (fun _ => by rw [← hstop]; exact e)
      rw [h1]
      exact ⟨inR_of (by omega) (by omega), rfl⟩
    · by_cases ha : (S.data.toList[p]).toNat < 128
      · rw [dec_lt hpl ha] at e ⊢
        refine ⟨S.data.toList.length - (p + 1), by omega, p + 1, by omega, rfl, rfl, fun b hb => ?_⟩
        rw [List.take_succ_eq_append_getElem hpl] at hb
        rcases List.mem_append.1 hb with hb | hb
        · exact hall b hb
        · simp at hb; subst hb; exact e
      · obtain ⟨d1, d2, d3, d4⟩ := dec_ge hpl ha
        refine ⟨S.data.toList.length - (p + (Utf8.decode S p).2), by omega, p + (Utf8.decode S p).2, by omega, rfl, rfl, fun b hb => ?_⟩
        obtain ⟨i, hi1, rfl⟩ := List.mem_iff_getElem.1 hb
        simp only [List.length_take] at hi1
        rw [List.getElem_take]
        rcases Nat.lt_trichotomy i p with h1 | h1 | h1
        · exact hall _ (List.mem_iff_getElem.2 ⟨i, by simp; omega, by rw [List.getElem_take]⟩)
        · subst h1; rw [← hstop]; exact e
        · have h2 := d4 i (by omega) h1 (by omega)
          rw [hi _ (by omega)] at e
          rw [hi _ (by omega)]; exact e
  · rw [List.take_of_length_le (by omega)] at hall
    simp only [J_token_stop_j1, wk,eq_self,↓reduceIte]
    have h1 : stopN q S.data.toList = S.data.toList.length := tw_len (Nat.le_refl _) (by rw [List.take_length]; exact hall) (fun h => by omega)
    rw [h1, hl, List.length_drop]
    congr 1
    simp only [Array.length_toList, ByteArray.size_data]
    omega
end Go.Proofs.YtedaffmkpljlnaaGreat

/- The reference's Rune, fine, name, number, begins, isSign. -/
namespace Go.Proofs.YtedaffmkpljlnaaGreat
set_option linter.unusedSimpArgs false
set_option linter.unusedVariables false
open Go.RowKit Go.Lib

def atB (s : ByteArray) (p : Nat) : Prop := p = 0 ∨ ∃ h : p - 1 < s.data.toList.length, (s.data.toList[p - 1]).toNat < 128
theorem len_size (s : ByteArray) : s.data.toList.length = s.size := by simp
theorem step_le {s : ByteArray} {p a : Nat} (hb : atB s a) (hp : p < a) (ha : a ≤ s.size) : p + (Utf8.decode s p).2 ≤ a := by
  have hl := len_size s
  have hpl : p < s.data.toList.length := by omega
  rcases hb with hb | ⟨h, hb⟩
  · omega
  · by_cases h1 : (s.data.toList[p]).toNat < 128
    · rw [dec_lt hpl h1]; show p + 1 ≤ a; omega
    · obtain ⟨d1, d2, d3, d4⟩ := dec_ge hpl h1
      rcases Nat.lt_or_ge a (p + (Utf8.decode s p).2) with h2 | h2
      · by_cases h3 : a - 1 = p
        · simp only [h3] at hb; omega
        · have := d4 (a - 1) h (by omega) (by omega)
          omega
      · exact h2
theorem step_one {s : ByteArray} {p : Nat} (hp : p < s.size) : 1 ≤ (Utf8.decode s p).2 ∧ p + (Utf8.decode s p).2 ≤ s.size := by
  have hl := len_size s
  have hpl : p < s.data.toList.length := by omega
  by_cases h1 : (s.data.toList[p]).toNat < 128
  · rw [dec_lt hpl h1]; exact ⟨Nat.le_refl _, by show p + 1 ≤ s.size; omega⟩
  · obtain ⟨d1, d2, d3, d4⟩ := dec_ge hpl h1
    exact ⟨d2, by omega⟩
def fineL : List UInt8 → Bool
  | [] => true
  | b :: _ => freI b.toNat
def nameL (l : List UInt8) : Option Nat := match l with
  | [] => none
  | b :: r => if lttI b.toNat = true ∧ stopN innI (b :: r) ≤ 24 ∧ fineL ((b :: r).drop (stopN innI (b :: r))) = true then some (stopN innI (b :: r)) else none
theorem stopN_le (q : Int → Bool) (l : List UInt8) : stopN q l ≤ l.length := by
  unfold stopN
  exact (List.takeWhile_prefix _).length_le
theorem stopN_at {q : Int → Bool} : ∀ {l : List UInt8} {i : Nat} (h : i < l.length), i < stopN q l → q (l[i]).toNat = true
  | [], i, h, _ => by simp at h
  | b :: l, i, h, hi => by
    by_cases hb : q b.toNat = true
    · have e : stopN q (b :: l) = stopN q l + 1 := by unfold stopN; simp [hb]
      cases i with
      | zero => exact hb
      | succ i =>
        rw [List.getElem_cons_succ]
        exact stopN_at (by simpa using h) (by omega)
    · have e : stopN q (b :: l) = 0 := by unfold stopN; simp [hb]
      omega
theorem stopN_end {q : Int → Bool} : ∀ {l : List UInt8} (h : stopN q l < l.length), q (l[stopN q l]).toNat = false
  | [], h => by simp at h
  | b :: l, h => by
    by_cases hb : q b.toNat = true
    · have e : stopN q (b :: l) = stopN q l + 1 := by unfold stopN; simp [hb]
      have := stopN_end (q := q) (l := l) (by rw [e] at h; simpa using h)
      simp only [e, List.getElem_cons_succ]
      exact this
    · have e : stopN q (b :: l) = 0 := by unfold stopN; simp [hb]
      simp only [e, List.getElem_cons_zero]
      simpa using hb
theorem lo_inn (r : Int) (h : 128 ≤ r) : innI r = false := by rw [hi_inn r h]; rfl
theorem lo_dig (r : Int) (h : 128 ≤ r) : digI r = false := by rw [hi_dig r h]; rfl
theorem hi_ltt (r : Int) (h : 128 ≤ r) : lttI r = lttI 128 := by simp [lttI]; omega
theorem byte_at {s : ByteArray} {i : Nat} (h : i < s.data.toList.length) : byteAt s i = (s.data.toList[i]).toNat := by
  unfold byteAt; rw [List.getElem?_eq_getElem h]; rfl
theorem conv_u8 (b : UInt8) : IntKind.i32.wrap (b.toNat : Int) = b.toNat := by
  have := b.toNat_lt
  rw [IntKind.wrap_i32]; omega
theorem stop_more {q : Int → Bool} {l : List UInt8} {n : Nat} (h : n < l.length) (hn : n ≤ stopN q l) (hq : q (l[n]).toNat = true) : n + 1 ≤ stopN q l := by
  rcases Nat.lt_or_ge n (stopN q l) with h1 | h1
  · exact h1
  · have e : stopN q l = n := by omega
    have := stopN_end (q := q) (l := l) (by omega)
    simp only [e] at this
    rw [hq] at this; cases this
def numW (s : ByteArray) : Bool := decide (1 ≤ s.size) && (decide (s.size ≤ 9) && (s.data.toList.all (fun b => digI b.toNat) && (decide (byteAt s 0 ≠ 48) || decide (s.size = 1))))
theorem p_rnumber (s : ByteArray) (hs : s.size ≤ 1000000) : PCalls Tryz.prog 80 [.str s] (.bool (numW s)) := by
  have hl := len_size s
  refine pcalls_of (by first | rfl | simp [free, free.frees, frees_str, frees_u8, frees_u16]) (by first | rfl | simp [free, free.frees, frees_str, frees_u8, frees_u16]) (acalls_of mixed J_ref04_number_ok (Nat.le_of_ble_eq_true rfl) ?_); simp only [J_ref04_number, wk,eq_self,reduceCtorEq,↓reduceIte]
  refine W_loop (fun m fr h' => ∃ n : Nat, n ≤ s.data.toList.length ∧ m = s.data.toList.length - n ∧ fr = [(0, .str s), (3, .int .i64 n)] ∧ ∀ b ∈ s.data.toList.take n, digI b.toNat = true) s.data.toList.length ⟨0, by omega, by omega, rfl, by simp⟩ ?_
  rintro m fr h' ⟨n, hn, rfl, rfl, hall⟩
  simp only [J_ref04_number_j2, wk,eq_self,Nat.reduceEqDiff,reduceCtorEq,↓reduceIte]
  refine ⟨fun hlt => ⟨⟨by omega, by omega⟩, ?_⟩, fun hge => ?_⟩
  · have hnl : n < s.data.toList.length := by omega
    rw [Int.toNat_natCast, byte_at hnl, conv_u8]
    refine PCalls.use (p_rdigit (s.data.toList[n]).toNat) ?_; simp only [wk,eq_self,Nat.reduceEqDiff,reduceCtorEq,↓reduceIte]
    refine ⟨fun e => ?_, fun e => ⟨inR_of (by omega) (by omega), s.data.toList.length - (n + 1), by omega, n + 1, by omega, rfl, by simp, fun b hb => ?_⟩⟩
    · have : s.data.toList.all (fun b => digI b.toNat) = false := by
        rw [List.all_eq_false]; exact ⟨_, List.getElem_mem hnl, fun h => by rw [e] at h; cases h⟩
      congr 1
      simp [numW, this]
    · rw [List.take_succ_eq_append_getElem hnl] at hb
      rcases List.mem_append.1 hb with hb | hb
      · exact hall b hb
      · simp at hb; subst hb; exact e
  · rw [List.take_of_length_le (by omega)] at hall
    have ha : s.data.toList.all (fun b => digI b.toNat) = true := List.all_eq_true.2 hall
    simp only [J_ref04_number_j1, wk,ne_eq,eq_self,Nat.reduceEqDiff,Int.reduceLE,reduceCtorEq,↓reduceIte]
    unfold numW
    rw [ha]
    repeat' (first | (refine And.intro ?_ ?_) | intro _)
    all_goals first
      | omega
      | (congr 1; simp_all; done)
      | (congr 1; simp_all; omega)
      | (congr 1; rw [Bool.eq_iff_iff]; simp_all; done)
      | (congr 1; rw [Bool.eq_iff_iff]; simp_all; omega)
def sigB (n : Nat) : Bool := n == 61 || n == 44 || n == 59 || n == 60 || n == 62 || n == 33 || n == 63 || n == 42
def sigW (s : ByteArray) : Bool := decide (s.size = 1) && sigB (byteAt s 0)
theorem one_byte {s : ByteArray} (h : s.size = 1) : ∃ b : UInt8, s = ⟨#[b]⟩ := by
  obtain ⟨⟨l⟩⟩ := s
  match l, h with
  | [b], _ => exact ⟨b, rfl⟩
theorem ba_one (b c : UInt8) : ((⟨#[b]⟩ : ByteArray) = ⟨#[c]⟩) ↔ b.toNat = c.toNat := by
  rw [UInt8.toNat_inj]
  constructor
  · intro h; simpa using h
  · rintro rfl; rfl
theorem sigW_iff (s : ByteArray) : sigW s = true ↔ (s = ⟨#[61]⟩ ∨ s = ⟨#[44]⟩ ∨ s = ⟨#[59]⟩ ∨ s = ⟨#[60]⟩ ∨ s = ⟨#[62]⟩ ∨ s = ⟨#[33]⟩ ∨ s = ⟨#[63]⟩ ∨ s = ⟨#[42]⟩) := by
  by_cases h : s.size = 1
  · obtain ⟨b, rfl⟩ := one_byte h
    have e : sigW ⟨#[b]⟩ = sigB b.toNat := by
      unfold sigW
      rw [h]
      rfl
    rw [e]
    simp only [ba_one]
    simp [sigB, or_assoc]
  · constructor
    · intro h1
      simp only [sigW, Bool.and_eq_true, decide_eq_true_eq] at h1
      exact absurd h1.1 h
    · intro h1
      rcases h1 with rfl | rfl | rfl | rfl | rfl | rfl | rfl | rfl <;> exact absurd rfl h
theorem p_isSign (s : ByteArray) : PCalls Tryz.prog 81 [.str s] (.bool (sigW s)) := by
  refine pcalls_of (by first | rfl | simp [free, free.frees, frees_str, frees_u8, frees_u16]) (by first | rfl | simp [free, free.frees, frees_str, frees_u8, frees_u16]) (acalls_of mixed J_ref04_isSign_ok (Nat.le_of_ble_eq_true rfl) ?_); simp only [J_ref04_isSign, wk,eq_self,Nat.reduceEqDiff,reduceCtorEq,↓reduceIte]
  have no : sigW s = true → AV.bool true = .bool (sigW s) := fun h => by rw [h]
  have hi := sigW_iff s
  repeat' (first | (refine And.intro ?_ ?_) | intro _)
  all_goals first
    | (apply no; rw [hi]; simp_all; done)
    | (congr 1; rw [Bool.eq_iff_iff, hi]; simp_all)
end Go.Proofs.YtedaffmkpljlnaaGreat

/- The token at a place: the plain function; the reference's sign. -/
namespace Go.Proofs.YtedaffmkpljlnaaGreat
set_option linter.unusedSimpArgs false
set_option linter.unusedVariables false
open Go.RowKit Go.Lib

def ba (l : List UInt8) : ByteArray := ⟨l.toArray⟩
theorem ba_list (l : List UInt8) : (ba l).data.toList = l := by simp [ba]
theorem ba_len2 (l : List UInt8) : (ba l).size = l.length := by show l.toArray.size = _; simp
theorem ba_eta (s : ByteArray) : ba s.data.toList = s := by apply ByteArray.ext; apply Array.ext'; simp [ba]
theorem ba_inj {a b : List UInt8} : ba a = ba b ↔ a = b := ⟨fun h => by rw [← ba_list a, h, ba_list], fun h => by rw [h]⟩
theorem ext_ba (s : ByteArray) (a n : Nat) : s.extract a (a + n) = ba ((s.data.toList.drop a).take n) := by
  apply ByteArray.ext; apply Array.ext'
  simp [ba, List.extract_eq_take_drop]
def begL (p : ByteArray) (l : List UInt8) : Bool := decide (l.take p.size = p.data.toList)
abbrev Sig := Int × ByteArray × Int × Nat
def atomL (k : Int) (skip : Nat) (l : List UInt8) : Option Sig := match nameL l with
  | none => none
  | some n => some (1, ba (l.take n), k, skip + n)
def plainL : List UInt8 → Option Sig
  | [] => none
  | b :: r =>
    if lttI b.toNat = true then (match nameL (b :: r) with
      | none => none
      | some n => if keyW (ba ((b :: r).take n)) = 0 then some (1, ba ((b :: r).take n), 3, n) else some (keyW (ba ((b :: r).take n)), ba [], 0, n))
    else if b.toNat = 68 then (if fineL r = true then some (1, ba [68], 0, 1) else none)
    else if b.toNat = 124 then some (4, ba [], 0, 1)
    else if b.toNat = 40 then some (6, ba [], 0, 1)
    else if b.toNat = 41 then some (7, ba [], 0, 1)
    else if digI b.toNat = true then (if numW (ba ((b :: r).take (stopN digI (b :: r)))) = true ∧ fineL ((b :: r).drop (stopN digI (b :: r))) = true then some (8, ba ((b :: r).take (stopN digI (b :: r))), 0, stopN digI (b :: r)) else none)
    else if sigB b.toNat = true then some (9, ba [b], 0, 1)
    else none
def kindL (l : List UInt8) : Int := if begL (preW 1) l = true then 1 else if begL (preW 2) l = true then 2 else if begL (preW 4) l = true then 4 else if begL (preW 5) l = true then 5 else 0
def signL (l : List UInt8) : Option Sig := if kindL l = 0 then plainL l else atomL (kindL l) (preW (kindL l)).size (l.drop (preW (kindL l)).size)
def kinds : List Int := [1, 2, 4, 5]
theorem pre_ok {k : Int} (h : k ∈ kinds) : 0 < (preW k).size ∧ (preW k).size ≤ 6 ∧ ∀ b ∈ (preW k).data.toList, b.toNat < 128 := by
  unfold kinds at h
  simp only [List.mem_cons, List.not_mem_nil, or_false] at h
  rcases h with rfl | rfl | rfl | rfl <;> exact ⟨by decide, by decide, by decide⟩
theorem kinds_nz {k : Int} (h : k ∈ kinds) : k ≠ 0 := by
  unfold kinds at h
  simp only [List.mem_cons, List.not_mem_nil, or_false] at h
  omega
end Go.Proofs.YtedaffmkpljlnaaGreat

/- All tokens of a text: the plain function; the reference's All. -/
namespace Go.Proofs.YtedaffmkpljlnaaGreat
set_option linter.unusedSimpArgs false
set_option linter.unusedVariables false
open Go.RowKit Go.Lib

structure Tok where
  kind : Int
  name : ByteArray
  of : Int
  at_ : Int
def tC (t : Tok) : List AV := [.int .i64 t.kind, .str t.name, .int .i64 t.of, .int .i64 t.at_]
def toksC (l : List Tok) : List AV := l.flatMap tC
def vToks (l : List Tok) : AV := .lst .ro l.length (toksC l)
theorem frees_toks (l : List Tok) : free.frees (toksC l) = true := by
  induction l with
  | nil => rfl
  | cons x l ih => simp only [toksC, List.flatMap_cons, tC, List.cons_append, List.nil_append, free.frees, free, Bool.true_and] at ih ⊢; exact ih
theorem rdps_toks : ∀ l : List Tok, rdps (toksC l) = toksC l
  | [] => rdps_nil
  | x :: l => by
    have := rdps_toks l
    simp only [toksC, List.flatMap_cons, tC, List.cons_append, List.nil_append, rdpw] at this ⊢
    rw [this]
theorem toksC_sn (l : List Tok) (t : Tok) : toksC (l ++ [t]) = toksC l ++ [.int .i64 t.kind, .str t.name, .int .i64 t.of, .int .i64 t.at_] := by
  simp [toksC, tC]
theorem toksC_drop : ∀ {l : List Tok} {i : Nat} (h : i < l.length), (toksC l).drop (i * 4) = .int .i64 l[i].kind :: .str l[i].name :: .int .i64 l[i].of :: .int .i64 l[i].at_ :: (toksC l).drop ((i + 1) * 4)
  | [], _, h => by simp at h
  | w :: l, 0, h => by simp [toksC, tC]
  | w :: l, i + 1, h => by
    have := toksC_drop (l := l) (i := i) (by simpa using h)
    simp only [toksC, List.flatMap_cons, tC, List.cons_append, List.nil_append] at this ⊢
    rw [show (i + 1) * 4 = i * 4 + 1 + 1 + 1 + 1 by omega, show (i + 1 + 1) * 4 = (i + 1) * 4 + 1 + 1 + 1 + 1 by omega]
    simp only [List.drop_succ_cons, List.getElem_cons_succ]
    exact this
theorem nameL_ok {l : List UInt8} {n : Nat} (h : nameL l = some n) : n = stopN innI l ∧ 1 ≤ n ∧ n ≤ 24 ∧ n ≤ l.length ∧ ∃ b r, l = b :: r ∧ lttI b.toNat = true := by
  unfold nameL at h
  split at h
  · cases h
  · next b r =>
    split at h
    · next hc =>
      simp only [Option.some.injEq] at h
      subst h
      have hle := stopN_le innI (b :: r)
      refine ⟨rfl, ?_, hc.2.1, hle, b, r, rfl, hc.1⟩
      have hi : innI b.toNat = true := by unfold innI; rw [hc.1]; rfl
      have := stop_more (q := innI) (l := b :: r) (n := 0) (by simp) (by omega) hi
      omega
    · cases h
def ascii (l : List UInt8) (n : Nat) : Prop := 1 ≤ n ∧ n ≤ l.length ∧ ∀ (i : Nat) (h : i < l.length), i < n → (l[i]).toNat < 128
theorem ascii_one {b : UInt8} {r : List UInt8} (h : b.toNat < 128) : ascii (b :: r) 1 := by
  refine ⟨Nat.le_refl _, by simp, fun i hi h1 => ?_⟩
  obtain rfl : i = 0 := by omega
  exact h
theorem ascii_stop {q : Int → Bool} (hq : ∀ r, 128 ≤ r → q r = false) {l : List UInt8} (h : 1 ≤ stopN q l) : ascii l (stopN q l) := by
  refine ⟨h, stopN_le q l, fun i hi h1 => ?_⟩
  have := stopN_at hi h1
  by_cases hc : (l[i]).toNat < 128
  · exact hc
  · rw [hq _ (by omega)] at this; cases this
theorem plainL_ascii {l : List UInt8} {k : Int} {w : ByteArray} {o : Int} {n : Nat} (h : plainL l = some (k, w, o, n)) : ascii l n := by
  unfold plainL at h
  split at h
  · cases h
  · next b r =>
    have one : ∀ k' : Sig, some k' = some (k, w, o, n) → k'.2.2.2 = n := fun k' e => by simp only [Option.some.injEq] at e; rw [e]
    split at h
    · next hlet =>
      split at h
      · cases h
      · next m hm =>
        obtain ⟨e1, e2, _⟩ := nameL_ok hm
        have : m = n := by
          split at h <;> exact one _ h
        subst this
        rw [e1] at e2 ⊢
        exact ascii_stop lo_inn e2
    · split at h
      · next h68 =>
        split at h
        · rw [← one _ h]; exact ascii_one (by omega)
        · cases h
      · split at h
        · next hc => rw [← one _ h]; exact ascii_one (by omega)
        · split at h
          · next hc => rw [← one _ h]; exact ascii_one (by omega)
          · split at h
            · next hc => rw [← one _ h]; exact ascii_one (by omega)
            · split at h
              · next hc =>
                split at h
                · next hn =>
                  rw [← one _ h]
                  refine ascii_stop lo_dig ?_
                  exact stop_more (q := digI) (l := b :: r) (n := 0) (by simp) (by omega) hc
                · cases h
              · split at h
                · next hc => rw [← one _ h]; exact ascii_one (by simp [sigB] at hc; omega)
                · cases h
theorem kindL_cases (l : List UInt8) : kindL l = 0 ∨ (kindL l ∈ kinds ∧ begL (preW (kindL l)) l = true) := by
  unfold kindL kinds
  split
  · next h => right; exact ⟨by simp, h⟩
  · split
    · next h => right; exact ⟨by simp, h⟩
    · split
      · next h => right; exact ⟨by simp, h⟩
      · split
        · next h => right; exact ⟨by simp, h⟩
        · exact .inl rfl
theorem signL_ascii {l : List UInt8} {k : Int} {w : ByteArray} {o : Int} {n : Nat} (h : signL l = some (k, w, o, n)) : ascii l n := by
  unfold signL at h
  split at h
  · exact plainL_ascii h
  · next hk =>
    rcases kindL_cases l with h0 | ⟨hm, hbg⟩
    · exact absurd h0 hk
    · obtain ⟨g1, g2, g3⟩ := pre_ok hm
      unfold atomL at h
      split at h
      · cases h
      · next m hn =>
        simp only [Option.some.injEq, Prod.mk.injEq] at h
        obtain ⟨_, _, _, rfl⟩ := h
        obtain ⟨e1, e2, _, e3, _⟩ := nameL_ok hn
        rw [List.length_drop] at e3
        refine ⟨by omega, by omega, fun i hi h1 => ?_⟩
        rcases Nat.lt_or_ge i (preW (kindL l)).size with h2 | h2
        · unfold begL at hbg
          have h3 := of_decide_eq_true hbg
          refine g3 _ ?_
          rw [← h3, List.mem_iff_getElem]
          exact ⟨i, by rw [List.length_take]; omega, by rw [List.getElem_take]⟩
        · obtain ⟨j, rfl⟩ : ∃ j, i = (preW (kindL l)).size + j := ⟨i - (preW (kindL l)).size, by omega⟩
          have hj : j < (l.drop (preW (kindL l)).size).length := by rw [List.length_drop]; omega
          have := stopN_at (q := innI) hj (by omega)
          rw [List.getElem_drop] at this
          by_cases hc : (l[(preW (kindL l)).size + j]).toNat < 128
          · exact hc
          · rw [lo_inn _ (by omega)] at this; cases this
abbrev Res := List Tok × Nat × Int
def blankB (b : UInt8) : Bool := b.toNat == 32 || b.toNat == 9 || b.toNat == 10
def scanF : Nat → List UInt8 → Nat → List Tok → Res
  | 0, _, _, acc => (acc, 0, 0)
  | _ + 1, [], _, acc => (acc, 0, 0)
  | f + 1, b :: r, a, acc =>
    if blankB b = true then scanF f r (a + 1) acc
    else if b.toNat = 35 then scanF f ((b :: r).drop (stopN notI (b :: r))) (a + stopN notI (b :: r)) acc
    else match signL (b :: r) with
      | none => ([], a, 2)
      | some (k, w, o, n) => if acc.length = 1000 then ([], a, 3) else scanF f ((b :: r).drop n) (a + n) (acc ++ [⟨k, w, o, a⟩])
theorem note_one {b : UInt8} {r : List UInt8} (h : b.toNat = 35) : 1 ≤ stopN notI (b :: r) := stop_more (q := notI) (l := b :: r) (n := 0) (by simp) (by omega) (by show notI b.toNat = true; rw [h]; rfl)
theorem scanF_more : ∀ (f g : Nat) (l : List UInt8) (a : Nat) (acc : List Tok), l.length ≤ f → l.length ≤ g → scanF f l a acc = scanF g l a acc
  | 0, 0, _, _, _, _, _ => rfl
  | 0, g + 1, l, a, acc, h, _ => by
    have : l = [] := List.eq_nil_of_length_eq_zero (by omega)
    subst this; rfl
  | f + 1, 0, l, a, acc, _, h => by
    have : l = [] := List.eq_nil_of_length_eq_zero (by omega)
    subst this; rfl
  | f + 1, g + 1, [], a, acc, _, _ => rfl
  | f + 1, g + 1, b :: r, a, acc, h1, h2 => by
    simp only [List.length_cons] at h1 h2
    simp only [scanF]
    split
    · exact scanF_more f g r _ _ (by omega) (by omega)
    · split
      · next h => have := note_one (r := r) h; exact scanF_more f g _ _ _ (by simp; omega) (by simp; omega)
      · split
        · rfl
        · next k w o n hs =>
          split
          · rfl
          · have := (signL_ascii hs).1
            exact scanF_more f g _ _ _ (by simp; omega) (by simp; omega)
def scan (l : List UInt8) (a : Nat) (acc : List Tok) : Res := scanF l.length l a acc
theorem scan_cons (b : UInt8) (r : List UInt8) (a : Nat) (acc : List Tok) : scan (b :: r) a acc =
    if blankB b = true then scan r (a + 1) acc
    else if b.toNat = 35 then scan ((b :: r).drop (stopN notI (b :: r))) (a + stopN notI (b :: r)) acc
    else match signL (b :: r) with
      | none => ([], a, 2)
      | some (k, w, o, n) => if acc.length = 1000 then ([], a, 3) else scan ((b :: r).drop n) (a + n) (acc ++ [⟨k, w, o, a⟩]) := by
  unfold scan
  simp only [List.length_cons, scanF]
  split
  · rfl
  · split
    · next h => have := note_one (r := r) h; exact scanF_more _ _ _ _ _ (by simp; omega) (by simp)
    · split
      · rfl
      · next k w o n hs =>
        split
        · rfl
        · have := (signL_ascii hs).1
          exact scanF_more _ _ _ _ _ (by simp; omega) (by simp)
def allT (s : ByteArray) : Res := if 4000 < s.size then ([], 0, 3) else scan s.data.toList 0 []
def resV (r : Res) : AV := .tup [vToks r.1, .int .i64 r.2.1, .int .i64 r.2.2]
theorem ascii_at {s : ByteArray} {a n : Nat} (ha : a ≤ s.size) (h : ascii (s.data.toList.drop a) n) : a + n ≤ s.size ∧ atB s (a + n) := by
  have hl := len_size s
  obtain ⟨h1, h2, h3⟩ := h
  rw [List.length_drop] at h2
  refine ⟨by omega, .inr ⟨by omega, ?_⟩⟩
  have := h3 (n - 1) (by rw [List.length_drop]; omega) (by omega)
  rw [List.getElem_drop] at this
  have e : a + n - 1 = a + (n - 1) := by omega
  simp only [e]; exact this
theorem free_resV (r : Res) : free (resV r) = true := by simp [resV, vToks, free, free.frees, frees_toks]
theorem stopN_cons {q : Int → Bool} {b : UInt8} {r : List UInt8} (h : q b.toNat = true) : stopN q (b :: r) = stopN q r + 1 := by unfold stopN; simp [h]
theorem stopN_zero {q : Int → Bool} {b : UInt8} {r : List UInt8} (h : q b.toNat = false) : stopN q (b :: r) = 0 := by unfold stopN; simp [h]
end Go.Proofs.YtedaffmkpljlnaaGreat

/- Expressions: plain laws: what the reader's stack reads of tokens is what the document's way, by the last sign that binds least, reads; what is written is read; terms as trees, told from the front and from behind; texts; what is read, written, has no more parentheses; what tokens are read as, and where they are wrong. No program in sight. -/
namespace Go.Proofs.YtedaffmkpljlnaaGreat
set_option linter.unusedSimpArgs false
set_option linter.unusedVariables false
open Go.RowKit Go.Lib

structure Trm where
  op : Int
  of : Int
  name : ByteArray
def sgn (k : Int) : Trm := ⟨k, 0, ⟨#[]⟩⟩
def leaf (t : Tok) : Trm := ⟨1, t.of, t.name⟩
def bindK (k : Int) : Int := if k = 2 then 1 else if k = 3 then 2 else if k = 4 then 3 else if k = 5 then 4 else 0
def popL (m : Int) (w : List Int) : List Int := w.takeWhile fun k => decide (m ≤ bindK k)
def popR (m : Int) (w : List Int) : List Int := w.dropWhile fun k => decide (m ≤ bindK k)
def sstep (s : List Trm × List Int) (t : Tok) : List Trm × List Int :=
  if t.kind = 1 then (s.1 ++ [leaf t], s.2)
  else if t.kind = 6 then (s.1, 6 :: s.2)
  else if t.kind = 7 then (s.1 ++ (popL 1 s.2).map sgn, (popR 1 s.2).tail)
  else (s.1 ++ (popL (bindK t.kind) s.2).map sgn, t.kind :: popR (bindK t.kind) s.2)
def srun (l : List Tok) (s : List Trm × List Int) : List Trm × List Int := l.foldl sstep s
def readD (l : List Tok) : List Trm := (srun l ([], [])).1 ++ (popL 1 (srun l ([], [])).2).map sgn
def cstep (M : Nat) (b : Bool) (n : Nat) (az : Bool) (t : Tok) : Option (Bool × Nat) :=
  if b = false then
    (if t.kind = 1 ∧ (az = false ∨ t.of = 5) then some (true, n)
    else if t.kind = 6 ∧ az = false then (if n = M then none else some (false, n + 1))
    else none)
  else if t.kind = 7 then (if 0 < n then some (true, n - 1) else none)
  else if 0 < bindK t.kind then some (false, n)
  else none
def ctl (M : Nat) (b : Bool) (n : Nat) (az : Bool) : List Tok → Option (Bool × Nat)
  | [] => some (b, n)
  | t :: l => match cstep M b n az t with
    | none => none
    | some (b', n') => ctl M b' n' (decide (t.kind = 5)) l
def accT (M : Nat) (l : List Tok) : Prop := ctl M false 0 false l = some (true, 0)
theorem bind6 : bindK 6 = 0 := by decide
theorem bind7 : bindK 7 = 0 := by decide
theorem bind1 : bindK 1 = 0 := by decide
theorem bind_pos {k : Int} (h : 0 < bindK k) : k = 2 ∨ k = 3 ∨ k = 4 ∨ k = 5 := by
  unfold bindK at h
  split at h <;> (try split at h) <;> (try split at h) <;> (try split at h) <;> omega
theorem bind_ge (k : Int) : 0 ≤ bindK k := by
  unfold bindK
  split <;> (try split) <;> (try split) <;> (try split) <;> omega
theorem bind_ne {k : Int} (h : 0 < bindK k) : k ≠ 1 ∧ k ≠ 6 ∧ k ≠ 7 := by have := bind_pos h; omega
theorem cstep_cases {M : Nat} {b : Bool} {n : Nat} {az : Bool} {t : Tok} {b' : Bool} {n' : Nat} (h : cstep M b n az t = some (b', n')) :
    (b = false ∧ t.kind = 1 ∧ (az = false ∨ t.of = 5) ∧ b' = true ∧ n' = n) ∨ (b = false ∧ t.kind = 6 ∧ az = false ∧ n ≠ M ∧ b' = false ∧ n' = n + 1) ∨
    (b = true ∧ t.kind = 7 ∧ 0 < n ∧ b' = true ∧ n' = n - 1) ∨ (b = true ∧ 0 < bindK t.kind ∧ b' = false ∧ n' = n) := by
  unfold cstep at h
  by_cases hb : b = false
  · rw [if_pos hb] at h
    by_cases h1 : t.kind = 1 ∧ (az = false ∨ t.of = 5)
    · rw [if_pos h1] at h
      simp only [Option.some.injEq, Prod.mk.injEq] at h
      exact .inl ⟨hb, h1.1, h1.2, h.1.symm, h.2.symm⟩
    · rw [if_neg h1] at h
      by_cases h2 : t.kind = 6 ∧ az = false
      · rw [if_pos h2] at h
        by_cases h3 : n = M
        · rw [if_pos h3] at h; cases h
        · rw [if_neg h3] at h
          simp only [Option.some.injEq, Prod.mk.injEq] at h
          exact .inr (.inl ⟨hb, h2.1, h2.2, h3, h.1.symm, h.2.symm⟩)
      · rw [if_neg h2] at h; cases h
  · rw [if_neg hb] at h
    have hb : b = true := by simpa using hb
    by_cases h1 : t.kind = 7
    · rw [if_pos h1] at h
      by_cases h2 : 0 < n
      · rw [if_pos h2] at h
        simp only [Option.some.injEq, Prod.mk.injEq] at h
        exact .inr (.inr (.inl ⟨hb, h1, h2, h.1.symm, h.2.symm⟩))
      · rw [if_neg h2] at h; cases h
    · rw [if_neg h1] at h
      by_cases h2 : 0 < bindK t.kind
      · rw [if_pos h2] at h
        simp only [Option.some.injEq, Prod.mk.injEq] at h
        exact .inr (.inr (.inr ⟨hb, h2, h.1.symm, h.2.symm⟩))
      · rw [if_neg h2] at h; cases h
theorem ctl_cons {M : Nat} {b : Bool} {n : Nat} {az : Bool} {t : Tok} {l : List Tok} {r : Bool × Nat} (h : ctl M b n az (t :: l) = some r) : ∃ b' n', cstep M b n az t = some (b', n') ∧ ctl M b' n' (decide (t.kind = 5)) l = some r := by
  simp only [ctl] at h
  cases hc : cstep M b n az t with
  | none => rw [hc] at h; cases h
  | some x => obtain ⟨b', n'⟩ := x; rw [hc] at h; exact ⟨b', n', rfl, h⟩
def lowsOk (m : Int) : Nat → List Tok → Prop
  | _, [] => True
  | n, t :: l => if t.kind = 6 then lowsOk m (n + 1) l else if t.kind = 7 then lowsOk m (n - 1) l else (n = 0 → 0 < bindK t.kind → m ≤ bindK t.kind) ∧ lowsOk m n l
def geOk (m : Int) : List Int → Prop
  | [] => True
  | k :: P => (P.count 6 = 0 → k ≠ 6 → m ≤ bindK k) ∧ geOk m P
theorem geOk_popR {m q : Int} : ∀ {P : List Int}, geOk m P → geOk m (popR q P)
  | [], _ => trivial
  | a :: P, ⟨h1, h2⟩ => by
    unfold popR
    rw [List.dropWhile_cons]
    split
    · exact geOk_popR h2
    · exact ⟨h1, h2⟩
theorem pop_app {q : Int} (hq : 0 < q) : ∀ (P : List Int) (base : List Int), (6 ∈ P ∨ ∀ k ∈ base.head?, bindK k < q) → popL q (P ++ base) = popL q P ∧ popR q (P ++ base) = popR q P ++ base
  | [], base, h => by
    rcases h with h | h
    · simp at h
    · cases base with
      | nil => simp [popL, popR]
      | cons a r =>
        have : ¬ q ≤ bindK a := by have := h a (by simp); omega
        simp [popL, popR, this]
  | a :: P, base, h => by
    by_cases ha : q ≤ bindK a
    · have h' : 6 ∈ P ∨ ∀ k ∈ base.head?, bindK k < q := by
        rcases h with h | h
        · rcases List.mem_cons.1 h with rfl | h
          · rw [bind6] at ha; omega
          · exact .inl h
        · exact .inr h
      obtain ⟨i1, i2⟩ := pop_app hq P base h'
      simp only [popL, popR] at i1 i2 ⊢
      simp [ha, i1, i2]
    · simp [popL, popR, ha]
theorem popR_count {q : Int} (hq : 0 < q) : ∀ P : List Int, (popR q P).count 6 = P.count 6
  | [] => rfl
  | a :: P => by
    unfold popR
    rw [List.dropWhile_cons]
    split
    · next h =>
      have : a ≠ 6 := fun e => by subst e; simp [bind6] at h; omega
      rw [List.count_cons, if_neg (by simpa using this)]
      exact popR_count hq P
    · rfl
theorem popR_close : ∀ {P : List Int}, 0 < P.count 6 → (∀ k ∈ P, k = 6 ∨ 0 < bindK k) → ∃ R, popR 1 P = 6 :: R ∧ R.count 6 + 1 = P.count 6
  | [], h, _ => by simp at h
  | a :: P, h, hs => by
    unfold popR
    rw [List.dropWhile_cons]
    by_cases ha : a = 6
    · subst ha
      rw [if_neg (by simp [bind6])]
      exact ⟨P, rfl, by rw [List.count_cons]; simp⟩
    · have hb : 0 < bindK a := (hs a (by simp)).resolve_left ha
      rw [if_pos (by simp; omega)]
      rw [List.count_cons, if_neg (by simpa using ha)] at h ⊢
      exact popR_close h (fun k hk => hs k (by simp [hk]))
theorem popR_mem {q : Int} {P : List Int} {k : Int} (h : k ∈ popR q P) : k ∈ P := (List.dropWhile_suffix _).subset h
theorem frame {M : Nat} {base : List Int} {m : Int} (hm : 0 < m) (hb : ∀ k ∈ base.head?, bindK k < m) : ∀ (l : List Tok) (b : Bool) (n : Nat) (az : Bool) (r : Bool × Nat) (out A : List Trm) (P : List Int), ctl M b n az l = some r → lowsOk m n l → P.count 6 = n → (∀ k ∈ P, k = 6 ∨ 0 < bindK k) → geOk m P →
    srun l (out ++ A, P ++ base) = (out ++ (srun l (A, P)).1, (srun l (A, P)).2 ++ base) ∧ (srun l (A, P)).2.count 6 = r.2 ∧ (∀ k ∈ (srun l (A, P)).2, k = 6 ∨ 0 < bindK k) ∧ geOk m (srun l (A, P)).2
  | [], b, n, az, r, out, A, P, hc, _, hn, hs, hg => by
    simp only [ctl, Option.some.injEq] at hc
    subst hc
    exact ⟨rfl, hn, hs, hg⟩
  | t :: l, b, n, az, r, out, A, P, hc, hl, hn, hs, hg => by
    obtain ⟨b', n', h1, h2⟩ := ctl_cons hc
    have go : ∀ (A' : List Trm) (P' : List Int), sstep (A, P) t = (A', P') → sstep (out ++ A, P ++ base) t = (out ++ A', P' ++ base) → lowsOk m n' l → P'.count 6 = n' → (∀ k ∈ P', k = 6 ∨ 0 < bindK k) → geOk m P' →
        srun (t :: l) (out ++ A, P ++ base) = (out ++ (srun (t :: l) (A, P)).1, (srun (t :: l) (A, P)).2 ++ base) ∧ (srun (t :: l) (A, P)).2.count 6 = r.2 ∧ (∀ k ∈ (srun (t :: l) (A, P)).2, k = 6 ∨ 0 < bindK k) ∧ geOk m (srun (t :: l) (A, P)).2 := by
      intro A' P' e1 e2 q1 q2 q3 q4
      have := frame hm hb l b' n' _ r out A' P' h2 q1 q2 q3 q4
      simp only [srun, List.foldl_cons, e1, e2] at this ⊢
      exact this
    simp only [lowsOk] at hl
    rcases cstep_cases h1 with ⟨_, k1, _, _, rfl⟩ | ⟨_, k1, _, _, _, rfl⟩ | ⟨_, k1, hpos, _, rfl⟩ | ⟨_, k1, _, rfl⟩
    · rw [k1, if_neg (by decide), if_neg (by decide)] at hl
      refine go (A ++ [leaf t]) P ?_ ?_ hl.2 hn hs hg
      · unfold sstep; rw [if_pos k1]
      · unfold sstep; rw [if_pos k1]; simp
    · rw [if_pos k1] at hl
      refine go A (6 :: P) ?_ ?_ hl ?_ ?_ ⟨fun _ h => absurd rfl h, hg⟩
      · unfold sstep; rw [if_neg (by omega), if_pos k1]
      · unfold sstep; rw [if_neg (by omega), if_pos k1]; rfl
      · rw [List.count_cons, hn]; simp
      · intro k hk
        rcases List.mem_cons.1 hk with rfl | hk
        · exact .inl rfl
        · exact hs k hk
    · rw [if_neg (by omega), if_pos k1] at hl
      obtain ⟨R, e1, e2⟩ := popR_close (P := P) (by omega) hs
      have h6 : 6 ∈ P := List.count_pos_iff.1 (by omega)
      obtain ⟨p1, p2⟩ := pop_app (q := 1) (by decide) P base (.inl h6)
      refine go (A ++ (popL 1 P).map sgn) R ?_ ?_ hl (by omega) ?_ ?_
      · unfold sstep; rw [if_neg (by omega), if_neg (by omega), if_pos k1]; simp [e1]
      · unfold sstep; rw [if_neg (by omega), if_neg (by omega), if_pos k1, p1, p2]; simp [e1]
      · intro k hk
        exact hs k (popR_mem (q := 1) (by rw [e1]; simp [hk]))
      · have := geOk_popR (q := 1) hg
        rw [e1] at this
        exact this.2
    · obtain ⟨n1, n6, n7⟩ := bind_ne k1
      rw [if_neg n6, if_neg n7] at hl
      have hor : 6 ∈ P ∨ ∀ k ∈ base.head?, bindK k < bindK t.kind := by
        by_cases h0 : P.count 6 = 0
        · exact .inr fun k hk => by have := hb k hk; have := hl.1 (by omega) k1; omega
        · exact .inl (List.count_pos_iff.1 (by omega))
      obtain ⟨p1, p2⟩ := pop_app (q := bindK t.kind) k1 P base hor
      refine go (A ++ (popL (bindK t.kind) P).map sgn) (t.kind :: popR (bindK t.kind) P) ?_ ?_ hl.2 ?_ ?_ ⟨fun h0 _ => ?_, geOk_popR hg⟩
      · unfold sstep; rw [if_neg n1, if_neg n6, if_neg n7]
      · unfold sstep; rw [if_neg n1, if_neg n6, if_neg n7, p1, p2]; simp
      · rw [List.count_cons, popR_count k1, if_neg (by simpa using n6)]; omega
      · intro k hk
        rcases List.mem_cons.1 hk with rfl | hk
        · exact .inr k1
        · exact hs k (popR_mem hk)
      · rw [popR_count k1] at h0
        exact hl.1 (by omega) k1

inductive Xp where
  | atm (t : Trm)
  | op (k : Int) (a b : Xp)
namespace Xp
def post : Xp → List Trm
  | .atm t => [t]
  | .op k a b => a.post ++ (b.post ++ [sgn k])
def deep : Xp → Int
  | .atm _ => 1
  | .op _ a b => (if a.deep < b.deep then b.deep else a.deep) + 1
def okE (wr : Trm → Bool) : Xp → Prop
  | .atm t => t.op = 1 ∧ wr t = true
  | .op k a b => 0 < bindK k ∧ (k = 5 → ∃ t, b = .atm t ∧ t.of = 5) ∧ a.okE wr ∧ b.okE wr
end Xp
namespace Xp
end Xp
def Xp.role : Xp → Bool
  | .atm t => decide (t.of = 5)
  | .op _ _ _ => false
theorem role_iff (e : Xp) : e.role = true ↔ ∃ t, e = .atm t ∧ t.of = 5 := by
  cases e with
  | atm t => simp [Xp.role]
  | op k a b => simp [Xp.role]
def stepX (wr : Trm → Bool) (t : Trm) (st : List Xp) : Option (List Xp) :=
  if t.op = 1 then (if wr t = true then some (.atm t :: st) else none)
  else if 0 < bindK t.op ∧ t.of = 0 ∧ t.name = ⟨#[]⟩ then (match st with
    | b :: a :: r => if t.op = 5 ∧ b.role = false then none else some (.op t.op a b :: r)
    | _ => none)
  else none
def runX (wr : Trm → Bool) : List Trm → List Xp → Option (List Xp)
  | [], st => some st
  | t :: l, st => match stepX wr t st with
    | none => none
    | some st' => runX wr l st'
def stp (st : List Xp) : List Trm := st.reverse.flatMap Xp.post
theorem stp_cons (e : Xp) (st : List Xp) : stp (e :: st) = stp st ++ e.post := by simp [stp]
theorem sgn_eta {t : Trm} (h1 : t.of = 0) (h2 : t.name = ⟨#[]⟩) : sgn t.op = t := by
  cases t; simp only at h1 h2; subst h1; subst h2; rfl
theorem runX_ok {wr : Trm → Bool} : ∀ (l : List Trm) (st st' : List Xp), runX wr l st = some st' → (∀ e ∈ st, e.okE wr) → (∀ e ∈ st', e.okE wr) ∧ stp st' = stp st ++ l
  | [], st, st', h, ho => by
    simp only [runX, Option.some.injEq] at h
    subst h
    exact ⟨ho, by simp⟩
  | t :: l, st, st', h, ho => by
    simp only [runX] at h
    cases hs : stepX wr t st with
    | none => rw [hs] at h; cases h
    | some s1 =>
      rw [hs] at h
      simp only [stepX] at hs
      by_cases h1 : t.op = 1
      · rw [if_pos h1] at hs
        by_cases h2 : wr t = true
        · rw [if_pos h2] at hs
          simp only [Option.some.injEq] at hs
          subst hs
          obtain ⟨q1, q2⟩ := runX_ok l _ _ h (fun e he => by
            rcases List.mem_cons.1 he with rfl | he
            · exact ⟨h1, h2⟩
            · exact ho e he)
          exact ⟨q1, by rw [q2, stp_cons]; simp [Xp.post]⟩
        · rw [if_neg h2] at hs; cases hs
      · rw [if_neg h1] at hs
        by_cases h2 : 0 < bindK t.op ∧ t.of = 0 ∧ t.name = ⟨#[]⟩
        · rw [if_pos h2] at hs
          cases st with
          | nil => cases hs
          | cons b st =>
            cases st with
            | nil => cases hs
            | cons a r =>
              simp only at hs
              by_cases h3 : t.op = 5 ∧ b.role = false
              · rw [if_pos h3] at hs; cases hs
              · rw [if_neg h3] at hs
                simp only [Option.some.injEq] at hs
                subst hs
                obtain ⟨q1, q2⟩ := runX_ok l _ _ h (fun e he => by
                  rcases List.mem_cons.1 he with rfl | he
                  · refine ⟨h2.1, fun h5 => ?_, ho a (by simp), ho b (by simp)⟩
                    refine (role_iff b).1 ?_
                    cases hr : b.role with
                    | true => rfl
                    | false => exact absurd ⟨h5, hr⟩ h3
                  · exact ho e (by simp [he]))
                refine ⟨q1, ?_⟩
                rw [q2, stp_cons, stp_cons, stp_cons]
                simp only [Xp.post, sgn_eta h2.2.1 h2.2.2]
                simp
        · rw [if_neg h2] at hs; cases hs
def treeX (wr : Trm → Bool) (x : List Trm) : Option Xp := match runX wr x [] with
  | some [e] => some e
  | _ => none
abbrev Prt := Int × Int × Int
inductive Reps (x : List Trm) (l : List Prt) : Nat → Xp → Prop where
  | atm (i : Nat) (t : Trm) (p : Prt) : x[i]? = some t → l[i]? = some p → p.2.2 = 1 → Reps x l i (.atm t)
  | op (i j m : Nat) (k : Int) (a b : Xp) : x[i]? = some (sgn k) → l[i]? = some ((j : Int), (m : Int), (Xp.op k a b).deep) → j < i → m < i → Reps x l j a → Reps x l m b → Reps x l i (.op k a b)
theorem Reps.deep {x : List Trm} {l : List Prt} {i : Nat} {e : Xp} (h : Reps x l i e) : ∃ p, l[i]? = some p ∧ p.2.2 = e.deep := by
  cases h with
  | atm t p h1 h2 h3 => exact ⟨_, by assumption, by assumption⟩
  | op j m k a b h1 h2 h3 h4 h5 h6 => exact ⟨_, by assumption, rfl⟩
theorem Reps.set {x : List Trm} {l : List Prt} {q : Nat} {p : Prt} : ∀ {i : Nat} {e : Xp}, Reps x l i e → i < q → Reps x (l.set q p) i e
  | _, _, .atm i t p' h1 h2 h3, hi => .atm i t p' h1 (by rw [List.getElem?_set_ne (by omega)]; exact h2) h3
  | _, _, .op i j m k a b h1 h2 hj hm ha hb, hi => .op i j m k a b h1 (by rw [List.getElem?_set_ne (by omega)]; exact h2) hj hm (Reps.set ha (by omega)) (Reps.set hb (by omega))
theorem runX_snoc {wr : Trm → Bool} {t : Trm} : ∀ {l : List Trm} {st : List Xp}, runX wr (l ++ [t]) st = match runX wr l st with
    | none => none
    | some s => stepX wr t s
  | [], st => by
    simp only [List.nil_append, runX]
    cases stepX wr t st <;> rfl
  | u :: l, st => by
    simp only [List.cons_append, runX]
    cases stepX wr u st with
    | none => rfl
    | some s => exact runX_snoc
theorem deep_pos : ∀ e : Xp, 1 ≤ e.deep
  | .atm _ => Int.le_refl _
  | .op _ a b => by
    have := deep_pos a
    have := deep_pos b
    simp only [Xp.deep]
    split <;> omega
theorem deep_le : ∀ e : Xp, e.deep ≤ e.post.length
  | .atm _ => by simp [Xp.deep, Xp.post]
  | .op _ a b => by
    have := deep_le a
    have := deep_le b
    simp only [Xp.deep, Xp.post, List.length_append, List.length_cons, List.length_nil]
    split <;> omega
def isPar (t : Tok) : Bool := decide (t.kind = 6) || decide (t.kind = 7)
def others (l : List Tok) : List (Int × ByteArray × Int) := (l.filter fun t => !isPar t).map fun t => (t.kind, t.name, t.of)
def ctlE (M : Nat) : Nat → Bool → Nat → Bool → List Tok → (Nat × Int) ⊕ (Bool × Nat)
  | _, b, n, _, [] => .inr (b, n)
  | i, b, n, az, t :: l => match cstep M b n az t with
    | none => .inl (i, if b = false ∧ t.kind = 6 ∧ az = false then 3 else 2)
    | some (b', n') => ctlE M (i + 1) b' n' (decide (t.kind = 5)) l
theorem ctlE_ok {M : Nat} : ∀ (l : List Tok) (i : Nat) (b : Bool) (n : Nat) (az : Bool) (r : Bool × Nat), ctlE M i b n az l = .inr r ↔ ctl M b n az l = some r
  | [], i, b, n, az, r => by simp [ctlE, ctl]
  | t :: l, i, b, n, az, r => by
    simp only [ctlE, ctl]
    cases cstep M b n az t with
    | none => simp
    | some x => exact ctlE_ok l _ _ _ _ _
theorem ctlE_lt {M : Nat} : ∀ (l : List Tok) (i : Nat) (b : Bool) (n : Nat) (az : Bool) (j : Nat) (e : Int), ctlE M i b n az l = .inl (j, e) → i ≤ j ∧ j < i + l.length ∧ (e = 2 ∨ e = 3)
  | [], i, b, n, az, j, e, h => by simp [ctlE] at h
  | t :: l, i, b, n, az, j, e, h => by
    simp only [ctlE] at h
    rw [List.length_cons]
    cases hc : cstep M b n az t with
    | none =>
      rw [hc] at h
      simp only [Sum.inl.injEq, Prod.mk.injEq] at h
      obtain ⟨rfl, rfl⟩ := h
      refine ⟨Nat.le_refl _, by omega, ?_⟩
      split <;> simp
    | some x =>
      obtain ⟨b', n'⟩ := x
      rw [hc] at h
      have := ctlE_lt l _ _ _ _ _ _ h
      omega
def readR (wd : Tok → Bool) (l : List Tok) : List Trm × Nat × Int :=
  match l.findIdx? (fun t => !wd t) with
  | some i => ([], i, 2)
  | none => match ctlE 100 0 false 0 false l with
    | .inl (i, e) => ([], i, e)
    | .inr (b, n) => if b = false ∨ 0 < n then ([], l.length, 2) else if 200 < (readD l).length then ([], l.length, 3) else (readD l, 0, 0)
theorem readR_ok {wd : Tok → Bool} {l : List Tok} (h : (readR wd l).2.2 = 0) : (∀ t ∈ l, wd t = true) ∧ accT 100 l ∧ (readD l).length ≤ 200 ∧ readR wd l = (readD l, 0, 0) := by
  unfold readR at h ⊢
  cases hf : l.findIdx? (fun t => !wd t) with
  | some i => rw [hf] at h; cases h
  | none =>
    rw [hf] at h
    simp only at h ⊢
    have hw : ∀ t ∈ l, wd t = true := fun t ht => by
      have := List.findIdx?_eq_none_iff.1 hf t ht
      simpa using this
    cases hc : ctlE 100 0 false 0 false l with
    | inl x =>
      obtain ⟨i, e⟩ := x
      rw [hc] at h
      have := (ctlE_lt _ _ _ _ _ _ _ hc).2.2
      simp only at h
      omega
    | inr x =>
      obtain ⟨b, n⟩ := x
      rw [hc] at h
      simp only at h ⊢
      by_cases h1 : b = false ∨ 0 < n
      · rw [if_pos h1] at h; cases h
      · rw [if_neg h1] at h ⊢
        by_cases h2 : 200 < (readD l).length
        · rw [if_pos h2] at h; cases h
        · rw [if_neg h2]
          simp only [not_or, Bool.not_eq_false, Nat.not_lt, Nat.le_zero] at h1
          obtain ⟨rfl, rfl⟩ := h1
          exact ⟨hw, (ctlE_ok _ _ _ _ _ _).1 hc, by omega, rfl⟩
theorem readR_acc {wd : Tok → Bool} {l : List Tok} (hw : ∀ t ∈ l, wd t = true) : readR wd l = match ctlE 100 0 false 0 false l with
    | .inl (i, e) => ([], i, e)
    | .inr (b, n) => if b = false ∨ 0 < n then ([], l.length, 2) else if 200 < (readD l).length then ([], l.length, 3) else (readD l, 0, 0) := by
  unfold readR
  rw [List.findIdx?_eq_none_iff.2 (fun t ht => by simp [hw t ht])]
end Go.Proofs.YtedaffmkpljlnaaGreat

/- Expressions: the reader, token by token: it takes just what may stand there (plain). -/
namespace Go.Proofs.YtedaffmkpljlnaaGreat
set_option linter.unusedSimpArgs false
set_option linter.unusedVariables false
open Go.RowKit Go.Lib

structure Rdr where
  out : List Trm
  w : List Int
  opn : Nat
  beh : Bool
def takeR (r : Rdr) (t : Tok) : Int ⊕ Rdr :=
  if r.beh = false then
    if t.kind = 1 then (if r.w.headD 0 = 5 ∧ t.of ≠ 5 then .inl 2 else .inr ⟨r.out ++ [leaf t], r.w, r.opn, true⟩)
    else if t.kind = 6 ∧ r.w.headD 0 ≠ 5 then (if r.opn = 100 then .inl 3 else .inr ⟨r.out, 6 :: r.w, r.opn + 1, false⟩)
    else .inl 2
  else if 0 < bindK t.kind then .inr ⟨r.out ++ (popL (bindK t.kind) r.w).map sgn, t.kind :: popR (bindK t.kind) r.w, r.opn, false⟩
  else if t.kind = 7 then (if r.opn = 0 then .inl 2 else .inr ⟨r.out ++ (popL 1 r.w).map sgn, (popR 1 r.w).tail, r.opn - 1, true⟩)
  else .inl 2
def rinv (az : Bool) (r : Rdr) : Prop := r.beh = false → (az = true ↔ r.w.headD 0 = 5)
theorem takeR_eq {az : Bool} {r : Rdr} {t : Tok} (h : rinv az r) : takeR r t = match cstep 100 r.beh r.opn az t with
    | none => .inl (if r.beh = false ∧ t.kind = 6 ∧ az = false then 3 else 2)
    | some (b', n') => .inr ⟨(sstep (r.out, r.w) t).1, (sstep (r.out, r.w) t).2, n', b'⟩ := by
  obtain ⟨out, w, n, b⟩ := r
  unfold takeR cstep sstep
  simp only at h ⊢
  cases b with
  | false =>
    have h := h rfl
    simp only at h
    by_cases k1 : t.kind = 1
    · have k6 : ¬ t.kind = 6 := by omega
      by_cases ho : t.of = 5 <;> by_cases hw : w.headD 0 = 5 <;> cases az <;> simp_all
    · by_cases k6 : t.kind = 6
      · by_cases hw : w.headD 0 = 5 <;> by_cases hn : n = 100 <;> cases az <;> simp_all
      · by_cases hw : w.headD 0 = 5 <;> cases az <;> simp_all
  | true =>
    by_cases kb : 0 < bindK t.kind
    · obtain ⟨n1, n6, n7⟩ := bind_ne kb
      simp [kb, n1, n6, n7]
    · by_cases k7 : t.kind = 7
      · by_cases hn : n = 0
        · simp [k7, hn, bind7]
        · simp [k7, hn, bind7, Nat.pos_of_ne_zero hn]
      · simp [kb, k7]
theorem rinv_step {az : Bool} {r : Rdr} {t : Tok} {b' : Bool} {n' : Nat} (h : cstep 100 r.beh r.opn az t = some (b', n')) : rinv (decide (t.kind = 5)) ⟨(sstep (r.out, r.w) t).1, (sstep (r.out, r.w) t).2, n', b'⟩ := by
  intro hb
  simp only at hb
  rcases cstep_cases h with ⟨_, k, _, rfl, _⟩ | ⟨_, k, _, _, rfl, _⟩ | ⟨_, k, _, rfl, _⟩ | ⟨_, k, rfl, _⟩
  · cases hb
  · simp [sstep, k]
  · cases hb
  · obtain ⟨n1, n6, n7⟩ := bind_ne k
    simp [sstep, n1, n6, n7]
def runR : Nat → Rdr → List Tok → (Nat × Int) ⊕ Rdr
  | _, r, [] => .inr r
  | i, r, t :: l => match takeR r t with
    | .inl e => .inl (i, e)
    | .inr r' => runR (i + 1) r' l
theorem runR_eq : ∀ (l : List Tok) (i : Nat) (az : Bool) (r : Rdr), rinv az r → runR i r l = match ctlE 100 i r.beh r.opn az l with
    | .inl x => .inl x
    | .inr (b, n) => .inr ⟨(srun l (r.out, r.w)).1, (srun l (r.out, r.w)).2, n, b⟩
  | [], i, az, r, h => rfl
  | t :: l, i, az, r, h => by
    simp only [runR, ctlE, takeR_eq h]
    cases hc : cstep 100 r.beh r.opn az t with
    | none => rfl
    | some x =>
      obtain ⟨b', n'⟩ := x
      simp only
      rw [runR_eq l (i + 1) _ _ (rinv_step hc)]
      rfl
def rcnt (r : Rdr) : Prop := r.w.count 6 = r.opn ∧ ∀ k ∈ r.w, k = 6 ∨ 0 < bindK k
theorem rcnt_take {r r' : Rdr} {t : Tok} (h : rcnt r) (ht : takeR r t = .inr r') : rcnt r' := by
  obtain ⟨out, w, n, b⟩ := r
  obtain ⟨h1, h2⟩ := h
  simp only at h1 h2
  unfold takeR at ht
  simp only at ht
  split at ht
  · split at ht
    · split at ht
      · cases ht
      · simp only [Sum.inr.injEq] at ht
        subst ht
        exact ⟨h1, h2⟩
    · split at ht
      · split at ht
        · cases ht
        · simp only [Sum.inr.injEq] at ht
          subst ht
          refine ⟨by simp [h1], fun k hk => ?_⟩
          rcases List.mem_cons.1 hk with rfl | hk
          · exact .inl rfl
          · exact h2 k hk
      · cases ht
  · split at ht
    · next kb =>
      simp only [Sum.inr.injEq] at ht
      subst ht
      refine ⟨?_, fun k hk => ?_⟩
      · show List.count 6 (t.kind :: popR (bindK t.kind) w) = n
        rw [List.count_cons, popR_count kb, if_neg (by simpa using (bind_ne kb).2.1)]; omega
      · rcases List.mem_cons.1 hk with rfl | hk
        · exact .inr kb
        · exact h2 k (popR_mem hk)
    · split at ht
      · split at ht
        · cases ht
        · next hn =>
          simp only [Sum.inr.injEq] at ht
          subst ht
          obtain ⟨R, e1, e2⟩ := popR_close (P := w) (by omega) h2
          refine ⟨?_, fun k hk => ?_⟩
          · show List.count 6 (popR 1 w).tail = n - 1
            rw [e1, List.tail_cons]; omega
          · have hk : k ∈ (popR 1 w).tail := hk
            exact h2 k (popR_mem (q := 1) (List.mem_of_mem_tail hk))
      · cases ht
end Go.Proofs.YtedaffmkpljlnaaGreat

namespace Go.Proofs.YtedaffmkpljlnaaGreat
open Go.RowKit
def J_expr_May : AFn :=
 ⟨11,[.t 2],.seq (.ops [⟨some 2,none,.mv (.c (.bool false)),none⟩])
 (.keep [0] (.seq (.ops [⟨some 6,none,.mv (.t 0),none⟩,
 ⟨some 7,none,.call (.f 51) [(.t 6)],none⟩,
 ⟨some 5,none,.mv (.t 7),none⟩,
 ⟨some 8,none,.ext 0 (.t 5),none⟩,
 ⟨some 9,none,.ext 1 (.t 5),none⟩,
 ⟨some 3,none,.mv (.t 8),none⟩,
 ⟨some 4,none,.mv (.t 9),none⟩])
 (.keep [4] (.seq (.ops [⟨some 10,none,.mv (.t 4),none⟩,
 ⟨some 2,none,.mv (.t 10),none⟩])
 (.ret)))))⟩
theorem J_expr_May_ok : chkFn Tryz.prog 28 J_expr_May = true := by kernel_rfl
def J_expr_Parse : AFn :=
 ⟨45,[.t 2,.t 3,.t 4],.seq (.ops [⟨some 2,none,.mv (.c (.lst .clip 0 [])),none⟩,
 ⟨some 3,none,.mv (.c (.int .i64 0)),none⟩,
 ⟨some 4,none,.mv (.c (.int .i64 0)),none⟩])
 (.keep [0] (.seq (.ops [⟨some 11,none,.mv (.t 0),none⟩,
 ⟨some 12,none,.call (.f 61) [(.t 11)],none⟩,
 ⟨some 10,none,.mv (.t 12),none⟩,
 ⟨some 13,none,.ext 0 (.t 10),none⟩,
 ⟨some 14,none,.ext 1 (.t 10),none⟩,
 ⟨some 15,none,.ext 2 (.t 10),none⟩,
 ⟨some 5,none,.mv (.t 13),none⟩,
 ⟨some 6,none,.mv (.t 14),none⟩,
 ⟨some 7,none,.mv (.t 15),none⟩])
 (.keep [0,5,6,7] (.seq (.seq (.ops [⟨some 16,none,.mv (.t 7),none⟩,
 ⟨some 17,none,.bin .neq (.t 16) (.c (.int .i64 0)),none⟩])
 (.keep [0,5,6,7,17] (.cond (.t 17)
 (.seq (.ops [⟨some 18,none,.mv (.t 6),none⟩,
 ⟨some 19,none,.mv (.t 7),none⟩,
 ⟨some 2,none,.mv (.c (.lst .clip 0 [])),none⟩,
 ⟨some 3,none,.mv (.t 18),none⟩,
 ⟨some 4,none,.mv (.t 19),none⟩])
 (.ret))
 (.skip))))
 (.keep [0,5] (.seq (.ops [⟨some 21,none,.mv (.t 5),none⟩,
 ⟨some 22,none,.call (.f 62) [(.t 21)],none⟩,
 ⟨some 20,none,.mv (.t 22),none⟩,
 ⟨some 23,none,.ext 0 (.t 20),none⟩,
 ⟨some 24,none,.ext 1 (.t 20),none⟩,
 ⟨some 25,none,.ext 2 (.t 20),none⟩,
 ⟨some 8,none,.mv (.t 23),none⟩,
 ⟨some 9,none,.mv (.t 24),none⟩,
 ⟨some 7,none,.mv (.t 25),none⟩])
 (.keep [0,5,7,8,9] (.seq (.seq (.ops [⟨some 26,none,.mv (.t 7),none⟩,
 ⟨some 27,none,.bin .eql (.t 26) (.c (.int .i64 0)),none⟩])
 (.keep [0,5,7,8,9,27] (.cond (.t 27)
 (.seq (.ops [⟨some 28,none,.mv (.t 8),none⟩,
 ⟨some 2,none,.mv (.t 28),none⟩,
 ⟨some 3,none,.mv (.c (.int .i64 0)),none⟩,
 ⟨some 4,none,.mv (.c (.int .i64 0)),none⟩])
 (.ret))
 (.skip))))
 (.keep [0,5,7,9] (.seq (.seq (.ops [⟨some 29,none,.mv (.t 9),none⟩,
 ⟨some 30,none,.mv (.t 5),none⟩,
 ⟨some 31,none,.lenl (.t 30),none⟩,
 ⟨some 32,none,.bin .lss (.t 29) (.t 31),none⟩])
 (.keep [0,5,7,9,32] (.cond (.t 32)
 (.seq (.draw [2,3,4] [⟨some 33,none,.mv (.t 5),none⟩,
 ⟨some 34,none,.mv (.t 9),none⟩,
 ⟨some 35,none,.idxa 4 (.t 33) (.t 34),none⟩,
 ⟨some 36,none,.fld 3 (.t 35),none⟩,
 ⟨some 37,none,.load none (.t 36),none⟩,
 ⟨some 38,none,.mv (.t 7),none⟩,
 ⟨some 2,none,.mv (.c (.lst .clip 0 [])),none⟩,
 ⟨some 3,none,.mv (.t 37),none⟩,
 ⟨some 4,none,.mv (.t 38),none⟩])
 (.ret))
 (.skip))))
 (.keep [0,7] (.seq (.seq (.ops [⟨some 39,none,.mv (.t 7),none⟩,
 ⟨some 40,none,.bin .eql (.t 39) (.c (.int .i64 3)),none⟩])
 (.keep [0,7,40] (.cond (.t 40)
 (.seq (.ops [⟨some 41,none,.mv (.t 7),none⟩,
 ⟨some 2,none,.mv (.c (.lst .clip 0 [])),none⟩,
 ⟨some 3,none,.mv (.c (.int .i64 0)),none⟩,
 ⟨some 4,none,.mv (.t 41),none⟩])
 (.ret))
 (.skip))))
 (.keep [0,7] (.seq (.ops [⟨some 42,none,.mv (.t 0),none⟩,
 ⟨some 43,none,.lens (.t 42),none⟩,
 ⟨some 44,none,.mv (.t 7),none⟩,
 ⟨some 2,none,.mv (.c (.lst .clip 0 [])),none⟩,
 ⟨some 3,none,.mv (.t 43),none⟩,
 ⟨some 4,none,.mv (.t 44),none⟩])
 (.ret)))))))))))))))⟩
theorem J_expr_Parse_ok : chkFn Tryz.prog 33 J_expr_Parse = true := by kernel_rfl
def J_expr_parts_j1 : ACode :=
 .keep [4,5] (.seq (.nms 5 (.ops [⟨some 118,none,.mv (.t 4),none⟩,
 ⟨some 119,none,.mv (.t 5),none⟩,
 ⟨some 120,none,.k (.len (.t 119)),none⟩,
 ⟨some 121,none,.bin .eql (.t 120) (.c (.int .i64 1)),none⟩,
 ⟨some 2,none,.mv (.t 118),none⟩,
 ⟨some 3,none,.mv (.t 121),none⟩]))
 (.ret))
def J_expr_parts_j2 : ACode :=
 .keep [0,4,5,22,23,24] (.ops [⟨some 117,none,.bin .add (.t 24) (.c (.int .i64 1)),none⟩,
 ⟨some 24,none,.mv (.t 117),none⟩])
def J_expr_parts_j3 : ACode :=
 .seq (.ops [⟨some 25,none,.bin .lss (.t 24) (.t 23),none⟩])
 (.keep [0,4,5,22,23,24,25] (.seq (.cond (.t 25)
 (.skip)
 (.exit 0))
 (.keep [0,4,5,22,23,24] (.seq (.block 1 (.seq (.ops [⟨some 26,none,.mv (.t 24),none⟩,
 ⟨some 27,none,.idxa 3 (.t 22) (.t 24),none⟩,
 ⟨some 28,none,.load (some 3) (.t 27),none⟩,
 ⟨some 7,none,.new [(.int .i64 0),(.int .i64 0),(.str ⟨#[]⟩)] [],none⟩,
 ⟨some 6,none,.mv (.t 26),none⟩,
 ⟨none,none,.stores 3 (.t 7) (.t 28),none⟩])
 (.keep [0,4,5,6,7,22,23,24] (.seq (.seq (.ops [⟨some 29,none,.fld 0 (.t 7),none⟩,
 ⟨some 30,none,.load none (.t 29),none⟩,
 ⟨some 31,none,.bin .eql (.t 30) (.c (.int .i64 1)),none⟩])
 (.keep [0,4,5,6,7,22,23,24,31] (.cond (.t 31)
 (.seq (.seq (.ops [⟨some 32,none,.load (some 3) (.t 7),none⟩,
 ⟨some 33,none,.call (.f 85) [(.t 32)],none⟩,
 ⟨some 34,none,.bin .eql (.t 33) (.c (.str ⟨#[]⟩)),none⟩])
 (.keep [0,4,5,6,22,23,24,34] (.cond (.t 34)
 (.seq (.ops [⟨some 2,none,.mv (.c (.lst .clip 0 [])),none⟩,
 ⟨some 3,none,.mv (.c (.bool false)),none⟩])
 (.ret))
 (.skip))))
 (.keep [0,4,5,6,22,23,24] (.seq (.ops [⟨some 35,none,.mv (.t 4),none⟩,
 ⟨some 36,none,.mv (.t 6),none⟩,
 ⟨some 37,none,.idxa 3 (.t 35) (.t 36),none⟩,
 ⟨some 38,none,.fld 2 (.t 37),none⟩,
 ⟨none,none,.store 1 (.t 38) (.c (.int .i64 1)),none⟩])
 (.keep [0,4,5,6,22,23,24] (.seq (.ops [⟨some 39,none,.k (.mv 5),none⟩,
 ⟨some 40,none,.mv (.t 6),none⟩,
 ⟨some 41,none,.bsl 3 1 1 [(.int .i64 0)] [(0,1,(.t 40))],none⟩,
 ⟨some 42,none,.k (.ap 3 8 39 (.t 41)),none⟩,
 ⟨some 5,none,.k (.mv 42),none⟩])
 (.exit 1))))))
 (.skip))))
 (.keep [0,4,5,6,7,22,23,24] (.seq (.nms 5 (.ops [⟨some 43,none,.mv (.t 5),none⟩,
 ⟨some 44,none,.k (.len (.t 43)),none⟩,
 ⟨some 8,none,.mv (.t 44),none⟩]))
 (.keep [0,4,5,6,7,8,22,23,24] (.seq (.seq (.ops [⟨some 45,none,.fld 0 (.t 7),none⟩,
 ⟨some 46,none,.load none (.t 45),none⟩,
 ⟨some 47,none,.call (.f 86) [(.t 46)],none⟩,
 ⟨some 48,none,.bin .eql (.t 47) (.c (.int .i64 0)),none⟩,
 ⟨some 49,none,.mv (.t 48),none⟩,
 ⟨some 50,(some (49,false)),.fld 1 (.t 7),none⟩,
 ⟨some 51,(some (49,false)),.load none (.t 50),none⟩,
 ⟨some 52,(some (49,false)),.bin .neq (.t 51) (.c (.int .i64 0)),none⟩,
 ⟨some 53,none,.pick (.t 49) (.c (.bool true)) (.t 52),none⟩,
 ⟨some 54,none,.mv (.t 53),none⟩,
 ⟨some 55,(some (54,false)),.fld 2 (.t 7),none⟩,
 ⟨some 56,(some (54,false)),.load none (.t 55),none⟩,
 ⟨some 57,(some (54,false)),.bin .neq (.t 56) (.c (.str ⟨#[]⟩)),none⟩,
 ⟨some 58,none,.pick (.t 54) (.c (.bool true)) (.t 57),none⟩,
 ⟨some 59,none,.mv (.t 58),none⟩,
 ⟨some 60,(some (59,false)),.mv (.t 8),none⟩,
 ⟨some 61,(some (59,false)),.bin .lss (.t 60) (.c (.int .i64 2)),none⟩,
 ⟨some 62,none,.pick (.t 59) (.c (.bool true)) (.t 61),none⟩])
 (.keep [0,4,5,6,7,8,22,23,24,62] (.cond (.t 62)
 (.seq (.ops [⟨some 2,none,.mv (.c (.lst .clip 0 [])),none⟩,
 ⟨some 3,none,.mv (.c (.bool false)),none⟩])
 (.ret))
 (.skip))))
 (.keep [0,4,5,6,7,8,22,23,24] (.seq (.nms 5 (.draw [0,4,5,6,7,8,9,10,22,23,24] [⟨some 63,none,.mv (.t 5),none⟩,
 ⟨some 64,none,.mv (.t 8),none⟩,
 ⟨some 65,none,.bin .sub (.t 64) (.c (.int .i64 2)),none⟩,
 ⟨some 66,none,.k (.ix (.t 63) (.t 65)),none⟩,
 ⟨some 67,none,.k (.pk 5 (.t 66)),none⟩,
 ⟨some 68,none,.mv (.t 5),none⟩,
 ⟨some 69,none,.mv (.t 8),none⟩,
 ⟨some 70,none,.bin .sub (.t 69) (.c (.int .i64 1)),none⟩,
 ⟨some 71,none,.k (.ix (.t 68) (.t 70)),none⟩,
 ⟨some 72,none,.k (.pk 5 (.t 71)),none⟩,
 ⟨some 9,none,.mv (.t 67),none⟩,
 ⟨some 10,none,.mv (.t 72),none⟩]))
 (.keep [0,4,5,6,7,8,9,10,22,23,24] (.seq (.seq (.ops [⟨some 73,none,.fld 0 (.t 7),none⟩,
 ⟨some 74,none,.load none (.t 73),none⟩,
 ⟨some 75,none,.bin .eql (.t 74) (.c (.int .i64 5)),none⟩,
 ⟨some 76,none,.mv (.t 75),none⟩,
 ⟨some 77,(some (76,true)),.mv (.t 0),none⟩,
 ⟨some 78,(some (76,true)),.mv (.t 10),none⟩,
 ⟨some 79,(some (76,true)),.idxa 3 (.t 77) (.t 78),none⟩,
 ⟨some 80,(some (76,true)),.fld 0 (.t 79),none⟩,
 ⟨some 81,(some (76,true)),.load none (.t 80),none⟩,
 ⟨some 82,(some (76,true)),.bin .neq (.t 81) (.c (.int .i64 1)),none⟩,
 ⟨some 83,(some (76,true)),.mv (.t 82),none⟩,
 ⟨some 84,(some (83,false)),.mv (.t 0),none⟩,
 ⟨some 85,(some (83,false)),.mv (.t 10),none⟩,
 ⟨some 86,(some (83,false)),.idxa 3 (.t 84) (.t 85),none⟩,
 ⟨some 87,(some (83,false)),.fld 1 (.t 86),none⟩,
 ⟨some 88,(some (83,false)),.load none (.t 87),none⟩,
 ⟨some 89,(some (83,false)),.bin .neq (.t 88) (.c (.int .i64 5)),none⟩,
 ⟨some 90,(some (76,true)),.pick (.t 83) (.c (.bool true)) (.t 89),none⟩,
 ⟨some 91,none,.pick (.t 76) (.t 90) (.c (.bool false)),none⟩])
 (.keep [0,4,5,6,8,9,10,22,23,24,91] (.cond (.t 91)
 (.seq (.ops [⟨some 2,none,.mv (.c (.lst .clip 0 [])),none⟩,
 ⟨some 3,none,.mv (.c (.bool false)),none⟩])
 (.ret))
 (.skip))))
 (.keep [0,4,5,6,8,9,10,22,23,24] (.seq (.draw [0,4,5,6,8,22,23,24] [⟨some 92,none,.mv (.t 4),none⟩,
 ⟨some 93,none,.mv (.t 6),none⟩,
 ⟨some 94,none,.mv (.t 9),none⟩,
 ⟨some 95,none,.mv (.t 10),none⟩,
 ⟨some 96,none,.mv (.t 4),none⟩,
 ⟨some 97,none,.mv (.t 9),none⟩,
 ⟨some 98,none,.idxa 3 (.t 96) (.t 97),none⟩,
 ⟨some 99,none,.fld 2 (.t 98),none⟩,
 ⟨some 100,none,.load none (.t 99),none⟩,
 ⟨some 101,none,.mv (.t 4),none⟩,
 ⟨some 102,none,.mv (.t 10),none⟩,
 ⟨some 103,none,.idxa 3 (.t 101) (.t 102),none⟩,
 ⟨some 104,none,.fld 2 (.t 103),none⟩,
 ⟨some 105,none,.load none (.t 104),none⟩,
 ⟨some 106,none,.mx (.t 100) (.t 105),none⟩,
 ⟨some 107,none,.bin .add (.c (.int .i64 1)) (.t 106),none⟩,
 ⟨some 108,none,.build [(.int .i64 0),(.int .i64 0),(.int .i64 0)] [(0,1,(.t 94)),(1,1,(.t 95)),(2,1,(.t 107))],none⟩,
 ⟨some 109,none,.idxa 3 (.t 92) (.t 93),none⟩,
 ⟨none,none,.store 3 (.t 109) (.t 108),none⟩])
 (.keep [0,4,5,6,8,22,23,24] (.ops [⟨some 110,none,.k (.mv 5),none⟩,
 ⟨some 111,none,.mv (.t 8),none⟩,
 ⟨some 112,none,.bin .sub (.t 111) (.c (.int .i64 2)),none⟩,
 ⟨some 113,none,.k (.cut 110 (.t 112)),none⟩,
 ⟨some 114,none,.mv (.t 6),none⟩,
 ⟨some 115,none,.bsl 3 1 1 [(.int .i64 0)] [(0,1,(.t 114))],none⟩,
 ⟨some 116,none,.k (.ap 3 8 113 (.t 115)),none⟩,
 ⟨some 5,none,.k (.mv 116),none⟩]))))))))))))))))
 (J_expr_parts_j2)))))
def J_expr_parts : AFn :=
 ⟨122,[.t 2,.t 3],.seq (.ops [⟨some 2,none,.mv (.c (.lst .clip 0 [])),none⟩,
 ⟨some 3,none,.mv (.c (.bool false)),none⟩])
 (.keep [0] (.seq (.seq (.ops [⟨some 11,none,.mv (.t 0),none⟩,
 ⟨some 12,none,.lenl (.t 11),none⟩,
 ⟨some 13,none,.bin .lss (.t 12) (.c (.int .i64 1)),none⟩,
 ⟨some 14,none,.mv (.t 13),none⟩,
 ⟨some 15,(some (14,false)),.mv (.t 0),none⟩,
 ⟨some 16,(some (14,false)),.lenl (.t 15),none⟩,
 ⟨some 17,(some (14,false)),.bin .gtr (.t 16) (.c (.int .i64 200)),none⟩,
 ⟨some 18,none,.pick (.t 14) (.c (.bool true)) (.t 17),none⟩])
 (.keep [0,18] (.cond (.t 18)
 (.seq (.ops [⟨some 2,none,.mv (.c (.lst .clip 0 [])),none⟩,
 ⟨some 3,none,.mv (.c (.bool false)),none⟩])
 (.ret))
 (.skip))))
 (.keep [0] (.seq (.ops [⟨some 19,none,.mv (.t 0),none⟩,
 ⟨some 20,none,.lenl (.t 19),none⟩,
 ⟨some 21,none,.mkn 133 3 24 [(.int .i64 0),(.int .i64 0),(.int .i64 0)] (.t 20),none⟩,
 ⟨some 4,none,.mv (.t 21),none⟩])
 (.keep [0,4] (.seq (.ops [⟨some 5,none,.k (.mk 3 (.c (.lst .clip 0 []))),none⟩])
 (.keep [0,4,5] (.seq (.seq (.ops [⟨some 22,none,.mv (.t 0),none⟩,
 ⟨some 23,none,.lenl (.t 22),none⟩,
 ⟨some 24,none,.mv (.c (.int .i64 0)),none⟩])
 (.keep [0,4,5,22,23,24] (.block 0 (.loop [0,4,5,22,23,24] (J_expr_parts_j3)))))
 (J_expr_parts_j1)))))))))⟩
theorem J_expr_parts_ok : chkFn Tryz.prog 51 J_expr_parts = true := by kernel_rfl
def J_expr_Read_j1 : ACode :=
 .keep [0,7] (.seq (.seq (.ops [⟨some 37,none,.fld 3 (.t 7),none⟩,
 ⟨some 38,none,.load none (.t 37),none⟩,
 ⟨some 39,none,.not (.t 38),none⟩,
 ⟨some 40,none,.mv (.t 39),none⟩,
 ⟨some 41,(some (40,false)),.fld 2 (.t 7),none⟩,
 ⟨some 42,(some (40,false)),.load none (.t 41),none⟩,
 ⟨some 43,(some (40,false)),.bin .gtr (.t 42) (.c (.int .i64 0)),none⟩,
 ⟨some 44,none,.pick (.t 40) (.c (.bool true)) (.t 43),none⟩])
 (.keep [0,7,44] (.cond (.t 44)
 (.seq (.ops [⟨some 45,none,.mv (.t 0),none⟩,
 ⟨some 46,none,.lenl (.t 45),none⟩,
 ⟨some 2,none,.mv (.c (.lst .clip 0 [])),none⟩,
 ⟨some 3,none,.mv (.t 46),none⟩,
 ⟨some 4,none,.mv (.c (.int .i64 2)),none⟩])
 (.ret))
 (.skip))))
 (.keep [0,7] (.seq (.ops [⟨some 47,none,.call (.f 100) [(.t 7),(.c (.int .i64 1))],none⟩])
 (.keep [0,7] (.seq (.seq (.ops [⟨some 48,none,.fld 0 (.t 7),none⟩,
 ⟨some 49,none,.load none (.t 48),none⟩,
 ⟨some 50,none,.lenl (.t 49),none⟩,
 ⟨some 51,none,.bin .gtr (.t 50) (.c (.int .i64 200)),none⟩])
 (.keep [0,7,51] (.cond (.t 51)
 (.seq (.ops [⟨some 52,none,.mv (.t 0),none⟩,
 ⟨some 53,none,.lenl (.t 52),none⟩,
 ⟨some 2,none,.mv (.c (.lst .clip 0 [])),none⟩,
 ⟨some 3,none,.mv (.t 53),none⟩,
 ⟨some 4,none,.mv (.c (.int .i64 3)),none⟩])
 (.ret))
 (.skip))))
 (.keep [7] (.seq (.ops [⟨some 54,none,.fld 0 (.t 7),none⟩,
 ⟨some 55,none,.load none (.t 54),none⟩,
 ⟨some 2,none,.mv (.t 55),none⟩,
 ⟨some 3,none,.mv (.c (.int .i64 0)),none⟩,
 ⟨some 4,none,.mv (.c (.int .i64 0)),none⟩])
 (.ret))))))))
def J_expr_Read_j2 : ACode :=
 .seq (.ops [⟨some 26,none,.bin .lss (.t 25) (.t 24),none⟩])
 (.keep [0,7,23,24,25,26] (.seq (.cond (.t 26)
 (.skip)
 (.exit 2))
 (.keep [0,7,23,24,25] (.seq (.block 3 (.seq (.ops [⟨some 27,none,.mv (.t 25),none⟩,
 ⟨some 28,none,.idxa 4 (.t 23) (.t 25),none⟩,
 ⟨some 29,none,.load (some 4) (.t 28),none⟩,
 ⟨some 9,none,.new [(.int .i64 0),(.str ⟨#[]⟩),(.int .i64 0),(.int .i64 0)] [],none⟩,
 ⟨some 8,none,.mv (.t 27),none⟩,
 ⟨none,none,.stores 4 (.t 9) (.t 29),none⟩])
 (.keep [0,7,8,9,23,24,25] (.seq (.ops [⟨some 30,none,.load (some 4) (.t 9),none⟩,
 ⟨some 31,none,.call (.f 99) [(.t 7),(.t 30)],none⟩,
 ⟨some 10,none,.mv (.t 31),none⟩])
 (.keep [0,7,8,10,23,24,25] (.seq (.ops [⟨some 32,none,.mv (.t 10),none⟩,
 ⟨some 33,none,.bin .neq (.t 32) (.c (.int .i64 0)),none⟩])
 (.keep [0,7,8,10,23,24,25,33] (.cond (.t 33)
 (.seq (.ops [⟨some 34,none,.mv (.t 8),none⟩,
 ⟨some 35,none,.mv (.t 10),none⟩,
 ⟨some 2,none,.mv (.c (.lst .clip 0 [])),none⟩,
 ⟨some 3,none,.mv (.t 34),none⟩,
 ⟨some 4,none,.mv (.t 35),none⟩])
 (.ret))
 (.skip)))))))))
 (.keep [0,7,23,24,25] (.ops [⟨some 36,none,.bin .add (.t 25) (.c (.int .i64 1)),none⟩,
 ⟨some 25,none,.mv (.t 36),none⟩]))))))
def J_expr_Read_j3 : ACode :=
 .keep [0] (.seq (.ops [⟨some 7,none,.k (.new [(.lst .clip 0 []),(.lst .clip 0 []),(.int .i64 0),(.bool false)] [(0,52,3)] [(1,3)]),none⟩])
 (.keep [0,7] (.seq (.seq (.ops [⟨some 23,none,.mv (.t 0),none⟩,
 ⟨some 24,none,.lenl (.t 23),none⟩,
 ⟨some 25,none,.mv (.c (.int .i64 0)),none⟩])
 (.keep [0,7,23,24,25] (.block 2 (.loop [0,7,23,24,25] (J_expr_Read_j2)))))
 (J_expr_Read_j1))))
def J_expr_Read_j4 : ACode :=
 .seq (.ops [⟨some 14,none,.bin .lss (.t 13) (.t 12),none⟩])
 (.keep [0,11,12,13,14] (.seq (.cond (.t 14)
 (.skip)
 (.exit 0))
 (.keep [0,11,12,13] (.seq (.block 1 (.seq (.ops [⟨some 15,none,.mv (.t 13),none⟩,
 ⟨some 16,none,.idxa 4 (.t 11) (.t 13),none⟩,
 ⟨some 17,none,.load (some 4) (.t 16),none⟩,
 ⟨some 6,none,.new [(.int .i64 0),(.str ⟨#[]⟩),(.int .i64 0),(.int .i64 0)] [],none⟩,
 ⟨some 5,none,.mv (.t 15),none⟩,
 ⟨none,none,.stores 4 (.t 6) (.t 17),none⟩])
 (.keep [0,5,6,11,12,13] (.seq (.ops [⟨some 18,none,.load (some 4) (.t 6),none⟩,
 ⟨some 19,none,.call (.f 69) [(.t 18)],none⟩,
 ⟨some 20,none,.bin .eql (.t 19) (.c (.str ⟨#[]⟩)),none⟩])
 (.keep [0,5,11,12,13,20] (.cond (.t 20)
 (.seq (.ops [⟨some 21,none,.mv (.t 5),none⟩,
 ⟨some 2,none,.mv (.c (.lst .clip 0 [])),none⟩,
 ⟨some 3,none,.mv (.t 21),none⟩,
 ⟨some 4,none,.mv (.c (.int .i64 2)),none⟩])
 (.ret))
 (.skip)))))))
 (.keep [0,11,12,13] (.ops [⟨some 22,none,.bin .add (.t 13) (.c (.int .i64 1)),none⟩,
 ⟨some 13,none,.mv (.t 22),none⟩]))))))
def J_expr_Read : AFn :=
 ⟨56,[.t 2,.t 3,.t 4],.seq (.ops [⟨some 2,none,.mv (.c (.lst .clip 0 [])),none⟩,
 ⟨some 3,none,.mv (.c (.int .i64 0)),none⟩,
 ⟨some 4,none,.mv (.c (.int .i64 0)),none⟩])
 (.keep [0] (.seq (.seq (.ops [⟨some 11,none,.mv (.t 0),none⟩,
 ⟨some 12,none,.lenl (.t 11),none⟩,
 ⟨some 13,none,.mv (.c (.int .i64 0)),none⟩])
 (.keep [0,11,12,13] (.block 0 (.loop [0,11,12,13] (J_expr_Read_j4)))))
 (J_expr_Read_j3)))⟩
theorem J_expr_Read_ok : chkFn Tryz.prog 62 J_expr_Read = true := by kernel_rfl
def J_expr_written : AFn :=
 ⟨11,[.t 2],.seq (.ops [⟨some 1,none,.box (.t 0) [],none⟩,
 ⟨some 2,none,.mv (.c (.str ⟨#[]⟩)),none⟩])
 (.keep [1] (.seq (.ops [⟨some 3,none,.fld 0 (.t 1),none⟩,
 ⟨some 4,none,.load none (.t 3),none⟩,
 ⟨some 5,none,.fld 1 (.t 1),none⟩,
 ⟨some 6,none,.load none (.t 5),none⟩,
 ⟨some 7,none,.fld 2 (.t 1),none⟩,
 ⟨some 8,none,.load none (.t 7),none⟩,
 ⟨some 9,none,.build [(.int .i64 0),(.str ⟨#[]⟩),(.int .i64 0),(.int .i64 0)] [(0,1,(.t 4)),(2,1,(.t 6)),(1,1,(.t 8))],none⟩,
 ⟨some 10,none,.call (.f 69) [(.t 9)],none⟩,
 ⟨some 2,none,.mv (.t 10),none⟩])
 (.ret)))⟩
theorem J_expr_written_ok : chkFn Tryz.prog 85 J_expr_written = true := by kernel_rfl
def J_expr_bind : AFn :=
 ⟨14,[.t 2],.seq (.ops [⟨some 2,none,.mv (.c (.int .i64 0)),none⟩])
 (.keep [0] (.seq (.seq (.ops [⟨some 3,none,.mv (.t 0),none⟩])
 (.keep [3] (.block 0 (.seq (.ops [⟨some 5,none,.bin .eql (.t 3) (.c (.int .i64 2)),none⟩,
 ⟨some 4,none,.mv (.t 5),none⟩])
 (.keep [3,4] (.cond (.t 4)
 (.seq (.ops [⟨some 2,none,.mv (.c (.int .i64 1)),none⟩])
 (.ret))
 (.seq (.ops [⟨some 7,none,.bin .eql (.t 3) (.c (.int .i64 3)),none⟩,
 ⟨some 6,none,.mv (.t 7),none⟩])
 (.keep [3,6] (.cond (.t 6)
 (.seq (.ops [⟨some 2,none,.mv (.c (.int .i64 2)),none⟩])
 (.ret))
 (.seq (.ops [⟨some 9,none,.bin .eql (.t 3) (.c (.int .i64 4)),none⟩,
 ⟨some 8,none,.mv (.t 9),none⟩])
 (.keep [3,8] (.cond (.t 8)
 (.seq (.ops [⟨some 2,none,.mv (.c (.int .i64 3)),none⟩])
 (.ret))
 (.seq (.ops [⟨some 11,none,.bin .eql (.t 3) (.c (.int .i64 5)),none⟩,
 ⟨some 10,none,.mv (.t 11),none⟩])
 (.keep [3,10] (.cond (.t 10)
 (.seq (.ops [⟨some 2,none,.mv (.c (.int .i64 4)),none⟩])
 (.ret))
 (.seq (.ops [⟨some 13,none,.bin .eql (.t 3) (.c (.int .i64 1)),none⟩,
 ⟨some 12,none,.mv (.t 13),none⟩])
 (.keep [12] (.cond (.t 12)
 (.seq (.ops [⟨some 2,none,.mv (.c (.int .i64 5)),none⟩])
 (.ret))
 (.skip)))))))))))))))))))
 (.keep [] (.seq (.ops [⟨some 2,none,.mv (.c (.int .i64 0)),none⟩])
 (.ret)))))⟩
theorem J_expr_bind_ok : chkFn Tryz.prog 86 J_expr_bind = true := by kernel_rfl
def J_expr_reader_take_j1 : ACode :=
 .keep [] (.seq (.ops [⟨some 4,none,.mv (.c (.int .i64 0)),none⟩])
 (.ret))
def J_expr_reader_take_j2 : ACode :=
 .keep [0,3,14,15] (.cond (.t 15)
 (.seq (.ops [⟨some 20,none,.mv (.t 0),none⟩,
 ⟨some 21,none,.fld 0 (.t 3),none⟩,
 ⟨some 22,none,.load none (.t 21),none⟩,
 ⟨some 23,none,.call (.f 86) [(.t 22)],none⟩,
 ⟨some 24,none,.call (.f 100) [(.t 20),(.t 23)],none⟩])
 (.keep [0,3] (.seq (.draw [0] [⟨some 25,none,.mv (.t 0),none⟩,
 ⟨some 26,none,.mv (.t 0),none⟩,
 ⟨some 27,none,.nilck (.t 26),none⟩,
 ⟨some 28,none,.fld 1 (.t 27),none⟩,
 ⟨some 29,none,.k (.ld (.t 28)),(some (.s 0,[3]))⟩,
 ⟨some 30,none,.fld 0 (.t 3),none⟩,
 ⟨some 31,none,.load none (.t 30),(some (.s 3,[0]))⟩,
 ⟨some 32,none,.bsl 3 1 1 [(.int .i64 0)] [(0,1,(.t 31))],none⟩,
 ⟨some 33,none,.k (.ap 3 8 29 (.t 32)),none⟩,
 ⟨some 34,none,.nilck (.t 25),none⟩,
 ⟨some 35,none,.fld 1 (.t 34),none⟩,
 ⟨none,none,.k (.st (.t 35) 33),none⟩])
 (.keep [0] (.ops [⟨some 36,none,.mv (.t 0),none⟩,
 ⟨some 37,none,.nilck (.t 36),none⟩,
 ⟨some 38,none,.fld 3 (.t 37),none⟩,
 ⟨none,none,.store 1 (.t 38) (.c (.bool false)),none⟩])))))
 (.seq (.ops [⟨some 40,none,.bin .eql (.t 14) (.c (.int .i64 7)),none⟩,
 ⟨some 39,none,.mv (.t 40),none⟩])
 (.keep [0,39] (.cond (.t 39)
 (.seq (.seq (.ops [⟨some 41,none,.mv (.t 0),none⟩,
 ⟨some 42,none,.nilck (.t 41),none⟩,
 ⟨some 43,none,.fld 2 (.t 42),none⟩,
 ⟨some 44,none,.load none (.t 43),none⟩,
 ⟨some 45,none,.bin .eql (.t 44) (.c (.int .i64 0)),none⟩])
 (.keep [0,45] (.cond (.t 45)
 (.seq (.ops [⟨some 4,none,.mv (.c (.int .i64 2)),none⟩])
 (.ret))
 (.skip))))
 (.keep [0] (.seq (.ops [⟨some 46,none,.mv (.t 0),none⟩,
 ⟨some 47,none,.call (.f 100) [(.t 46),(.c (.int .i64 1))],none⟩])
 (.keep [0] (.seq (.nmo 0 1 (.draw [0] [⟨some 48,none,.mv (.t 0),none⟩,
 ⟨some 49,none,.mv (.t 0),none⟩,
 ⟨some 50,none,.nilck (.t 49),none⟩,
 ⟨some 51,none,.fld 1 (.t 50),none⟩,
 ⟨some 52,none,.load none (.t 51),none⟩,
 ⟨some 53,none,.mv (.t 0),none⟩,
 ⟨some 54,none,.nilck (.t 53),none⟩,
 ⟨some 55,none,.fld 1 (.t 54),none⟩,
 ⟨some 56,none,.load none (.t 55),none⟩,
 ⟨some 57,none,.k (.len (.t 56)),none⟩,
 ⟨some 58,none,.bin .sub (.t 57) (.c (.int .i64 1)),none⟩,
 ⟨some 59,none,.k (.sl (.t 52) (.t 58)),none⟩,
 ⟨some 60,none,.nilck (.t 48),none⟩,
 ⟨some 61,none,.fld 1 (.t 60),none⟩,
 ⟨none,none,.k (.pop (.t 61) (.t 59)),none⟩]))
 (.keep [0] (.ops [⟨some 62,none,.mv (.t 0),none⟩,
 ⟨some 63,none,.nilck (.t 62),none⟩,
 ⟨some 64,none,.fld 2 (.t 63),none⟩,
 ⟨some 65,none,.load none (.t 64),none⟩,
 ⟨some 66,none,.bin .sub (.t 65) (.c (.int .i64 1)),none⟩,
 ⟨some 67,none,.nilck (.t 62),none⟩,
 ⟨some 68,none,.fld 2 (.t 67),none⟩,
 ⟨none,none,.store 1 (.t 68) (.t 66),none⟩])))))))
 (.seq (.ops [⟨some 4,none,.mv (.c (.int .i64 2)),none⟩])
 (.ret))))))
def J_expr_reader_take : AFn :=
 ⟨69,[.t 4],.seq (.ops [⟨some 3,none,.box (.t 1) [],none⟩,
 ⟨some 4,none,.mv (.c (.int .i64 0)),none⟩])
 (.keep [0,3] (.seq (.seq (.ops [⟨some 5,none,.mv (.t 0),none⟩,
 ⟨some 6,none,.nilck (.t 5),none⟩,
 ⟨some 7,none,.fld 3 (.t 6),none⟩,
 ⟨some 8,none,.load none (.t 7),none⟩,
 ⟨some 9,none,.not (.t 8),none⟩])
 (.keep [0,3,9] (.cond (.t 9)
 (.seq (.ops [⟨some 10,none,.mv (.t 0),none⟩,
 ⟨some 11,none,.load (some 4) (.t 3),none⟩,
 ⟨some 12,none,.call (.f 121) [(.t 10),(.t 11)],none⟩,
 ⟨some 4,none,.mv (.t 12),none⟩])
 (.ret))
 (.skip))))
 (.keep [0,3] (.seq (.seq (.ops [⟨some 13,none,.fld 0 (.t 3),none⟩,
 ⟨some 14,none,.load none (.t 13),none⟩])
 (.keep [0,3,14] (.block 0 (.seq (.seq (.ops [⟨some 16,none,.bin .eql (.t 14) (.c (.int .i64 2)),none⟩,
 ⟨some 15,none,.mv (.t 16),none⟩])
 (.keep [0,3,14,15] (.cond (.t 15)
 (.skip)
 (.seq (.ops [⟨some 17,none,.bin .eql (.t 14) (.c (.int .i64 3)),none⟩,
 ⟨some 15,none,.mv (.t 17),none⟩])
 (.keep [0,3,14,15] (.cond (.t 15)
 (.skip)
 (.seq (.ops [⟨some 18,none,.bin .eql (.t 14) (.c (.int .i64 4)),none⟩,
 ⟨some 15,none,.mv (.t 18),none⟩])
 (.keep [0,3,14,15] (.cond (.t 15)
 (.skip)
 (.ops [⟨some 19,none,.bin .eql (.t 14) (.c (.int .i64 5)),none⟩,
 ⟨some 15,none,.mv (.t 19),none⟩]))))))))))
 (J_expr_reader_take_j2)))))
 (J_expr_reader_take_j1)))))⟩
theorem J_expr_reader_take_ok : chkFn Tryz.prog 99 J_expr_reader_take = true := by kernel_rfl
def J_expr_reader_lay_j1 : ACode :=
 .seq (.seq (.ops [⟨some 4,none,.mv (.t 0),none⟩,
 ⟨some 5,none,.call (.f 122) [(.t 4)],none⟩,
 ⟨some 6,none,.call (.f 86) [(.t 5)],none⟩,
 ⟨some 7,none,.mv (.t 1),none⟩,
 ⟨some 8,none,.bin .geq (.t 6) (.t 7),none⟩])
 (.keep [0,1,8] (.cond (.t 8)
 (.skip)
 (.exit 0))))
 (.keep [0,1] (.block 1 (.seq (.draw [0,1] [⟨some 9,none,.mv (.t 0),none⟩,
 ⟨some 10,none,.mv (.t 0),none⟩,
 ⟨some 11,none,.nilck (.t 10),none⟩,
 ⟨some 12,none,.fld 0 (.t 11),none⟩,
 ⟨some 13,none,.loado (.t 12),none⟩,
 ⟨some 14,none,.mv (.t 0),none⟩,
 ⟨some 15,none,.callr (.f 122) [(.t 14)],none⟩,
 ⟨some 16,none,.build [(.int .i64 0),(.int .i64 0),(.str ⟨#[]⟩)] [(0,1,(.t 15))],none⟩,
 ⟨some 17,none,.bsl 52 3 1 [(.int .i64 0),(.int .i64 0),(.str ⟨#[]⟩)] [(0,3,(.t 16))],none⟩,
 ⟨some 18,none,.appo 52 3 32 13 (.t 17),none⟩,
 ⟨some 19,none,.nilck (.t 9),none⟩,
 ⟨some 20,none,.fld 0 (.t 19),none⟩,
 ⟨none,none,.storeo (.t 20) 18,none⟩])
 (.keep [0,1] (.nmo 0 1 (.draw [0,1] [⟨some 21,none,.mv (.t 0),none⟩,
 ⟨some 22,none,.mv (.t 0),none⟩,
 ⟨some 23,none,.nilck (.t 22),none⟩,
 ⟨some 24,none,.fld 1 (.t 23),none⟩,
 ⟨some 25,none,.load none (.t 24),none⟩,
 ⟨some 26,none,.mv (.t 0),none⟩,
 ⟨some 27,none,.nilck (.t 26),none⟩,
 ⟨some 28,none,.fld 1 (.t 27),none⟩,
 ⟨some 29,none,.load none (.t 28),none⟩,
 ⟨some 30,none,.k (.len (.t 29)),none⟩,
 ⟨some 31,none,.bin .sub (.t 30) (.c (.int .i64 1)),none⟩,
 ⟨some 32,none,.k (.sl (.t 25) (.t 31)),none⟩,
 ⟨some 33,none,.nilck (.t 21),none⟩,
 ⟨some 34,none,.fld 1 (.t 33),none⟩,
 ⟨none,none,.k (.pop (.t 34) (.t 32)),none⟩]))))))
def J_expr_reader_lay : AFn :=
 ⟨35,[],.block 0 (.loop [0,1] (J_expr_reader_lay_j1))⟩
theorem J_expr_reader_lay_ok : chkFn Tryz.prog 100 J_expr_reader_lay = true := by kernel_rfl
def J_expr_reader_part_j1 : ACode :=
 .keep [] (.seq (.ops [⟨some 4,none,.mv (.c (.int .i64 0)),none⟩])
 (.ret))
def J_expr_reader_part : AFn :=
 ⟨64,[.t 4],.seq (.ops [⟨some 3,none,.box (.t 1) [],none⟩,
 ⟨some 4,none,.mv (.c (.int .i64 0)),none⟩])
 (.keep [0,3] (.seq (.block 0 (.seq (.ops [⟨some 6,none,.fld 0 (.t 3),none⟩,
 ⟨some 7,none,.load none (.t 6),none⟩,
 ⟨some 8,none,.bin .eql (.t 7) (.c (.int .i64 1)),none⟩,
 ⟨some 5,none,.mv (.t 8),none⟩])
 (.keep [0,3,5] (.cond (.t 5)
 (.seq (.seq (.ops [⟨some 9,none,.mv (.t 0),none⟩,
 ⟨some 10,none,.call (.f 122) [(.t 9)],none⟩,
 ⟨some 11,none,.bin .eql (.t 10) (.c (.int .i64 5)),none⟩,
 ⟨some 12,none,.mv (.t 11),none⟩,
 ⟨some 13,(some (12,true)),.fld 2 (.t 3),none⟩,
 ⟨some 14,(some (12,true)),.load none (.t 13),none⟩,
 ⟨some 15,(some (12,true)),.bin .neq (.t 14) (.c (.int .i64 5)),none⟩,
 ⟨some 16,none,.pick (.t 12) (.t 15) (.c (.bool false)),none⟩])
 (.keep [0,3,16] (.cond (.t 16)
 (.seq (.ops [⟨some 4,none,.mv (.c (.int .i64 2)),none⟩])
 (.ret))
 (.skip))))
 (.keep [0,3] (.seq (.draw [0] [⟨some 17,none,.mv (.t 0),none⟩,
 ⟨some 18,none,.mv (.t 0),none⟩,
 ⟨some 19,none,.nilck (.t 18),none⟩,
 ⟨some 20,none,.fld 0 (.t 19),none⟩,
 ⟨some 21,none,.loado (.t 20),(some (.s 0,[3]))⟩,
 ⟨some 22,none,.fld 2 (.t 3),none⟩,
 ⟨some 23,none,.load none (.t 22),(some (.s 3,[0]))⟩,
 ⟨some 24,none,.fld 1 (.t 3),none⟩,
 ⟨some 25,none,.load none (.t 24),(some (.s 3,[0]))⟩,
 ⟨some 26,none,.build [(.int .i64 0),(.int .i64 0),(.str ⟨#[]⟩)] [(0,1,(.c (.int .i64 1))),(1,1,(.t 23)),(2,1,(.t 25))],none⟩,
 ⟨some 27,none,.bsl 52 3 1 [(.int .i64 0),(.int .i64 0),(.str ⟨#[]⟩)] [(0,3,(.t 26))],none⟩,
 ⟨some 28,none,.appo 52 3 32 21 (.t 27),none⟩,
 ⟨some 29,none,.nilck (.t 17),none⟩,
 ⟨some 30,none,.fld 0 (.t 29),none⟩,
 ⟨none,none,.storeo (.t 30) 28,none⟩])
 (.keep [0] (.ops [⟨some 31,none,.mv (.t 0),none⟩,
 ⟨some 32,none,.nilck (.t 31),none⟩,
 ⟨some 33,none,.fld 3 (.t 32),none⟩,
 ⟨none,none,.store 1 (.t 33) (.c (.bool true)),none⟩])))))
 (.seq (.ops [⟨some 35,none,.fld 0 (.t 3),none⟩,
 ⟨some 36,none,.load none (.t 35),none⟩,
 ⟨some 37,none,.bin .eql (.t 36) (.c (.int .i64 6)),none⟩,
 ⟨some 38,none,.mv (.t 37),none⟩,
 ⟨some 39,(some (38,true)),.mv (.t 0),none⟩,
 ⟨some 40,(some (38,true)),.call (.f 122) [(.t 39)],none⟩,
 ⟨some 41,(some (38,true)),.bin .neq (.t 40) (.c (.int .i64 5)),none⟩,
 ⟨some 42,none,.pick (.t 38) (.t 41) (.c (.bool false)),none⟩,
 ⟨some 34,none,.mv (.t 42),none⟩])
 (.keep [0,34] (.cond (.t 34)
 (.seq (.seq (.ops [⟨some 43,none,.mv (.t 0),none⟩,
 ⟨some 44,none,.nilck (.t 43),none⟩,
 ⟨some 45,none,.fld 2 (.t 44),none⟩,
 ⟨some 46,none,.load none (.t 45),none⟩,
 ⟨some 47,none,.bin .eql (.t 46) (.c (.int .i64 100)),none⟩])
 (.keep [0,47] (.cond (.t 47)
 (.seq (.ops [⟨some 4,none,.mv (.c (.int .i64 3)),none⟩])
 (.ret))
 (.skip))))
 (.keep [0] (.seq (.ops [⟨some 48,none,.mv (.t 0),none⟩,
 ⟨some 49,none,.mv (.t 0),none⟩,
 ⟨some 50,none,.nilck (.t 49),none⟩,
 ⟨some 51,none,.fld 1 (.t 50),none⟩,
 ⟨some 52,none,.k (.ld (.t 51)),none⟩,
 ⟨some 53,none,.bsl 3 1 1 [(.int .i64 0)] [(0,1,(.c (.int .i64 6)))],none⟩,
 ⟨some 54,none,.k (.ap 3 8 52 (.t 53)),none⟩,
 ⟨some 55,none,.nilck (.t 48),none⟩,
 ⟨some 56,none,.fld 1 (.t 55),none⟩,
 ⟨none,none,.k (.st (.t 56) 54),none⟩])
 (.keep [0] (.ops [⟨some 57,none,.mv (.t 0),none⟩,
 ⟨some 58,none,.nilck (.t 57),none⟩,
 ⟨some 59,none,.fld 2 (.t 58),none⟩,
 ⟨some 60,none,.load none (.t 59),none⟩,
 ⟨some 61,none,.bin .add (.t 60) (.c (.int .i64 1)),none⟩,
 ⟨some 62,none,.nilck (.t 57),none⟩,
 ⟨some 63,none,.fld 2 (.t 62),none⟩,
 ⟨none,none,.store 1 (.t 63) (.t 61),none⟩])))))
 (.seq (.ops [⟨some 4,none,.mv (.c (.int .i64 2)),none⟩])
 (.ret)))))))))
 (J_expr_reader_part_j1)))⟩
theorem J_expr_reader_part_ok : chkFn Tryz.prog 121 J_expr_reader_part = true := by kernel_rfl
def J_expr_reader_top : AFn :=
 ⟨21,[.t 2],.seq (.ops [⟨some 2,none,.mv (.c (.int .i64 0)),none⟩])
 (.keep [0] (.seq (.seq (.nmo 0 1 (.ops [⟨some 3,none,.mv (.t 0),none⟩,
 ⟨some 4,none,.nilck (.t 3),none⟩,
 ⟨some 5,none,.fld 1 (.t 4),none⟩,
 ⟨some 6,none,.load none (.t 5),none⟩,
 ⟨some 7,none,.k (.len (.t 6)),none⟩,
 ⟨some 8,none,.bin .eql (.t 7) (.c (.int .i64 0)),none⟩]))
 (.keep [0,8] (.cond (.t 8)
 (.seq (.ops [⟨some 2,none,.mv (.c (.int .i64 0)),none⟩])
 (.ret))
 (.skip))))
 (.keep [0] (.seq (.nmo 0 1 (.draw [2] [⟨some 9,none,.mv (.t 0),none⟩,
 ⟨some 10,none,.nilck (.t 9),none⟩,
 ⟨some 11,none,.fld 1 (.t 10),none⟩,
 ⟨some 12,none,.load none (.t 11),none⟩,
 ⟨some 13,none,.mv (.t 0),none⟩,
 ⟨some 14,none,.nilck (.t 13),none⟩,
 ⟨some 15,none,.fld 1 (.t 14),none⟩,
 ⟨some 16,none,.load none (.t 15),none⟩,
 ⟨some 17,none,.k (.len (.t 16)),none⟩,
 ⟨some 18,none,.bin .sub (.t 17) (.c (.int .i64 1)),none⟩,
 ⟨some 19,none,.k (.ix (.t 12) (.t 18)),none⟩,
 ⟨some 20,none,.k (.po (.t 11) (.t 19)),none⟩,
 ⟨some 2,none,.mv (.t 20),none⟩]))
 (.ret)))))⟩
theorem J_expr_reader_top_ok : chkFn Tryz.prog 122 J_expr_reader_top = true := by kernel_rfl
end Go.Proofs.YtedaffmkpljlnaaGreat

/- The abstract layer: laws of the walk for rows that grow and shrink, and for calls that only look. -/
namespace Go.Proofs.YtedaffmkpljlnaaGreat
set_option linter.unusedSimpArgs false
set_option linter.unusedVariables false
open Go.RowKit Go.Lib

theorem wop_k (P : Program) (d : Option Nat) (o : KOp) (fr : Fr) (h : Hp) (K : Fr → Hp → Prop) : wop P d (.k o) fr h K = (kF o fr h (fun a h' => K (put d a (ktk o fr)) h')) := id rfl
theorem eff_k (P : Program) (o : KOp) (fr : Fr) (h : Hp) (R : AV → Hp → Prop) : eff P (.k o) fr h R = (kF o fr h R) := id rfl
theorem tk_k (o : KOp) (fr : Fr) : tk (.k o) fr = (ktk o fr) := id rfl
theorem effF_kld (P : Program) (b : FB) (x : Opd) (fr : Fr) (h : Hp) (R : AV → Hp → Prop) : effF P b (.k (.ld x)) fr h R = (sameId (ev fr x) (fbId b fr h) ∧ kF (.ld x) fr h R) := id rfl
theorem wop_callr (P : Program) (d : Option Nat) (f : Opd) (args : List Opd) (fr : Fr) (h : Hp) (K : Fr → Hp → Prop) : wop P d (.callr f args) fr h K = (match ev fr f, evs fr args with
    | some (.fn f' caps), some l => ACalls P f' (l ++ caps) h (kcall d fr K)
    | _, _ => False) := id rfl
theorem eff_callr (P : Program) (f : Opd) (args : List Opd) (fr : Fr) (h : Hp) (R : AV → Hp → Prop) : eff P (.callr f args) fr h R = (match ev fr f, evs fr args with
    | some (.fn f' caps), some l => ∃ v, (∀ h0 : Hp, SameU h0 h → ACalls P f' (l ++ caps) h0 (fun a h' => a = v ∧ h' = h0)) ∧ R v h
    | _, _ => False) := id rfl
theorem tk_callr (f : Opd) (args : List Opd) (fr : Fr) : tk (.callr f args) fr = (fr) := id rfl
theorem kF_mk (e : Nat) (x : Opd) (fr : Fr) (h : Hp) (R : AV → Hp → Prop) : kF (.mk e x) fr h R = (match ev fr x with
    | some (.lst .clip 0 []) => R (.stk e none []) h
    | _ => False) := id rfl
theorem kF_mv (k : Nat) (fr : Fr) (h : Hp) (R : AV → Hp → Prop) : kF (.mv k) fr h R = (match lk fr k with
    | some (.stk e o l) => R (.stk e o l) h
    | _ => False) := id rfl
theorem kF_ld (x : Opd) (fr : Fr) (h : Hp) (R : AV → Hp → Prop) : kF (.ld x) fr h R = (match ev fr x with
    | some (.ptr id off) => (match h[id]? with
      | some (some (false, c)) => (match c[off]? with
        | some (.stk e o l) => R (.stk e o l) (h.set id (some (false, c.set off .opq)))
        | _ => False)
      | _ => False)
    | _ => False) := id rfl
theorem kF_st (a : Opd) (k : Nat) (fr : Fr) (h : Hp) (R : AV → Hp → Prop) : kF (.st a k) fr h R = (match ev fr a, lk fr k with
    | some (.ptr id off), some (.stk e o l) => (match h[id]? with
      | some (some (false, c)) => off < c.length ∧ R .nilp (h.set id (some (false, c.set off (.stk e o l))))
      | _ => False)
    | _, _ => False) := id rfl
theorem kF_ap (e b k : Nat) (y : Opd) (fr : Fr) (h : Hp) (R : AV → Hp → Prop) : kF (.ap e b k y) fr h R = (match lk fr k, ev fr y with
    | some (.stk e' _ l), some (.lst _ 1 [.int .i64 x]) => (e' = e ∧ l.length + 1 ≤ 9223372036854775807 ∧ (l.length + 1) * b ≤ 140737488355328) ∧ R (.stk e none (l ++ [x])) h
    | _, _ => False) := id rfl
theorem kF_cut (k : Nat) (j : Opd) (fr : Fr) (h : Hp) (R : AV → Hp → Prop) : kF (.cut k j) fr h R = (match lk fr k, ev fr j with
    | some (.stk e _ l), some (.int _ m) => (0 ≤ m ∧ m ≤ l.length) ∧ R (.stk e none (l.take m.toNat)) h
    | _, _ => False) := id rfl
theorem kF_pop (a x : Opd) (fr : Fr) (h : Hp) (R : AV → Hp → Prop) : kF (.pop a x) fr h R = (match ev fr a, ev fr x with
    | some (.ptr id off), some (.raw v n) => (match h[id]? with
      | some (some (false, c)) => (match c[off]? with
        | some (.stk e (some u) l) => (n ≤ l.length ∧ v = cutV u n) ∧ R .nilp (h.set id (some (false, c.set off (.stk e (some v) (l.take n)))))
        | _ => False)
      | _ => False)
    | _, _ => False) := id rfl
theorem kF_pk (k : Nat) (x : Opd) (fr : Fr) (h : Hp) (R : AV → Hp → Prop) : kF (.pk k x) fr h R = (match lk fr k, ev fr x with
    | some (.stk _ (some u) l), some (.rawp v i) => (v = u ∧ i < l.length) ∧ R (.int .i64 (l.getD i 0)) h
    | _, _ => False) := id rfl
theorem kF_po (a x : Opd) (fr : Fr) (h : Hp) (R : AV → Hp → Prop) : kF (.po a x) fr h R = (match ev fr a, ev fr x with
    | some (.ptr id off), some (.rawp v i) => (match h[id]? with
      | some (some (false, c)) => (match c[off]? with
        | some (.stk _ (some u) l) => (v = u ∧ i < l.length) ∧ R (.int .i64 (l.getD i 0)) h
        | _ => False)
      | _ => False)
    | _, _ => False) := id rfl
theorem kF_len (x : Opd) (fr : Fr) (h : Hp) (R : AV → Hp → Prop) : kF (.len x) fr h R = (match ev fr x with
    | some (.raw _ n) => R (.int .i64 n) h
    | _ => False) := id rfl
theorem kF_sl (x j : Opd) (fr : Fr) (h : Hp) (R : AV → Hp → Prop) : kF (.sl x j) fr h R = (match ev fr x, ev fr j with
    | some (.raw v n), some (.int _ m) => (0 ≤ m ∧ m ≤ n) ∧ R (.raw (cutV v m.toNat) m.toNat) h
    | _, _ => False) := id rfl
theorem kF_ix (x i : Opd) (fr : Fr) (h : Hp) (R : AV → Hp → Prop) : kF (.ix x i) fr h R = (match ev fr x, ev fr i with
    | some (.raw v n), some (.int _ i) => (0 ≤ i ∧ i < n) ∧ R (.rawp v i.toNat) h
    | _, _ => False) := id rfl
theorem kF_new (l : List AV) (u : List (Nat × Nat × Nat)) (ks : List (Nat × Nat)) (fr : Fr) (h : Hp) (R : AV → Hp → Prop) : kF (.new l u ks) fr h R = (upgK u l (fun l' => ksetK ks l' (fun l'' => R (.ptr h.length 0) (h ++ [some (false, l'')])))) := id rfl
theorem ksetK_nil (l : List AV) (K : List AV → Prop) : ksetK [] l K = (K l) := id rfl
theorem ksetK_cons (i e : Nat) (r : List (Nat × Nat)) (l : List AV) (K : List AV → Prop) : ksetK ((i, e) :: r) l K = (match l[i]? with
    | some (.lst .clip 0 []) => ksetK r (l.set i (.stk e none [])) K
    | _ => False) := id rfl
theorem ktk_mk (e : Nat) (x : Opd) (fr : Fr) : ktk (.mk e x) fr = (fr) := id rfl
theorem ktk_mv (k : Nat) (fr : Fr) : ktk (.mv k) fr = (degr k fr) := id rfl
theorem ktk_ld (x : Opd) (fr : Fr) : ktk (.ld x) fr = (fr) := id rfl
theorem ktk_st (a : Opd) (k : Nat) (fr : Fr) : ktk (.st a k) fr = (degr k fr) := id rfl
theorem ktk_ap (e b k : Nat) (y : Opd) (fr : Fr) : ktk (.ap e b k y) fr = (degr k fr) := id rfl
theorem ktk_cut (k : Nat) (j : Opd) (fr : Fr) : ktk (.cut k j) fr = (degr k fr) := id rfl
theorem ktk_pop (a x : Opd) (fr : Fr) : ktk (.pop a x) fr = (fr) := id rfl
theorem ktk_pk (k : Nat) (x : Opd) (fr : Fr) : ktk (.pk k x) fr = (fr) := id rfl
theorem ktk_po (a x : Opd) (fr : Fr) : ktk (.po a x) fr = (fr) := id rfl
theorem ktk_len (x : Opd) (fr : Fr) : ktk (.len x) fr = (fr) := id rfl
theorem ktk_sl (x j : Opd) (fr : Fr) : ktk (.sl x j) fr = (fr) := id rfl
theorem ktk_ix (x i : Opd) (fr : Fr) : ktk (.ix x i) fr = (fr) := id rfl
theorem ktk_new (l : List AV) (u : List (Nat × Nat × Nat)) (ks : List (Nat × Nat)) (fr : Fr) : ktk (.new l u ks) fr = (fr) := id rfl
theorem W_nms (P : Program) (k : Nat) (a : ACode) (fr : Fr) (h : Hp) (Q : Exit → Fr → Hp → Prop) : W P (.nms k a) fr h Q = (match lk fr k with
    | some (.stk e none l) => ∀ v, W P a ((k, .stk e (some v) l) :: fr) h Q
    | _ => W P a fr h Q) := id rfl
theorem W_nmo (P : Program) (k off : Nat) (a : ACode) (fr : Fr) (h : Hp) (Q : Exit → Fr → Hp → Prop) : W P (.nmo k off a) fr h Q = (match lk fr k with
    | some (.ptr id _) => (match h[id]? with
      | some (some (false, c)) => (match c[off]? with
        | some (.stk e none l) => ∀ v, W P a fr (h.set id (some (false, c.set off (.stk e (some v) l)))) Q
        | _ => W P a fr h Q)
      | _ => W P a fr h Q)
    | _ => W P a fr h Q) := id rfl
theorem deg_stks (e : TypeId) (v : Value) (l : List Int) : deg (.stk e (some v) l) = (.raw v l.length) := id rfl
theorem deg_stkn (e : TypeId) (l : List Int) : deg (.stk e none l) = (.opq) := id rfl
theorem deg_raw (v : Value) (n : Nat) : deg (.raw v n) = (.raw v n) := id rfl
theorem isTup_raw (v : Value) (n : Nat) : isTup (.raw v n) = (false) := id rfl
theorem cellsOf_raw (v : Value) (n : Nat) : cellsOf (.raw v n) = ([.raw v n]) := id rfl
theorem deg_rawp (v : Value) (n : Nat) : deg (.rawp v n) = (.rawp v n) := id rfl
theorem isTup_rawp (v : Value) (n : Nat) : isTup (.rawp v n) = (false) := id rfl
theorem cellsOf_rawp (v : Value) (n : Nat) : cellsOf (.rawp v n) = ([.rawp v n]) := id rfl
theorem Sim.unname {P : Program} {g : Gh} {h : Hp} {w : World} {id off : Nat} {c : List AV} {e : TypeId} {u : Value} {l : List Int} (hl : h[id]? = some (some (false, c))) (hc : c[off]? = some (.stk e none l)) (hs : Sim P g (h.set id (some (false, c.set off (.stk e (some u) l)))) w) : Sim P g h w := by
  have hidlt : id < h.length := (List.getElem?_eq_some_iff.1 hl).1
  have hofflt : off < c.length := (List.getElem?_eq_some_iff.1 hc).1
  have hat : (h.set id (some (false, c.set off (.stk e (some u) l))))[id]? = some (some (false, c.set off (.stk e (some u) l))) := by simp [hidlt]
  refine ⟨hs.prot, ?_, hs.inj, fun i b hb => by have := hs.dom i b hb; rw [List.length_set] at this; exact this, hs.flt, hs.olt, fun i hi => hs.hole i ?_, hs.fro⟩
  · intro id' s l' hl'
    by_cases e1 : id' = id
    · subst e1
      rw [hl] at hl'
      simp only [Option.some.injEq, Prod.mk.injEq] at hl'
      obtain ⟨rfl, rfl⟩ := hl'
      obtain ⟨b, arr, e', p1, p2, p3, p4, p5, p6, p7, p8, p9⟩ := hs.obj id' false _ hat
      have hx : (c.set off (.stk e (some u) l))[off]? = some (.stk e (some u) l) := by simp [hofflt]
      obtain ⟨v, hv, hr⟩ := p3.get off _ hx
      obtain ⟨a, cc, rfl, q1, q2, q3⟩ := stk_slice hr
      have hcc : (c.set off (.stk e (some u) l)).set off (.stk e none l) = c := by
        rw [List.set_set]
        apply List.ext_getElem?
        intro j
        rw [List.getElem?_set]
        split
        · next ej => subst ej; first | rw [hc] | rw [if_pos hofflt, hc]
        · rfl
      have hrl := p3.setR off hv (.stk a cc e none l q1 q2 (fun v h => by cases h))
      rw [hcc] at hrl
      refine ⟨b, arr, e', p1, p2, hrl, p4, fun i x y hx2 hy => ?_, p6, (fun h => by cases h), p8, p9⟩
      by_cases ei : i = off
      · subst ei
        rw [hc] at hy
        simp only [Option.some.injEq] at hy
        subst hy
        have hq := p5 i x _ hx2 hx
        exact hq
      · exact p5 i x y hx2 (by rw [List.getElem?_set_ne (fun e => ei e.symm)]; exact hy)
    · exact hs.obj id' s l' (by rw [List.getElem?_set_ne (fun e => e1 e.symm)]; exact hl')
  · rw [List.getElem?_set_ne (fun e => by subst e; rw [hl] at hi; cases hi)]
    exact hi
theorem ACalls.unname {P : Program} {f : FuncId} {args : List AV} {h : Hp} {R : AV → Prop} {id off : Nat} {c : List AV} {e : TypeId} {l : List Int} (hl : h[id]? = some (some (false, c))) (hc : c[off]? = some (.stk e none l))
    (hA : ACalls P f args h (fun a h' => (∃ u, h' = h.set id (some (false, c.set off (.stk e (some u) l)))) ∧ R a)) : ACalls P f args h (fun a h' => R a ∧ h' = h) :=
  ⟨hA.1, fun g w vargs h1 h2 h3 h4 => (hA.2 g w vargs h1 h2 h3 h4).mono fun _ _ ⟨x, a, h', g', q1, q2, q3, q4, q5, q6, ⟨u, q7⟩, q8⟩ => ⟨x, a, h, g', q1, q2, Sim.unname hl hc (by rw [← q7]; exact q3), q4, q5, q6, q8, rfl⟩⟩
theorem wkr : type_of% (And.intro (And.intro (And.intro (And.intro (And.intro (@wop_k) (@eff_k)) (And.intro (@tk_k) (And.intro (@effF_kld) (@wop_callr)))) (And.intro (And.intro (@eff_callr) (And.intro (@tk_callr) (@kF_mk))) (And.intro (@kF_mv) (And.intro (@kF_ld) (@kF_st))))) (And.intro (And.intro (And.intro (@kF_ap) (@kF_cut)) (And.intro (@kF_pop) (And.intro (@kF_pk) (@kF_po)))) (And.intro (And.intro (@kF_len) (And.intro (@kF_sl) (@kF_ix))) (And.intro (@kF_new) (And.intro (@ksetK_nil) (@ksetK_cons)))))) (And.intro (And.intro (And.intro (And.intro (@ktk_mk) (@ktk_mv)) (And.intro (@ktk_ld) (And.intro (@ktk_st) (@ktk_ap)))) (And.intro (And.intro (@ktk_cut) (And.intro (@ktk_pop) (@ktk_pk))) (And.intro (@ktk_po) (And.intro (@ktk_len) (@ktk_sl))))) (And.intro (And.intro (And.intro (@ktk_ix) (And.intro (@ktk_new) (@W_nms))) (And.intro (@W_nmo) (And.intro (@deg_stks) (@deg_stkn)))) (And.intro (And.intro (@deg_raw) (And.intro (@isTup_raw) (@cellsOf_raw))) (And.intro (@deg_rawp) (And.intro (@isTup_rawp) (@cellsOf_rawp))))))) :=
  And.intro (And.intro (And.intro (And.intro (And.intro (@wop_k) (@eff_k)) (And.intro (@tk_k) (And.intro (@effF_kld) (@wop_callr)))) (And.intro (And.intro (@eff_callr) (And.intro (@tk_callr) (@kF_mk))) (And.intro (@kF_mv) (And.intro (@kF_ld) (@kF_st))))) (And.intro (And.intro (And.intro (@kF_ap) (@kF_cut)) (And.intro (@kF_pop) (And.intro (@kF_pk) (@kF_po)))) (And.intro (And.intro (@kF_len) (And.intro (@kF_sl) (@kF_ix))) (And.intro (@kF_new) (And.intro (@ksetK_nil) (@ksetK_cons)))))) (And.intro (And.intro (And.intro (And.intro (@ktk_mk) (@ktk_mv)) (And.intro (@ktk_ld) (And.intro (@ktk_st) (@ktk_ap)))) (And.intro (And.intro (@ktk_cut) (And.intro (@ktk_pop) (@ktk_pk))) (And.intro (@ktk_po) (And.intro (@ktk_len) (@ktk_sl))))) (And.intro (And.intro (And.intro (@ktk_ix) (And.intro (@ktk_new) (@W_nms))) (And.intro (@W_nmo) (And.intro (@deg_stks) (@deg_stkn)))) (And.intro (And.intro (@deg_raw) (And.intro (@isTup_raw) (@cellsOf_raw))) (And.intro (@deg_rawp) (And.intro (@isTup_rawp) (@cellsOf_rawp))))))
end Go.Proofs.YtedaffmkpljlnaaGreat

/- Names; the library's searches; the program's number, Word, name, sign. -/
namespace Go.Proofs.YtedaffmkpljlnaaGreat
set_option linter.unusedSimpArgs false
set_option linter.unusedVariables false
open Go.RowKit Go.Lib

def mayL (l : List UInt8) : Bool := decide (1 ≤ l.length) && (decide (l.length ≤ 24) && (lttI ((l.headD 0).toNat) && l.all fun b => innI b.toNat))
def mayN (s : ByteArray) : Bool := mayL s.data.toList
theorem mayL_bad {l : List UInt8} {i : Nat} (h : i < l.length) (hb : innI (l[i]).toNat = false) : mayL l = false := by
  have : l.all (fun b => innI b.toNat) = false := by
    rw [List.all_eq_false]; exact ⟨_, List.getElem_mem h, fun h2 => by rw [hb] at h2; cases h2⟩
  unfold mayL
  rw [this]; simp
theorem headD_get {l : List UInt8} (h : 0 < l.length) : l.headD 0 = l[0] := by
  cases l with
  | nil => simp at h
  | cons b r => rfl
theorem p_amay (s : ByteArray) (hs : s.size ≤ 9223372036854775807) : PCalls Tryz.prog 84 [.str s] (.bool (mayN s)) := by
  have hl := len_size s
  have no : mayN s = false → AV.bool false = .bool (mayN s) := fun h => by rw [h]
  refine pcalls_of (by first | rfl | simp [free, free.frees, frees_str, frees_u8, frees_u16]) (by first | rfl | simp [free, free.frees, frees_str, frees_u8, frees_u16]) (acalls_of mixed J_atom_May_ok (Nat.le_of_ble_eq_true rfl) ?_); simp only [J_atom_May, wk,eq_self,Nat.reduceEqDiff,reduceCtorEq,↓reduceIte]
  refine ⟨fun h1 => ⟨fun h2 => no ?_, fun h2 => ?_⟩, fun h1 => no ?_⟩
  · have : ¬ s.data.toList.length ≤ 24 := by omega
    unfold mayN mayL; rw [decide_eq_false this]; simp only [Bool.false_and, Bool.and_false]
  rotate_left
  · have : ¬ 1 ≤ s.data.toList.length := by omega
    unfold mayN mayL; rw [decide_eq_false this]; simp only [Bool.false_and]
  refine W_loop (fun m fr h' => ∃ n : Nat, n ≤ s.data.toList.length ∧ m = s.data.toList.length - n ∧ fr = [(0, .str s), (3, .int .i64 n)] ∧ (∀ b ∈ s.data.toList.take n, innI b.toNat = true) ∧ (0 < n → lttI ((s.data.toList.headD 0).toNat) = true)) s.data.toList.length ⟨0, by omega, by omega, rfl, by simp, by simp⟩ ?_
  rintro m fr h' ⟨n, hn, rfl, rfl, hall, hhd⟩
  simp only [J_atom_May_j3, wk,ne_eq,eq_self,Nat.reduceEqDiff,reduceCtorEq,↓reduceIte]
  refine ⟨fun hlt => ⟨⟨by omega, by omega⟩, ?_⟩, fun hge => ?_⟩
  · have hnl : n < s.data.toList.length := by omega
    rw [Int.toNat_natCast, byte_at hnl]
    obtain ⟨b, hb⟩ : ∃ b, b = s.data.toList[n] := ⟨_, rfl⟩
    rw [← hb]
    have hnx : innI b.toNat = true → (n = 0 → lttI b.toNat = true) → inR ((n : Int) + 1) ∧ ∃ m, m < s.data.toList.length - n ∧ ∃ n' : Nat, n' ≤ s.data.toList.length ∧ m = s.data.toList.length - n' ∧ [(0, AV.str s), (3, .int .i64 ((n : Int) + 1))] = [(0, .str s), (3, .int .i64 n')] ∧ (∀ b ∈ s.data.toList.take n', innI b.toNat = true) ∧ (0 < n' → lttI ((s.data.toList.headD 0).toNat) = true) := fun hi hz =>
      ⟨inR_of (by omega) (by omega), s.data.toList.length - (n + 1), by omega, n + 1, by omega, rfl, by simp, fun c hc => by
        rw [List.take_succ_eq_append_getElem hnl] at hc
        rcases List.mem_append.1 hc with hc | hc
        · exact hall c hc
        · simp at hc; subst hc; rw [hb] at hi; simpa using hi, fun _ => by
        rcases Nat.eq_zero_or_pos n with h0 | h0
        · subst h0; rw [headD_get (by omega), ← hb]; exact hz rfl
        · exact hhd h0⟩
    have hbad : innI b.toNat = false → mayN s = false := fun h => mayL_bad hnl (by rw [← hb]; exact h)
    have hbad0 : n = 0 → lttI b.toNat = false → mayN s = false := fun h0 h => by
      subst h0
      unfold mayN mayL
      rw [headD_get (by omega), ← hb, h]
      simp only [Bool.false_and, Bool.and_false]
    repeat' (first | (with_reducible refine And.intro ?_ ?_) | intro _)
    all_goals first
      | (simp only [J_atom_May_j2, wk,eq_self,reduceCtorEq,↓reduceIte]; exact hnx (by simp [innI, digI, lttI]; omega) (by intro _; simp [lttI]; omega))
      | exact no (hbad (by simp [innI, digI, lttI]; omega))
      | exact no (hbad0 (by omega) (by simp [lttI]; omega))
  · rw [List.take_of_length_le (by omega)] at hall
    simp only [J_atom_May_j1, wk,eq_self,↓reduceIte]
    congr 1
    symm
    unfold mayN mayL
    have h3 := hhd (by omega)
    have h4 : s.data.toList.all (fun b => innI b.toNat) = true := List.all_eq_true.2 hall
    simp only [h3, h4, Bool.and_true, Bool.and_eq_true, decide_eq_true_eq]
    omega
theorem p_rmay01 (s : ByteArray) (hs : s.size ≤ 9223372036854775807) : PCalls Tryz.prog 77 [.str s] (.bool (mayN s)) := by
  have hl := len_size s
  have no : mayN s = false → AV.bool false = .bool (mayN s) := fun h => by rw [h]
  refine pcalls_of (by first | rfl | simp [free, free.frees, frees_str, frees_u8, frees_u16]) (by first | rfl | simp [free, free.frees, frees_str, frees_u8, frees_u16]) (acalls_of mixed J_ref01_May_ok (Nat.le_of_ble_eq_true rfl) ?_); simp only [J_ref01_May, wk,eq_self,Nat.reduceEqDiff,reduceCtorEq,↓reduceIte]
  refine ⟨fun h1 => ⟨fun h2 => no ?_, fun h2 => ?_⟩, fun h1 => no ?_⟩
  · have : ¬ s.data.toList.length ≤ 24 := by omega
    unfold mayN mayL; rw [decide_eq_false this]; simp only [Bool.false_and, Bool.and_false]
  rotate_left
  · have : ¬ 1 ≤ s.data.toList.length := by omega
    unfold mayN mayL; rw [decide_eq_false this]; simp only [Bool.false_and]
  refine W_loop (fun m fr h' => ∃ n : Nat, n ≤ s.data.toList.length ∧ m = s.data.toList.length - n ∧ fr = [(0, .str s), (3, .int .i64 n)] ∧ (∀ b ∈ s.data.toList.take n, innI b.toNat = true) ∧ (0 < n → lttI ((s.data.toList.headD 0).toNat) = true)) s.data.toList.length ⟨0, by omega, by omega, rfl, by simp, by simp⟩ ?_
  rintro m fr h' ⟨n, hn, rfl, rfl, hall, hhd⟩
  simp only [J_ref01_May_j2, wk,ne_eq,eq_self,Nat.reduceEqDiff,reduceCtorEq,↓reduceIte]
  refine ⟨fun hlt => ⟨⟨by omega, by omega⟩, ?_⟩, fun hge => ?_⟩
  · have hnl : n < s.data.toList.length := by omega
    rw [Int.toNat_natCast, byte_at hnl]
    obtain ⟨b, hb⟩ : ∃ b, b = s.data.toList[n] := ⟨_, rfl⟩
    rw [← hb]
    have hnx : innI b.toNat = true → (n = 0 → lttI b.toNat = true) → inR ((n : Int) + 1) ∧ ∃ m, m < s.data.toList.length - n ∧ ∃ n' : Nat, n' ≤ s.data.toList.length ∧ m = s.data.toList.length - n' ∧ [(0, AV.str s), (3, .int .i64 ((n : Int) + 1))] = [(0, .str s), (3, .int .i64 n')] ∧ (∀ b ∈ s.data.toList.take n', innI b.toNat = true) ∧ (0 < n' → lttI ((s.data.toList.headD 0).toNat) = true) := fun hi hz =>
      ⟨inR_of (by omega) (by omega), s.data.toList.length - (n + 1), by omega, n + 1, by omega, rfl, by simp, fun c hc => by
        rw [List.take_succ_eq_append_getElem hnl] at hc
        rcases List.mem_append.1 hc with hc | hc
        · exact hall c hc
        · simp at hc; subst hc; rw [hb] at hi; simpa using hi, fun _ => by
        rcases Nat.eq_zero_or_pos n with h0 | h0
        · subst h0; rw [headD_get (by omega), ← hb]; exact hz rfl
        · exact hhd h0⟩
    have hbad : innI b.toNat = false → mayN s = false := fun h => mayL_bad hnl (by rw [← hb]; exact h)
    have hbad0 : n = 0 → lttI b.toNat = false → mayN s = false := fun h0 h => by
      subst h0
      unfold mayN mayL
      rw [headD_get (by omega), ← hb, h]
      simp only [Bool.false_and, Bool.and_false]
    repeat' (first | (with_reducible refine And.intro ?_ ?_) | intro _)
    all_goals first
      | exact no (hbad (by simp [innI, digI, lttI]; omega))
      | exact no (hbad0 (by omega) (by simp [lttI]; omega))
      | exact (hnx (by simp [innI, digI, lttI]; omega) (by intro _; simp [lttI]; omega)).1
      | exact (hnx (by simp [innI, digI, lttI]; omega) (by intro _; simp [lttI]; omega)).2
  · rw [List.take_of_length_le (by omega)] at hall
    simp only [J_ref01_May_j1, wk,eq_self,↓reduceIte]
    congr 1
    symm
    unfold mayN mayL
    have h3 := hhd (by omega)
    have h4 : s.data.toList.all (fun b => innI b.toNat) = true := List.all_eq_true.2 hall
    simp only [h3, h4, Bool.and_true, Bool.and_eq_true, decide_eq_true_eq]
    omega
def signsS : ByteArray := ⟨#[61, 44, 59, 60, 62, 33, 63, 42]⟩
theorem find_sign : ∀ n : Fin 256, decide (0 ≤ indexByte signsS.data.toList (UInt8.ofNat n)) = sigB n := by decide +kernel
theorem p_ibyte (s : ByteArray) (c : Int) : PCalls Tryz.prog 156 [.str s, .int .u8 c] (.int .i64 (indexByte s.data.toList c.toNat.toUInt8)) := by
  refine pcalls_of (by first | rfl | simp [free, free.frees, frees_str, frees_u8, frees_u16]) (by first | rfl | simp [free, free.frees, frees_str, frees_u8, frees_u16]) (acalls_of mixed J_internal_stringslite_IndexByte_ok (Nat.le_of_ble_eq_true rfl) ?_); simp only [J_internal_stringslite_IndexByte, wk,eq_self,Nat.reduceEqDiff,Nat.reduceAdd,reduceCtorEq,↓reduceIte]
theorem p_sibyte (s : ByteArray) (c : Int) : PCalls Tryz.prog 152 [.str s, .int .u8 c] (.int .i64 (indexByte s.data.toList c.toNat.toUInt8)) := by
  refine pcalls_of (by first | rfl | simp [free, free.frees, frees_str, frees_u8, frees_u16]) (by first | rfl | simp [free, free.frees, frees_str, frees_u8, frees_u16]) (acalls_of mixed J_strings_IndexByte_ok (Nat.le_of_ble_eq_true rfl) ?_); simp only [J_strings_IndexByte, wk,eq_self,Nat.reduceEqDiff,Nat.reduceAdd,reduceCtorEq,↓reduceIte]
  refine PCalls.use (p_ibyte s c) ?_; simp only [wk,eq_self,↓reduceIte]
theorem p_lindex (s x : ByteArray) (hx : x.size = 1) : PCalls Tryz.prog 146 [.str s, .str x] (.int .i64 (indexByte s.data.toList (byteAt x 0).toUInt8)) := by
  obtain ⟨b, rfl⟩ := one_byte hx
  have e0 : byteAt ⟨#[b]⟩ 0 = b.toNat := rfl
  refine pcalls_of (by first | rfl | simp [free, free.frees, frees_str, frees_u8, frees_u16]) (by first | rfl | simp [free, free.frees, frees_str, frees_u8, frees_u16]) (acalls_of mixed J_internal_stringslite_Index_ok (Nat.le_of_ble_eq_true rfl) ?_); simp only [J_internal_stringslite_Index, wk,eq_self,Nat.reduceEqDiff,Nat.reduceAdd,Int.reduceLE,Int.reduceNeg,reduceCtorEq,↓reduceIte]
  rw [e0]
  have e1 : ((⟨#[b]⟩ : ByteArray).size : Int) = 1 := rfl
  have q := p_ibyte s b.toNat
  rw [Int.toNat_natCast] at q
  refine ⟨fun _ => ⟨fun h => ?_, fun h => ⟨fun _ => ⟨by omega, PCalls.use q ?_⟩, fun h => absurd e1 h⟩⟩, fun h => by omega⟩
  · rw [← h]
    have : b.toNat.toUInt8 = b := by simp
    simp [indexByte, this]
  · simp only [wk,eq_self,↓reduceIte]
theorem p_sindex (s x : ByteArray) (hx : x.size = 1) : PCalls Tryz.prog 129 [.str s, .str x] (.int .i64 (indexByte s.data.toList (byteAt x 0).toUInt8)) := by
  refine pcalls_of (by first | rfl | simp [free, free.frees, frees_str, frees_u8, frees_u16]) (by first | rfl | simp [free, free.frees, frees_str, frees_u8, frees_u16]) (acalls_of mixed J_strings_Index_ok (Nat.le_of_ble_eq_true rfl) ?_); simp only [J_strings_Index, wk,eq_self,Nat.reduceEqDiff,Nat.reduceAdd,reduceCtorEq,↓reduceIte]
  refine PCalls.use (p_lindex s x hx) ?_; simp only [wk,eq_self,↓reduceIte]
theorem sign_find (n : Nat) (h : n < 256) : decide (0 ≤ indexByte signsS.data.toList n.toUInt8) = sigB n := by
  have := find_sign ⟨n, h⟩
  simpa using this
theorem p_contains1 (x : ByteArray) (hx : x.size = 1) : PCalls Tryz.prog 108 [.str signsS, .str x] (.bool (sigB (byteAt x 0))) := by
  obtain ⟨b, rfl⟩ := one_byte hx
  have e0 : byteAt ⟨#[b]⟩ 0 = b.toNat := rfl
  have hf := sign_find b.toNat b.toNat_lt
  refine pcalls_of (by first | rfl | simp [free, free.frees, frees_str, frees_u8, frees_u16]) (by first | rfl | simp [free, free.frees, frees_str, frees_u8, frees_u16]) (acalls_of mixed J_strings_Contains_ok (Nat.le_of_ble_eq_true rfl) ?_); simp only [J_strings_Contains, wk,eq_self,Nat.reduceEqDiff,Nat.reduceAdd,reduceCtorEq,↓reduceIte]
  refine PCalls.use (p_sindex signsS ⟨#[b]⟩ hx) ?_; simp only [wk,eq_self,↓reduceIte]
  rw [e0, ← hf]
theorem p_validRune (r : Int) : PCalls Tryz.prog 153 [.int .i32 r] (.bool ((decide (0 ≤ r) && decide (r < 55296)) || (decide (57343 < r) && decide (r ≤ 1114111)))) := by
  refine pcalls_of (by first | rfl | simp [free, free.frees, frees_str, frees_u8, frees_u16]) (by first | rfl | simp [free, free.frees, frees_str, frees_u8, frees_u16]) (acalls_of mixed J_unicode_utf8_ValidRune_ok (Nat.le_of_ble_eq_true rfl) ?_); simp only [J_unicode_utf8_ValidRune, wk,eq_self,Nat.reduceEqDiff,reduceCtorEq,↓reduceIte]
  repeat' (first | (with_reducible refine And.intro ?_ ?_) | intro _)
  all_goals (congr 1; simp_all; try omega)
theorem ibyte_no {c : UInt8} (hc : 128 ≤ c.toNat) : ∀ {l : List UInt8}, (∀ b ∈ l, b.toNat < 128) → indexByte l c = -1
  | [], _ => rfl
  | b :: l, h => by
    have h1 := h b (by simp)
    have h2 := ibyte_no hc (l := l) (fun x hx => h x (by simp [hx]))
    have h3 : (b == c) = false := by
      rw [beq_eq_false_iff_ne]; intro e; subst e; omega
    simp [indexByte, h2, h3]
theorem enc_hi {r : Int} (h0 : 128 ≤ r) (h1 : r ≤ 1114111) (hv : Utf8.valid r = true) : 2 ≤ (Utf8.encode r).size ∧ (Utf8.encode r).size ≤ 4 ∧ 128 ≤ byteAt (Utf8.encode r) ((Utf8.encode r).size - 1) ∧ byteAt (Utf8.encode r) ((Utf8.encode r).size - 1) < 256 := by
  have e : (if Utf8.valid r = true then r.toNat else Utf8.runeError) = r.toNat := if_pos hv
  have h80 : ∀ n : Nat, 128 ≤ (UInt8.ofNat (128 + n % 64)).toNat ∧ (UInt8.ofNat (128 + n % 64)).toNat < 256 := fun n => by
    rw [UInt8.toNat_ofNat']; omega
  unfold Utf8.encode
  simp only [e]
  rw [if_neg (by omega)]
  split
  · exact ⟨Nat.le_of_ble_eq_true rfl, Nat.le_of_ble_eq_true rfl, h80 _⟩
  · split
    · exact ⟨Nat.le_of_ble_eq_true rfl, Nat.le_of_ble_eq_true rfl, h80 _⟩
    · exact ⟨Nat.le_of_ble_eq_true rfl, Nat.le_of_ble_eq_true rfl, h80 _⟩
theorem signs_lo : ∀ b ∈ signsS.data.toList, b.toNat < 128 := by decide
theorem p_indexRune (r : Int) (h0 : 0 ≤ r) (h1 : r ≤ 1114111) (hv : 128 ≤ r → Utf8.valid r = true) : PCalls Tryz.prog 142 [.str signsS, .int .i32 r] (.int .i64 (if r < 128 then indexByte signsS.data.toList r.toNat.toUInt8 else -1)) := by
  refine pcalls_of (by first | rfl | simp [free, free.frees, frees_str, frees_u8, frees_u16]) (by first | rfl | simp [free, free.frees, frees_str, frees_u8, frees_u16]) (acalls_of mixed J_strings_IndexRune_ok (Nat.le_of_ble_eq_true rfl) ?_); simp only [J_strings_IndexRune, wk,eq_self,Nat.reduceEqDiff,Nat.reduceAdd,Int.reduceNeg,reduceCtorEq,↓reduceIte]
  refine ⟨fun _ => ⟨fun hlt => ?_, fun hge => ⟨fun h65 => ?_, fun h65 => ?_⟩⟩, fun hn => absurd h0 hn⟩
  · have hw : IntKind.u8.wrap r = r := by rw [IntKind.wrap_u8]; omega
    rw [hw]
    refine PCalls.use (p_sibyte signsS r) ?_; simp only [wk,eq_self,Int.reduceNeg,↓reduceIte]
    rw [if_pos hlt]
  · rw [if_neg hge]
    refine W_loop (fun m fr h' => ∃ p : Nat, p ≤ signsS.data.toList.length ∧ m = signsS.data.toList.length - p ∧ fr = [(175, .itr signsS p)]) 8 ⟨0, by omega, by decide, rfl⟩ ?_
    rintro m fr h' ⟨p, hp, rfl, rfl⟩
    have hl := len_size signsS
    simp only [J_strings_IndexRune_j2, wk,eq_self,Nat.reduceEqDiff,Int.reduceNeg,↓reduceIte]
    refine ⟨fun hlt => ?_, fun hge2 => ?_⟩
    · have hpl : p < signsS.data.toList.length := by omega
      have hlo := signs_lo _ (List.getElem_mem hpl)
      rw [dec_lt hpl hlo]
      refine ⟨fun h => ?_, fun _ => ?_⟩
      · exfalso; simp only at h; omega
      · exact ⟨signsS.data.toList.length - (p + 1), by omega, p + 1, by omega, rfl, rfl⟩
    · simp only [J_strings_IndexRune_j1, wk,eq_self,Int.reduceNeg,↓reduceIte]
  · rw [if_neg hge]
    have hv' := hv (by omega)
    have qv := p_validRune r
    rw [show ((decide (0 ≤ r) && decide (r < 55296)) || (decide (57343 < r) && decide (r ≤ 1114111))) = true by
      unfold Utf8.valid at hv'
      simp only [Bool.or_eq_true, Bool.and_eq_true, decide_eq_true_eq] at hv' ⊢
      omega] at qv
    obtain ⟨g1, g2, g3, g4⟩ := enc_hi (by omega) h1 hv'
    obtain ⟨E, hE⟩ : ∃ E, E = Utf8.encode r := ⟨_, rfl⟩
    rw [← hE] at g1 g2 g3 g4
    refine PCalls.use (qv) ?_; simp only [wk,eq_self,Nat.reduceEqDiff,Int.reduceNeg,reduceCtorEq,↓reduceIte]
    rw [← hE]
    refine ⟨inR_of (by omega) (by omega), ?_⟩
    refine W_loop (fun m fr h' => fr = [(0, .str signsS), (7, .str E), (8, .int .i64 (E.size - 1)), (9, .int .i64 (E.size - 1))]) 0 rfl ?_
    rintro m fr h' rfl
    have hs8 : signsS.size = 8 := rfl
    have hl := len_size signsS
    have e1 : ((E.size : Int) - 1).toNat = E.size - 1 := by omega
    have e2 : ((E.size : Int) - 1 + 1).toNat = E.size := by omega
    have hlo := signs_lo _ (List.getElem_mem (show E.size - 1 < signsS.data.toList.length by omega))
    have hne : ((byteAt signsS (E.size - 1) : Nat) : Int) ≠ (byteAt E (E.size - 1) : Nat) := by
      rw [byte_at (show E.size - 1 < signsS.data.toList.length by omega)]; omega
    simp only [J_strings_IndexRune_j12, e1, e2, hs8, hne, wk,ne_eq,eq_self,Nat.reduceEqDiff,Int.reduceNeg,reduceCtorEq,↓reduceIte]
    have qi := p_sibyte (signsS.extract E.size ((8 : Nat) : Int).toNat) (byteAt E (E.size - 1))
    rw [ibyte_no (by rw [Int.toNat_natCast]; rw [show (byteAt E (E.size - 1)).toUInt8.toNat = byteAt E (E.size - 1) by simp; omega]; exact g3) (fun b hb => by
      refine signs_lo b ?_
      simp only [ByteArray.data_extract, Array.toList_extract, List.extract_eq_take_drop] at hb
      exact List.mem_of_mem_drop (List.mem_of_mem_take hb))] at qi
    refine ⟨fun _ => ⟨⟨by omega, by omega⟩, ⟨by omega, by omega⟩, inR_of (by omega) (by omega), ⟨by omega, by omega, by omega⟩, ⟨by omega, by omega⟩, _, qi, ?_⟩, fun h => absurd (by omega) h⟩
    simp only [wk,eq_self,Nat.reduceEqDiff,Int.reduceLT,Int.reduceNeg,reduceCtorEq,↓reduceIte]
theorem p_containsRune (r : Int) (h0 : 0 ≤ r) (h1 : r ≤ 1114111) (hv : 128 ≤ r → Utf8.valid r = true) : PCalls Tryz.prog 116 [.str signsS, .int .i32 r] (.bool (sigB r.toNat)) := by
  refine pcalls_of (by first | rfl | simp [free, free.frees, frees_str, frees_u8, frees_u16]) (by first | rfl | simp [free, free.frees, frees_str, frees_u8, frees_u16]) (acalls_of mixed J_strings_ContainsRune_ok (Nat.le_of_ble_eq_true rfl) ?_); simp only [J_strings_ContainsRune, wk,eq_self,Nat.reduceEqDiff,Nat.reduceAdd,reduceCtorEq,↓reduceIte]
  refine PCalls.use (p_indexRune r h0 h1 hv) ?_; simp only [wk,eq_self,Int.reduceNeg,↓reduceIte]
  by_cases hlt : r < 128
  · rw [if_pos hlt]
    have := sign_find r.toNat (by omega)
    rw [this]
  · rw [if_neg hlt]
    have : sigB r.toNat = false := by simp [sigB]; omega
    rw [this]
    rfl
end Go.Proofs.YtedaffmkpljlnaaGreat

/- How a token is written: the program's Word, and the reference's. -/
namespace Go.Proofs.YtedaffmkpljlnaaGreat
set_option linter.unusedSimpArgs false
set_option linter.unusedVariables false
open Go.RowKit Go.Lib

theorem stop_all {q : Int → Bool} {l : List UInt8} : (stopN q l = l.length) ↔ l.all (fun b => q b.toNat) = true := by
  rw [List.all_eq_true]
  constructor
  · intro h b hb
    obtain ⟨i, hi, rfl⟩ := List.mem_iff_getElem.1 hb
    exact stopN_at hi (by omega)
  · intro h
    unfold stopN
    exact tw_len (Nat.le_refl _) (by rw [List.take_length]; exact h) (fun h => by omega)
theorem p_number (s : ByteArray) (hs : s.size ≤ 1000000) : PCalls Tryz.prog 107 [.str s] (.bool (numW s)) := by
  have hl := len_size s
  have q := p_stop (f := 117) p_digit hi_dig s 0 hs (by omega)
  rw [List.drop_zero] at q
  have hst := stop_all (q := digI) (l := s.data.toList)
  have no : numW s = false → AV.bool false = .bool (numW s) := fun h => by rw [h]
  refine pcalls_of (by first | rfl | simp [free, free.frees, frees_str, frees_u8, frees_u16]) (by first | rfl | simp [free, free.frees, frees_str, frees_u8, frees_u16]) (acalls_of mixed J_token_number_ok (Nat.le_of_ble_eq_true rfl) ?_); simp only [J_token_number, wk,eq_self,Nat.reduceEqDiff,Int.reduceLE,reduceCtorEq,↓reduceIte]
  have fin : (1 ≤ s.size ∧ s.size ≤ 9 ∧ (byteAt s 0 ≠ 48 ∨ s.size = 1)) → ∀ x : Int, x = (0 : Nat) + (stopN digI s.data.toList : Nat) → AV.bool (decide (x = s.size)) = .bool (numW s) := by
    rintro ⟨h1, h2, h3⟩ x rfl
    congr 1
    unfold numW
    rw [Bool.eq_iff_iff]
    simp only [decide_eq_true_eq, Bool.and_eq_true, Bool.or_eq_true]
    rw [← hst]
    omega
  repeat' (first | (refine PCalls.use q ?_; simp only [wk,eq_self,Nat.reduceEqDiff,reduceCtorEq,↓reduceIte]) | (with_reducible refine And.intro ?_ ?_) | intro _)
  all_goals first
    | omega
    | exact fin (by omega) _ rfl
    | (apply no; unfold numW; simp_all; done)
    | (apply no; unfold numW; simp_all; omega)
def atomWk (o : Int) (w : ByteArray) : ByteArray :=
  if o = 0 then (if w = ⟨#[68]⟩ then w else ⟨#[]⟩)
  else if mayN w = true then (if o = 1 ∨ o = 2 ∨ o = 4 ∨ o = 5 then preW o ++ w else if o = 3 ∧ keyW w = 0 then w else ⟨#[]⟩) else ⟨#[]⟩
def wordT (k : Int) (w : ByteArray) (o : Int) : ByteArray :=
  if k = 1 then atomWk o w
  else if o ≠ 0 then ⟨#[]⟩
  else if k = 8 then (if numW w = true then w else ⟨#[]⟩)
  else if k = 9 then (if sigW w = true then w else ⟨#[]⟩)
  else if w ≠ ⟨#[]⟩ then ⟨#[]⟩
  else if k = 2 then ⟨#[97, 110, 100]⟩
  else if k = 3 then ⟨#[102, 111, 114]⟩
  else if k = 5 then ⟨#[97, 115]⟩
  else if k = 4 then ⟨#[124]⟩
  else if k = 6 then ⟨#[40]⟩
  else if k = 7 then ⟨#[41]⟩
  else ⟨#[]⟩
theorem p_atomWord (o : Int) (w : ByteArray) (hw : w.size ≤ 1000000) : PCalls Tryz.prog 106 [.int .i64 o, .str w] (.str (atomWk o w)) := by
  have qm := p_amay w (by omega)
  have qk := p_keyword w
  refine pcalls_of (by first | rfl | simp [free, free.frees, frees_str, frees_u8, frees_u16]) (by first | rfl | simp [free, free.frees, frees_str, frees_u8, frees_u16]) (acalls_of mixed J_token_atomWord_ok (Nat.le_of_ble_eq_true rfl) ?_); simp only [J_token_atomWord, wk,eq_self,Nat.reduceEqDiff,Nat.reduceAdd,reduceCtorEq,↓reduceIte]
  repeat' (first | (refine PCalls.use qm ?_; simp only [wk,eq_self,Nat.reduceEqDiff,reduceCtorEq,↓reduceIte]) | (refine PCalls.use qk ?_; simp only [wk,eq_self,Nat.reduceEqDiff,↓reduceIte]) | (with_reducible refine And.intro ?_ ?_) | intro _)
  all_goals first
    | (simp only [J_token_atomWord_j1, wk,eq_self,↓reduceIte]; congr 1; unfold atomWk; simp_all; done)
    | (congr 1; unfold atomWk preW; simp_all; done)
    | exact (show ∀ n : Nat, n ≤ 6 → n + w.size ≤ 9223372036854775807 from fun n h => by omega) _ (Nat.le_of_ble_eq_true rfl)
theorem sigW_one {w : ByteArray} (h : w.size = 1) : sigW w = sigB (byteAt w 0) := by unfold sigW; simp [h]
theorem p_word (k : Int) (w : ByteArray) (o a : Int) (hw : w.size ≤ 1000000) : PCalls Tryz.prog 69 [.agg [.int .i64 k, .str w, .int .i64 o, .int .i64 a]] (.str (wordT k w o)) := by
  have qa := p_atomWord o w hw
  have qn := p_number w hw
  refine pcalls_of (by first | rfl | simp [free, free.frees, frees_str, frees_u8, frees_u16]) (by first | rfl | simp [free, free.frees, frees_str, frees_u8, frees_u16]) (acalls_of mixed J_token_Word_ok (Nat.le_of_ble_eq_true rfl) ?_); simp only [J_token_Word, wk,ne_eq,eq_self,Nat.reduceEqDiff,↓reduceIte]
  repeat' (first | (refine PCalls.use qa ?_; simp only [wk,eq_self,↓reduceIte]) | (refine PCalls.use qn ?_; simp only [wk,eq_self,Nat.reduceEqDiff,↓reduceIte]) | (refine PCalls.use (p_contains1 w (by omega)) ?_; simp only [wk,eq_self,Nat.reduceEqDiff,↓reduceIte]) | (with_reducible refine And.intro ?_ ?_) | intro _)
  all_goals first
    | (congr 1; unfold wordT; simp_all; done)
    | (congr 1; unfold wordT; rw [sigW_one (by omega)]; simp_all; done)
    | (congr 1; unfold wordT sigW; simp_all; done)
    | (have hz : ¬ w.size = 1 := by omega
       congr 1; unfold wordT sigW; simp_all; done)
theorem preW_size (o : Int) : (preW o).size ≤ 6 := by
  unfold preW
  repeat' split
  all_goals decide
theorem ba_empty (w : ByteArray) : (⟨#[]⟩ : ByteArray) ++ w = w := by
  apply ByteArray.ext; apply Array.ext'; simp
theorem word_atom {k : Int} {w : ByteArray} {o : Int} (h1 : k = 1) (h2 : mayN w = true) (h3 : 1 ≤ o) (h4 : o ≤ 5) (h5 : o = 3 → keyW w = 0) : preW o ++ w = wordT k w o := by
  subst h1
  rcases (show o = 1 ∨ o = 2 ∨ o = 3 ∨ o = 4 ∨ o = 5 by omega) with rfl | rfl | rfl | rfl | rfl
  all_goals simp [wordT, atomWk, h2, preW, ba_empty]
  exact (fun h => absurd (h5 rfl) h)
theorem word_atom3 {k : Int} {w : ByteArray} {o : Int} (h1 : k = 1) (h2 : mayN w = true) (h3 : o = 3) (h5 : ¬ keyW w = 0) : (⟨#[]⟩ : ByteArray) = wordT k w o := by
  subst h1; subst h3
  simp [wordT, atomWk, h2, h5]
theorem word_none {k : Int} {w : ByteArray} {o : Int} (h1 : k = 1) (h0 : ¬ o = 0) (h2 : o < 1 ∨ 5 < o) : (⟨#[]⟩ : ByteArray) = wordT k w o := by
  subst h1
  have e1 : ¬ o = 1 := by omega
  have e2 : ¬ o = 2 := by omega
  have e3 : ¬ o = 3 := by omega
  have e4 : ¬ o = 4 := by omega
  have e5 : ¬ o = 5 := by omega
  simp [wordT, atomWk, h0, e1, e2, e3, e4, e5]
theorem word_far {k : Int} {w : ByteArray} {o : Int} (h1 : ¬ k = 1) (h2 : ¬ k = 8) (h3 : ¬ k = 9) (h4 : k < 2 ∨ 7 < k) : (⟨#[]⟩ : ByteArray) = wordT k w o := by
  have e2 : ¬ k = 2 := by omega
  have e3 : ¬ k = 3 := by omega
  have e4 : ¬ k = 4 := by omega
  have e5 : ¬ k = 5 := by omega
  have e6 : ¬ k = 6 := by omega
  have e7 : ¬ k = 7 := by omega
  simp [wordT, h1, h2, h3, e2, e3, e4, e5, e6, e7]
theorem word_key {k : Int} {w : ByteArray} {o : Int} {K : AV → Prop} (h0 : o = 0) (hw : w = ⟨#[]⟩) (h1 : 2 ≤ k) (h2 : k ≤ 7) (hK : K (.str (wordT k w o))) :
    loadK none (List.drop (k - 2).toNat [AV.str ⟨#[97, 110, 100]⟩, .str ⟨#[102, 111, 114]⟩, .str ⟨#[124]⟩, .str ⟨#[97, 115]⟩, .str ⟨#[40]⟩, .str ⟨#[41]⟩]) K := by
  subst h0; subst hw
  rcases (show k = 2 ∨ k = 3 ∨ k = 4 ∨ k = 5 ∨ k = 6 ∨ k = 7 by omega) with rfl | rfl | rfl | rfl | rfl | rfl <;> exact hK
theorem p_rword04 (k : Int) (w : ByteArray) (o a : Int) (hw : w.size ≤ 1000000) : PCalls Tryz.prog 41 [.agg [.int .i64 k, .str w, .int .i64 o, .int .i64 a]] (.str (wordT k w o)) := by
  have qm := p_rmay01 w (by omega)
  have qk := p_rkeyword w
  have qn := p_rnumber w hw
  have qs := p_isSign w
  have qp := p_prefix o
  refine pcalls_of (by first | rfl | simp [free, free.frees, frees_str, frees_u8, frees_u16]) (by first | rfl | simp [free, free.frees, frees_str, frees_u8, frees_u16]) (acalls_of mixed J_ref04_Word_ok (Nat.le_of_ble_eq_true rfl) ?_); simp only [J_ref04_Word, wk,eq_self,Nat.reduceEqDiff,Nat.reduceAdd,Nat.reduceLeDiff,↓reduceIte]
  repeat' (first | (refine PCalls.use qm ?_; simp only [wk,eq_self,Nat.reduceEqDiff,↓reduceIte]) | (refine PCalls.use qk ?_; simp only [wk,ne_eq,eq_self,Nat.reduceEqDiff,↓reduceIte]) | (refine PCalls.use qn ?_; simp only [wk,eq_self,Nat.reduceEqDiff,↓reduceIte]) | (refine PCalls.use qs ?_; simp only [wk,eq_self,Nat.reduceEqDiff,↓reduceIte]) | (refine ⟨_, qp, ?_⟩; simp only [wk,eq_self,↓reduceIte]) | (with_reducible refine And.intro ?_ ?_) | intro _)
  all_goals first
    | (congr 1; unfold wordT; simp_all; done)
    | (congr 1; unfold wordT atomWk; simp_all; done)
    | (have := preW_size o; omega)
    | (refine inR_of ?_ ?_ <;> omega)
    | (congr 1; apply word_atom <;> first | assumption | omega | (intro _; first | assumption | omega))
    | (congr 1; apply word_atom3 <;> first | assumption | omega)
    | (congr 1; apply word_none <;> first | assumption | omega)
    | (congr 1; apply word_far <;> first | assumption | omega)
    | (refine word_key (by assumption) (by assumption) (by omega) (by omega) ?_; simp only [wk,eq_self,↓reduceIte])
end Go.Proofs.YtedaffmkpljlnaaGreat

/- Expressions: how closely signs bind; what waits last. -/
-- fast
-- rows
namespace Go.Proofs.YtedaffmkpljlnaaGreat
set_option linter.unusedSimpArgs false
set_option linter.unusedVariables false
open Go.RowKit Go.Lib

def bindP (k : Int) : Int := if k = 1 then 5 else bindK k
theorem bindP_ne {k : Int} (h : k ≠ 1) : bindP k = bindK k := by unfold bindP; rw [if_neg h]
theorem p_bind (k : Int) : PCalls Tryz.prog 86 [.int .i64 k] (.int .i64 (bindP k)) := by
  refine pcalls_of (by first | rfl | simp [free, free.frees, frees_str, frees_u8, frees_u16]) (by first | rfl | simp [free, free.frees, frees_str, frees_u8, frees_u16]) (acalls_of mixed J_expr_bind_ok (Nat.le_of_ble_eq_true rfl) ?_); simp only [J_expr_bind, wk,eq_self,Nat.reduceEqDiff,reduceCtorEq,↓reduceIte]
  repeat' refine And.intro (fun h => ?_) (fun h => ?_)
  all_goals (congr 1; simp_all [bindP, bindK])
def trC (t : Trm) : List AV := [.int .i64 t.op, .int .i64 t.of, .str t.name]
def trsC (l : List Trm) : List AV := l.flatMap trC
def vTrs (l : List Trm) : AV := .lst .ro l.length (trsC l)
abbrev rob (o : Option Value) (r : Rdr) : Option (Bool × List AV) := some (false, [.lst (.own 52) r.out.length (trsC r.out), .stk 3 o r.w.reverse, .int .i64 r.opn, .bool r.beh])
theorem hset1 {h : Hp} {id : Nat} {y : Option (Bool × List AV)} (ho : h[id]? = some y) (x : Option (Bool × List AV)) : (h.set id x)[id]? = some x := by
  have : id < h.length := (List.getElem?_eq_some_iff.1 ho).1
  rw [List.getElem?_set_self this]
theorem hself1 {h : Hp} {id : Nat} {y : Option (Bool × List AV)} (ho : h[id]? = some y) : h.set id y = h := by
  obtain ⟨h1, h2⟩ := List.getElem?_eq_some_iff.1 ho
  rw [← h2, List.set_getElem_self]
theorem rev_last {w : List Int} : w.reverse.getD (w.length - 1) 0 = w.headD 0 := by
  cases w with
  | nil => rfl
  | cons a w => simp
theorem a_top_some {h : Hp} {id : Nat} {x : AV} {rest : List AV} {w : List Int} {v : Value} (ho : h[id]? = some (some (false, x :: .stk 3 (some v) w.reverse :: rest))) (hl : w.length ≤ 1000000) : ACalls Tryz.prog 122 [.ptr id 0] h (fun a h' => a = .int .i64 (w.headD 0) ∧ h' = h) := by
  have hr : w.reverse.length = w.length := List.length_reverse
  refine acalls_of mixed J_expr_reader_top_ok (Nat.le_of_ble_eq_true rfl) ?_; simp only [J_expr_reader_top, wkr,wk,eq_self,reduceCtorEq,↓reduceIte]
  simp only [wkr,wk,eq_self,Nat.reduceEqDiff,reduceCtorEq,↓reduceIte, ho]
  refine ⟨fun h0 => ?_, fun h0 => ⟨inR_of (by omega) (by omega), ⟨by omega, by omega⟩, by omega, ?_⟩⟩
  · have : w = [] := List.eq_nil_of_length_eq_zero (by omega)
    subst this; rfl
  · congr 1
    rw [hr, show ((w.length : Int) - 1).toNat = w.length - 1 by omega, rev_last]
theorem a_top {h : Hp} {id : Nat} {x : AV} {rest : List AV} {w : List Int} {o : Option Value} (ho : h[id]? = some (some (false, x :: .stk 3 o w.reverse :: rest))) (hl : w.length ≤ 1000000) : ACalls Tryz.prog 122 [.ptr id 0] h (fun a h' => a = .int .i64 (w.headD 0) ∧ h' = h) := by
  cases o with
  | some v => exact a_top_some ho hl
  | none =>
    have hr : w.reverse.length = w.length := List.length_reverse
    have hs : ∀ y, (h.set id (some (false, y)))[id]? = some (some (false, y)) := fun y => hset1 ho _
    refine ACalls.unname (off := 1) ho rfl ?_
    refine acalls_of mixed J_expr_reader_top_ok (Nat.le_of_ble_eq_true rfl) ?_; simp only [J_expr_reader_top, wkr,wk,eq_self,reduceCtorEq,↓reduceIte]
    simp only [wk,ho]
    intro v
    simp only [wkr,wk,eq_self,Nat.reduceEqDiff,reduceCtorEq,↓reduceIte, hs]
    refine ⟨fun h0 => ?_, fun h0 => ⟨inR_of (by omega) (by omega), ⟨by omega, by omega⟩, by omega, ?_⟩⟩
    · have : w = [] := List.eq_nil_of_length_eq_zero (by omega)
      subst this; exact ⟨⟨v, rfl⟩, rfl⟩
    · refine ⟨⟨v, rfl⟩, ?_⟩
      congr 1
      rw [hr, show ((w.length : Int) - 1).toNat = w.length - 1 by omega, rev_last]
theorem sameU_stk {h0 h : Hp} {id : Nat} {x : AV} {rest : List AV} {e : TypeId} {o : Option Value} {l : List Int} (hs : SameU h0 h) (ho : h[id]? = some (some (false, x :: .stk e o l :: rest))) : ∃ x' rest', h0[id]? = some (some (false, x' :: .stk e o l :: rest')) := by
  have h1 := congrArg (fun m : List (Option (Bool × List AV)) => m[id]?) hs
  simp only [List.getElem?_map, ho, Option.map_some, unfO, List.map_cons] at h1
  cases h2 : h0[id]? with
  | none => rw [h2] at h1; cases h1
  | some y =>
    rw [h2] at h1
    cases y with
    | none => simp [unfO] at h1
    | some z =>
      obtain ⟨s, c⟩ := z
      simp only [Option.map_some, unfO, Option.some.injEq, Prod.mk.injEq] at h1
      obtain ⟨rfl, h3⟩ := h1
      cases c with
      | nil => simp at h3
      | cons a c =>
        cases c with
        | nil => simp at h3
        | cons b c =>
          simp only [List.map_cons, List.cons.injEq] at h3
          have hb : b = .stk e o l := by
            have h4 := h3.2.1
            cases b <;> simp only [unf] at h4 <;> first | exact h4 | (split at h4 <;> first | cases h4 | exact h4) | cases h4
          subst hb
          exact ⟨a, c, rfl⟩
theorem a_topr {h : Hp} {id : Nat} {x : AV} {rest : List AV} {w : List Int} {o : Option Value} (ho : h[id]? = some (some (false, x :: .stk 3 o w.reverse :: rest))) (hl : w.length ≤ 1000000) : ∀ h0 : Hp, SameU h0 h → ACalls Tryz.prog 122 [.ptr id 0] h0 (fun a h' => a = .int .i64 (w.headD 0) ∧ h' = h0) := fun h0 hs => by
  obtain ⟨x', rest', h2⟩ := sameU_stk hs ho
  exact a_top h2 hl
theorem ACalls.unn {P : Program} {f : FuncId} {args : List AV} {h : Hp} {R : AV → Prop} {id : Nat} {r : Rdr} {y : Option (Bool × List AV)} (hid : h[id]? = some y)
    (hA : ACalls P f args h (fun a h' => R a ∧ ∃ o, h' = h.set id (rob o r))) : ACalls P f args h (fun a h' => R a ∧ h' = h.set id (rob none r)) :=
  ⟨hA.1, fun g w vargs h1 h2 h3 h4 => (hA.2 g w vargs h1 h2 h3 h4).mono fun _ _ ⟨x, a, h', g', q1, q2, q3, q4, q5, q6, q8, o, q7⟩ => by
    have hl := hset1 hid (rob none r)
    refine ⟨x, a, h.set id (rob none r), g', q1, q2, ?_, q4, q5, q6, q8, rfl⟩
    cases o with
    | none => rw [← q7]; exact q3
    | some u =>
      refine Sim.unname (off := 1) (u := u) hl rfl ?_
      rw [List.set_set]
      show Sim P g' (h.set id (rob (some u) r)) _
      rw [← q7]; exact q3⟩
def layR (m : Int) (r : Rdr) : Rdr := ⟨r.out ++ (popL m r.w).map sgn, popR m r.w, r.opn, r.beh⟩
theorem trsC_sn (l : List Trm) (t : Trm) : trsC (l ++ [t]) = trsC l ++ [.int .i64 t.op, .int .i64 t.of, .str t.name] := by simp [trsC, trC]
theorem a_lay {h : Hp} {id : Nat} {r : Rdr} {m : Int} {o : Option Value} (ho : h[id]? = some (rob o r)) (hm : 0 < m) (hw : ∀ k ∈ r.w, k = 6 ∨ 0 < bindK k) (hl : r.w.length ≤ 10000) (hl2 : r.out.length ≤ 100000) : ACalls Tryz.prog 100 [.ptr id 0, .int .i64 m] h (fun a h' => a = .tup [] ∧ h' = h.set id (rob none (layR m r))) := by
  refine ACalls.unn ho ?_
  refine acalls_of mixed J_expr_reader_lay_ok (Nat.le_of_ble_eq_true rfl) ?_; simp only [J_expr_reader_lay, wk,Nat.reduceAdd]
  refine W_loop (fun n fr h' => ∃ (w2 : List Int) (a : List Int) (o : Option Value), n = w2.length ∧ popL m r.w = a ++ popL m w2 ∧ popR m r.w = popR m w2 ∧ a.length + w2.length = r.w.length ∧ (∀ k ∈ w2, k = 6 ∨ 0 < bindK k) ∧ h' = h.set id (rob o ⟨r.out ++ a.map sgn, w2, r.opn, r.beh⟩) ∧ fr = [(0, .ptr id 0), (1, .int .i64 m)]) r.w.length ⟨r.w, [], o, rfl, rfl, rfl, by simp, hw, by simp [hself1 ho], rfl⟩ ?_
  rintro n fr h' ⟨w2, a, o2, rfl, e1, e2, e3, hw2, rfl, rfl⟩
  have ho2 := hset1 ho (rob o2 ⟨r.out ++ a.map sgn, w2, r.opn, r.beh⟩)
  simp only [J_expr_reader_lay_j1, wk,eq_self,↓reduceIte]
  have hws : w2.length ≤ 10000 := by omega
  have hb : bindP (w2.headD 0) = bindK (w2.headD 0) := by
    refine bindP_ne ?_
    cases w2 with
    | nil => decide
    | cons k w2 =>
      have := hw2 k (by simp)
      show k ≠ 1
      rintro rfl
      rcases this with h | h
      · omega
      · rw [bind1] at h; omega
  refine ACalls.use (a_top ho2 (show w2.length ≤ 1000000 by omega)) ?_; rintro _ _ ⟨rfl, rfl⟩; simp only [wk,eq_self,↓reduceIte]
  refine PCalls.use (p_bind (w2.headD 0)) ?_; simp only [wkr,wk,eq_self,Nat.reduceEqDiff,Nat.reduceAdd,Nat.reduceMul,Nat.reduceLeDiff,reduceCtorEq,↓reduceIte]
  simp only [hb]
  have hs : ∀ y z, ((h.set id z).set id (some (false, y)))[id]? = some (some (false, y)) := fun y z => hset1 (hset1 ho z) _
  have hs1 : ∀ y, (h.set id (some (false, y)))[id]? = some (some (false, y)) := fun y => hset1 ho _
  refine ⟨fun hge => ?_, fun hlt => ?_⟩
  · simp only [rob] at ho2
    simp only [wk,eq_self,ho2]
    refine ⟨_, a_topr (hs1 _) (show w2.length ≤ 1000000 by omega), ?_⟩
    have hol : (r.out ++ a.map sgn).length = r.out.length + a.length := by simp
    simp only [wkr,wk,eq_self,Nat.reduceEqDiff,Nat.reduceAdd,Nat.reduceLT,reduceCtorEq,↓reduceIte, hs1]
    refine ⟨⟨by omega, by omega⟩, ?_⟩
    cases w2 with
    | nil => exact absurd hge (by show ¬ m ≤ bindK 0; simp only [bindK]; omega)
    | cons k w3 =>
      have hge : m ≤ bindK k := hge
      have hrl : (k :: w3).reverse.length = w3.length + 1 := by simp
      have hw3 : w3.length + 1 ≤ 10000 := by simpa using hws
      have hrt : (k :: w3).reverse.take w3.length = w3.reverse := by
        have := List.take_left (l₁ := w3.reverse) (l₂ := [k])
        rw [List.length_reverse] at this
        rw [List.reverse_cons]; exact this
      have ht : (((k :: w3).reverse.length : Int) - 1).toNat = w3.length := by omega
      have fin : ∀ v : Value, ∃ m_1, m_1 < (k :: w3).length ∧ ∃ (w2_1 : List Int) (a_1 : List Int) (o : Option Value), m_1 = w2_1.length ∧ popL m r.w = a_1 ++ popL m w2_1 ∧ popR m r.w = popR m w2_1 ∧ a_1.length + w2_1.length = r.w.length ∧ (∀ k ∈ w2_1, k = 6 ∨ 0 < bindK k) ∧ h.set id (some (false, [.lst (.own 52) ((r.out ++ a.map sgn).length + 1) (trsC (r.out ++ a.map sgn) ++ [.int .i64 ((k :: w3).headD 0), .int .i64 0, .str ⟨#[]⟩]), .stk 3 (some v) w3.reverse, .int .i64 r.opn, .bool r.beh])) = h.set id (rob o ⟨r.out ++ a_1.map sgn, w2_1, r.opn, r.beh⟩) := fun v => by
        refine ⟨w3.length, by simp, w3, a ++ [k], some v, rfl, ?_, ?_, ?_, fun q hq => hw2 q (by simp [hq]), ?_⟩
        · rw [e1]; simp [popL, hge]
        · rw [e2]; simp [popR, hge]
        · rw [List.length_cons] at e3; rw [List.length_append, List.length_singleton]; omega
        · rw [List.map_append, ← List.append_assoc, rob]
          simp only [List.map_cons, List.map_nil, trsC_sn, List.length_append, List.length_singleton, List.headD_cons]
          rfl
      cases o2 with
      | none =>
        intro v
        rw [ht, hrt]
        exact ⟨inR_of (by omega) (by omega), ⟨by omega, by omega⟩, by omega, fin _⟩
      | some v =>
        simp only [wkr,wk,eq_self]
        rw [ht, hrt]
        exact ⟨inR_of (by omega) (by omega), ⟨by omega, by omega⟩, by omega, fin _⟩
  · have hp : popL m w2 = [] ∧ popR m w2 = w2 := by
      cases w2 with
      | nil => exact ⟨rfl, rfl⟩
      | cons k w2 =>
        have : ¬ m ≤ bindK k := hlt
        simp [popL, popR, this]
    rw [hp.1, List.append_nil] at e1
    rw [hp.2] at e2
    exact ⟨o2, by unfold layR; rw [e1, e2]⟩
end Go.Proofs.YtedaffmkpljlnaaGreat

/- Expressions: the reader takes a token. -/
-- fast
-- rows
namespace Go.Proofs.YtedaffmkpljlnaaGreat
set_option linter.unusedSimpArgs false
set_option linter.unusedVariables false
open Go.RowKit Go.Lib

theorem frees_trs : ∀ l : List Trm, free.frees (trsC l) = true
  | [] => rfl
  | t :: l => by
    have := frees_trs l
    simp only [trsC, List.flatMap_cons, trC, List.cons_append, List.nil_append, free.frees, free, Bool.true_and] at this ⊢
    exact this
theorem rob_low {n : Nat} {o : Option Value} {r : Rdr} {s : Bool} {l : List AV} (h : rob o r = some (s, l)) : low.lows n l = true := by
  simp only [rob, Option.some.injEq, Prod.mk.injEq] at h
  obtain ⟨_, rfl⟩ := h
  simp [low.lows, low, lows_free (frees_trs r.out)]
theorem trimR {h ex : Hp} {id : Nat} {o : Option Value} {r : Rdr} {a c : Int} (hc : a = c) : ∃ h2 ex', h.set id (rob o r) ++ ex = h2 ++ ex' ∧ h.length ≤ h2.length ∧ low h2.length (.int .i64 a) = true ∧ (∀ (j : Nat) s l, h2[j]? = some (some (s, l)) → (∃ s', h[j]? = some (some (s', l))) ∨ low.lows h2.length l = true) ∧ (.int .i64 a = AV.int .i64 c ∧ ∃ o, h2 = h.set id (rob o r)) := by
  refine ⟨_, ex, rfl, by simp, rfl, fun j s' l' hj => ?_, by rw [hc], o, rfl⟩
  rw [List.getElem?_set] at hj
  split at hj
  · split at hj
    · exact .inr (rob_low (o := o) (r := r) (by simpa using hj))
    · cases hj
  · exact .inl ⟨_, hj⟩
theorem trimR1 {h ex : Hp} {id : Nat} {o : Option Value} {r : Rdr} {a : Int} : ∃ h2 ex', h.set id (rob o r) ++ ex = h2 ++ ex' ∧ h.length ≤ h2.length ∧ low h2.length (.int .i64 a) = true ∧ (∀ (j : Nat) s l, h2[j]? = some (some (s, l)) → (∃ s', h[j]? = some (some (s', l))) ∨ low.lows h2.length l = true) ∧ (∃ o, h2 = h.set id (rob o r)) := by
  obtain ⟨h2, ex', p1, p2, p3, p4, _, p5⟩ := trimR (h := h) (ex := ex) (id := id) (o := o) (r := r) (a := a) (c := a) rfl
  exact ⟨h2, ex', p1, p2, p3, p4, p5⟩
theorem trimR0 {h ex : Hp} {id : Nat} {o : Option Value} {r r' : Rdr} {a c : Int} (ho : h[id]? = some (rob o r)) (hc : c = a ∧ r' = r) : ∃ h2 ex', h ++ ex = h2 ++ ex' ∧ h.length ≤ h2.length ∧ low h2.length (.int .i64 a) = true ∧ (∀ (j : Nat) s l, h2[j]? = some (some (s, l)) → (∃ s', h[j]? = some (some (s', l))) ∨ low.lows h2.length l = true) ∧ (.int .i64 a = AV.int .i64 c ∧ ∃ o, h2 = h.set id (rob o r')) :=
  ⟨h, ex, rfl, Nat.le_refl _, rfl, fun _ s _ hl => .inl ⟨s, hl⟩, by rw [hc.1], o, by rw [hc.2]; exact (hself1 ho).symm⟩
theorem holdE {h : Hp} {id : Nat} {y : Option (Bool × List AV)} (ho : h[id]? = some y) (ex : Hp) : (h ++ ex)[id]? = some y := by
  rw [List.getElem?_append_left (List.getElem?_eq_some_iff.1 ho).1]; exact ho
theorem setlE {h : Hp} {id : Nat} {y : Option (Bool × List AV)} (ho : h[id]? = some y) (ex : Hp) (z : Option (Bool × List AV)) : (h ++ ex).set id z = h.set id z ++ ex :=
  List.set_append_left _ _ (List.getElem?_eq_some_iff.1 ho).1
theorem boxE {h : Hp} {y : Option (Bool × List AV)} : (h ++ [y])[h.length]? = some y := by simp
theorem boxE2 {h : Hp} {id : Nat} {x y z : Option (Bool × List AV)} (ho : h[id]? = some x) : ((h ++ [y]).set id z)[h.length]? = some y := by
  rw [setlE ho, List.getElem?_append_right (by simp), List.length_set, Nat.sub_self]; rfl
theorem rob_eq {o : Option Value} {k : Nat} {l : List AV} {s : List Int} {i : Int} {b : Bool} (r : Rdr) (h1 : k = r.out.length) (h2 : l = trsC r.out) (h3 : s = r.w.reverse) (h4 : i = r.opn) (h5 : b = r.beh) : (some (false, [.lst (.own 52) k l, .stk 3 o s, .int .i64 i, .bool b]) : Option (Bool × List AV)) = rob o r := by
  subst h1; subst h2; subst h3; subst h4; subst h5; rfl
def codeR (r : Rdr) (t : Tok) : Int := match takeR r t with
  | .inl e => e
  | .inr _ => 0
def nextR (r : Rdr) (t : Tok) : Rdr := match takeR r t with
  | .inl _ => r
  | .inr r' => r'
theorem take_inl {r : Rdr} {t : Tok} {e : Int} (h : takeR r t = .inl e) : codeR r t = e ∧ nextR r t = r := by unfold codeR nextR; rw [h]; exact ⟨rfl, rfl⟩
theorem take_inr {r r' : Rdr} {t : Tok} (h : takeR r t = .inr r') : codeR r t = 0 ∧ nextR r t = r' := by unfold codeR nextR; rw [h]; exact ⟨rfl, rfl⟩
theorem a_part {h : Hp} {id : Nat} {r : Rdr} {o : Option Value} {t : Tok} (ho : h[id]? = some (rob o r)) (hb : r.beh = false) (hl : r.w.length ≤ 10000) (hl2 : r.out.length ≤ 100000) (hl3 : r.opn ≤ 10000) : ACalls Tryz.prog 121 [.ptr id 0, .agg (tC t)] h (fun a h' => a = .int .i64 (codeR r t) ∧ h' = h.set id (rob none (nextR r t))) := by
  refine ACalls.unn ho ?_
  obtain ⟨out, w, n, b⟩ := r
  simp only at hb hl hl2 hl3
  subst hb
  have ho1 := holdE ho [some (false, tC t)]
  have hs1 : ∀ z, ((h ++ [some (false, tC t)]).set id z)[id]? = some z := fun z => hset1 ho1 z
  have hbx : (h ++ [some (false, tC t)])[h.length]? = some (some (false, tC t)) := boxE
  have hbx2 : ∀ z, ((h ++ [some (false, tC t)]).set id z)[h.length]? = some (some (false, tC t)) := fun z => boxE2 ho
  have hset := setlE ho [some (false, tC t)]
  have hrl : w.reverse.length = w.length := List.length_reverse
  simp only [tC] at ho1 hs1 hbx hbx2 hset ⊢
  refine ACalls.trim (acalls_of mixed J_expr_reader_part_ok (Nat.le_of_ble_eq_true rfl) ?_); simp only [J_expr_reader_part, hbx, wk,eq_self,Nat.reduceEqDiff,Nat.reduceAdd,reduceCtorEq,↓reduceIte]
  have hid := (List.getElem?_eq_some_iff.1 ho).1
  have n1 : (id = h.length) = False := by simp; omega
  have n2 : (h.length = id) = False := by simp; omega
  refine ⟨fun k1 => ?_, fun k1 => ?_⟩
  · have hfin : ¬ (w.headD 0 = 5 ∧ t.of ≠ 5) → codeR ⟨out, w, n, false⟩ t = 0 ∧ nextR ⟨out, w, n, false⟩ t = ⟨out ++ [leaf t], w, n, true⟩ := fun hn => take_inr (by
      unfold takeR; rw [if_pos rfl, if_pos k1, if_neg hn])
    refine ACalls.use (a_top ho1 (show w.length ≤ 1000000 by omega)) ?_; rintro _ _ ⟨rfl, rfl⟩; simp only [wk,ne_eq,eq_self,Nat.reduceEqDiff,Nat.reduceAdd,Nat.reduceMul,Nat.reduceLeDiff,Nat.reduceLT,reduceCtorEq,↓reduceIte, ho1, hbx, hbx2, hs1, n1, n2]
    refine ⟨fun h5 => ⟨fun h6 => trimR0 ho (take_inl ?_), fun h6 => ?_⟩, fun h5 => ?_⟩
    · unfold takeR; rw [if_pos rfl, if_pos k1, if_pos ⟨h5, h6⟩]
    · obtain ⟨g1, g2⟩ := hfin (fun x => x.2 h6)
      simp only [J_expr_reader_part_j1, wk,eq_self,↓reduceIte]
      refine ⟨⟨by omega, by omega⟩, ?_⟩
      rw [hset, rob_eq ⟨out ++ [leaf t], w, n, true⟩ (by simp) (by simp [trsC_sn, leaf]) rfl rfl rfl, g1, g2]
      exact trimR rfl
    · obtain ⟨g1, g2⟩ := hfin (fun x => h5 x.1)
      simp only [J_expr_reader_part_j1, wk,eq_self,↓reduceIte]
      refine ⟨⟨by omega, by omega⟩, ?_⟩
      rw [hset, rob_eq ⟨out ++ [leaf t], w, n, true⟩ (by simp) (by simp [trsC_sn, leaf]) rfl rfl rfl, g1, g2]
      exact trimR rfl
  · have no : t.kind ≠ 6 ∨ w.headD 0 = 5 → takeR ⟨out, w, n, false⟩ t = .inl 2 := fun hn => by
      unfold takeR
      rw [if_pos rfl, if_neg k1, if_neg (by rintro ⟨a, b⟩; rcases hn with h | h; exact h a; exact b h)]
    refine ⟨fun k6 => ?_, fun k6 => ?_⟩
    · refine ACalls.use (a_top ho1 (show w.length ≤ 1000000 by omega)) ?_; rintro _ _ ⟨rfl, rfl⟩; simp only [wkr,wk,ne_eq,eq_self,Nat.reduceEqDiff,Nat.reduceAdd,Nat.reduceLeDiff,Nat.reduceLT,reduceCtorEq,↓reduceIte, ho1, hs1]
      refine ⟨fun h5 => ⟨fun h1 => trimR0 ho (take_inl ?_), fun h1 => ⟨⟨by omega, by omega⟩, inR_of (by omega) (by omega), ?_⟩⟩, fun h5 => ?_⟩
      · unfold takeR; rw [if_pos rfl, if_neg k1, if_pos ⟨k6, h5⟩, if_pos (by show n = 100; omega)]
      · simp only [J_expr_reader_part_j1, wk,eq_self,↓reduceIte]
        obtain ⟨g1, g2⟩ := take_inr (r := ⟨out, w, n, false⟩) (t := t) (r' := ⟨out, 6 :: w, n + 1, false⟩) (by
          unfold takeR; rw [if_pos rfl, if_neg k1, if_pos ⟨k6, h5⟩, if_neg (by show ¬ n = 100; omega)])
        rw [hset, rob_eq ⟨out, 6 :: w, n + 1, false⟩ rfl rfl (by simp) (by simp) rfl, g1, g2]
        exact trimR rfl
      · exact trimR0 ho (take_inl (no (.inr h5)))
    · exact trimR0 ho (take_inl (no (.inl k6)))
theorem a_take {h : Hp} {id : Nat} {r : Rdr} {o : Option Value} {t : Tok} (ho : h[id]? = some (rob o r)) (hw : rcnt r) (hl : r.w.length ≤ 10000) (hl2 : r.out.length + r.w.length ≤ 10000) (hl3 : r.opn ≤ 10000) : ACalls Tryz.prog 99 [.ptr id 0, .agg (tC t)] h (fun a h' => a = .int .i64 (codeR r t) ∧ h' = h.set id (rob none (nextR r t))) := by
  refine ACalls.unn ho ?_
  obtain ⟨out, w, n, b⟩ := r
  obtain ⟨kd, nm, tf, ta⟩ := t
  simp only at hl hl2 hl3
  have ho1 := holdE ho [some (false, tC ⟨kd, nm, tf, ta⟩)]
  have hs1 : ∀ z, ((h ++ [some (false, tC ⟨kd, nm, tf, ta⟩)]).set id z)[id]? = some z := fun z => hset1 ho1 z
  have hbx : (h ++ [some (false, tC ⟨kd, nm, tf, ta⟩)])[h.length]? = some (some (false, tC ⟨kd, nm, tf, ta⟩)) := boxE
  have hbx2 : ∀ z, ((h ++ [some (false, tC ⟨kd, nm, tf, ta⟩)]).set id z)[h.length]? = some (some (false, tC ⟨kd, nm, tf, ta⟩)) := fun z => boxE2 ho
  have hset := setlE ho [some (false, tC ⟨kd, nm, tf, ta⟩)]
  have hid := (List.getElem?_eq_some_iff.1 ho).1
  have n1 : (id = h.length) = False := by simp; omega
  have n2 : (h.length = id) = False := by simp; omega
  have hpart : b = false → _ := fun hb => a_part (h := h ++ [some (false, tC ⟨kd, nm, tf, ta⟩)]) (t := ⟨kd, nm, tf, ta⟩) ho1 hb hl (by show out.length ≤ _; omega) hl3
  have hlay : ∀ m : Int, 0 < m → _ := fun m hm => a_lay (h := h ++ [some (false, tC ⟨kd, nm, tf, ta⟩)]) (m := m) ho1 hm hw.2 hl (by show out.length ≤ _; omega)
  have hrc : ∀ m, (popR m w).reverse.length = (popR m w).length := fun m => List.length_reverse
  have hrl : ∀ m, (popR m w).length ≤ w.length := fun m => (List.dropWhile_suffix _).length_le
  simp only [tC] at ho1 hs1 hbx hbx2 hset hpart hlay ⊢
  cases b with
  | false =>
    refine ACalls.trim (acalls_of mixed J_expr_reader_take_ok (Nat.le_of_ble_eq_true rfl) ?_); simp only [J_expr_reader_take, ho1, hbx, wk,eq_self,Nat.reduceEqDiff,Nat.reduceAdd,Nat.reduceLeDiff,reduceCtorEq,↓reduceIte]
    refine ACalls.use (hpart rfl) ?_; rintro _ _ ⟨rfl, rfl⟩; simp only [wk,eq_self,↓reduceIte]
    rw [hset]
    exact trimR1
  | true =>
    by_cases hk : 0 < bindK kd
    · have hk1 := bind_pos hk
      obtain ⟨g1, g2⟩ := take_inr (r := ⟨out, w, n, true⟩) (t := ⟨kd, nm, tf, ta⟩) (r' := ⟨out ++ (popL (bindK kd) w).map sgn, kd :: popR (bindK kd) w, n, false⟩) (by
        unfold takeR; rw [if_neg (by simp), if_pos hk])
      have hla := hlay _ hk
      simp only [layR, rob] at hla
      have qb := p_bind kd
      rw [bindP_ne (bind_ne hk).1] at qb
      have hrl2 := hrl (bindK kd)
      have hrc2 := hrc (bindK kd)
      rw [g1, g2]
      rcases hk1 with rfl | rfl | rfl | rfl
      all_goals
        refine ACalls.trim (acalls_of mixed J_expr_reader_take_ok (Nat.le_of_ble_eq_true rfl) ?_); simp only [J_expr_reader_take, ho1, hbx, wk,eq_self,Nat.reduceEqDiff,Nat.reduceAdd,Int.reduceEq,reduceCtorEq,↓reduceIte]
        simp only [J_expr_reader_take_j2, hbx, wk,eq_self,Nat.reduceEqDiff,reduceCtorEq,↓reduceIte]
        refine PCalls.use (qb) ?_; simp only [wk,eq_self,Nat.reduceEqDiff,↓reduceIte]
        refine ACalls.use (hla) ?_; rintro _ _ ⟨rfl, rfl⟩; simp only [wkr,wk,ne_eq,eq_self,Nat.reduceEqDiff,Nat.reduceAdd,Nat.reduceLeDiff,Nat.reduceLT,reduceCtorEq,↓reduceIte, hbx2, hs1, n1, n2]
        simp only [J_expr_reader_take_j1, wk,eq_self,↓reduceIte]
        refine ⟨⟨by omega, by omega⟩, ?_⟩
        rw [hset, rob_eq ⟨out ++ (popL _ w).map sgn, _ :: popR _ w, n, false⟩ rfl rfl List.reverse_cons.symm rfl rfl]
        exact trimR1
    · have nb : ∀ k : Int, 0 < bindK k → (kd = k) = False := fun k hk2 => by simp; rintro rfl; exact hk hk2
      have e2 := nb 2 (by decide)
      have e3 := nb 3 (by decide)
      have e4 := nb 4 (by decide)
      have e5 := nb 5 (by decide)
      by_cases k7 : kd = 7
      · subst k7
        by_cases hn : n = 0
        · subst hn
          obtain ⟨g1, g2⟩ := take_inl (r := ⟨out, w, 0, true⟩) (t := ⟨7, nm, tf, ta⟩) (e := 2) (by unfold takeR; rw [if_neg (by simp), if_neg hk, if_pos rfl, if_pos rfl])
          refine ACalls.trim (acalls_of mixed J_expr_reader_take_ok (Nat.le_of_ble_eq_true rfl) ?_); simp only [J_expr_reader_take, ho1, hbx, wk,eq_self,Nat.reduceEqDiff,Nat.reduceAdd,Int.reduceEq,reduceCtorEq,↓reduceIte]
          simp only [J_expr_reader_take_j2, ho1, (show (((0 : Nat) : Int) = 0) = True by simp), wk,eq_self,Nat.reduceEqDiff,reduceCtorEq,↓reduceIte]
          exact trimR0 ho ⟨g1, g2⟩
        · obtain ⟨g1, g2⟩ := take_inr (r := ⟨out, w, n, true⟩) (t := ⟨7, nm, tf, ta⟩) (r' := ⟨out ++ (popL 1 w).map sgn, (popR 1 w).tail, n - 1, true⟩) (by
            unfold takeR; rw [if_neg (by simp), if_neg hk, if_pos rfl, if_neg hn])
          have hla := hlay 1 (by decide)
          simp only [layR, rob] at hla
          refine ACalls.trim (acalls_of mixed J_expr_reader_take_ok (Nat.le_of_ble_eq_true rfl) ?_); simp only [J_expr_reader_take, ho1, hbx, wk,eq_self,Nat.reduceEqDiff,Nat.reduceAdd,Int.reduceEq,reduceCtorEq,↓reduceIte]
          simp only [J_expr_reader_take_j2, ho1, (show ((n : Int) = 0) = False by simp; omega), wk,eq_self,Nat.reduceEqDiff,reduceCtorEq,↓reduceIte]
          refine ACalls.use (hla) ?_; rintro _ _ ⟨rfl, rfl⟩; simp only [wkr,wk,eq_self,Nat.reduceEqDiff,Nat.reduceAdd,Nat.reduceLeDiff,reduceCtorEq,↓reduceIte, hs1]
          intro v
          obtain ⟨R, e1, _⟩ := popR_close (P := w) (by have := hw.1; simp only at this; omega) hw.2
          have hR := hrl 1
          rw [e1] at hR g2
          rw [List.length_cons] at hR
          have q1 : (6 :: R).reverse.length = R.length + 1 := by simp
          have q2 : (((6 :: R).reverse.length : Int) - 1).toNat = R.length := by omega
          have q3 : (6 :: R).reverse.take R.length = R.reverse := by
            have := List.take_left (l₁ := R.reverse) (l₂ := [6])
            rw [List.length_reverse] at this
            rw [List.reverse_cons]; exact this
          rw [e1, q2, q3]
          refine ⟨inR_of (by omega) (by omega), ⟨by omega, by omega⟩, by omega, inR_of (by omega) (by omega), ?_⟩
          simp only [J_expr_reader_take_j1, wk,eq_self,↓reduceIte]
          rw [hset, rob_eq ⟨out ++ (popL 1 w).map sgn, R, n - 1, true⟩ rfl rfl rfl (by show (n : Int) - 1 = ((n - 1 : Nat) : Int); omega) rfl, g1, g2]
          exact trimR rfl
      · have e7 : (kd = 7) = False := by simpa using k7
        refine ACalls.trim (acalls_of mixed J_expr_reader_take_ok (Nat.le_of_ble_eq_true rfl) ?_); simp only [J_expr_reader_take, ho1, hbx, e2, e3, e4, e5, wk,eq_self,Nat.reduceEqDiff,Nat.reduceAdd,reduceCtorEq,↓reduceIte]
        simp only [J_expr_reader_take_j2, e7, wk,eq_self,Nat.reduceEqDiff,reduceCtorEq,↓reduceIte]
        exact trimR0 ho (take_inl (by unfold takeR; rw [if_neg (by simp), if_neg hk, if_neg k7]))
end Go.Proofs.YtedaffmkpljlnaaGreat

/- Expressions: Read. -/
-- fast
-- rows
namespace Go.Proofs.YtedaffmkpljlnaaGreat
set_option linter.unusedSimpArgs false
set_option linter.unusedVariables false
open Go.RowKit Go.Lib

def wdB (t : Tok) : Bool := !decide (wordT t.kind t.name t.of = ⟨#[]⟩)
def resX (r : List Trm × Nat × Int) : AV := .tup [vTrs r.1, .int .i64 r.2.1, .int .i64 r.2.2]
theorem free_resX (r : List Trm × Nat × Int) : free (resX r) = true := by simp [resX, vTrs, free, free.frees, frees_trs]
theorem rdps_trs : ∀ l : List Trm, rdps (trsC l) = trsC l
  | [] => rdps_nil
  | x :: l => by
    have := rdps_trs l
    simp only [trsC, List.flatMap_cons, trC, List.cons_append, List.nil_append, rdpw] at this ⊢
    rw [this]
theorem take_size {r r' : Rdr} {t : Tok} (h : takeR r t = .inr r') : r'.out.length + r'.w.length ≤ r.out.length + r.w.length + 1 := by
  have key : ∀ m, (popL m r.w).length + (popR m r.w).length = r.w.length := fun m => by
    rw [← List.length_append, popL, popR, List.takeWhile_append_dropWhile]
  unfold takeR at h
  split at h
  · split at h
    · split at h
      · cases h
      · simp only [Sum.inr.injEq] at h; subst h; simp; omega
    · split at h
      · split at h
        · cases h
        · simp only [Sum.inr.injEq] at h; subst h; simp; omega
      · cases h
  · split at h
    · simp only [Sum.inr.injEq] at h; subst h
      have := key (bindK t.kind)
      simp only [List.length_append, List.length_map, List.length_cons]; omega
    · split at h
      · split at h
        · cases h
        · simp only [Sum.inr.injEq] at h; subst h
          have := key 1
          simp only [List.length_append, List.length_map, List.length_tail]; omega
      · cases h
theorem rcnt_le {r : Rdr} (h : rcnt r) : r.opn ≤ r.w.length := by rw [← h.1]; exact List.count_le_length
theorem p_read (l : List Tok) (hl : l.length ≤ 5000) (hn : ∀ t ∈ l, t.name.size ≤ 1000000) : PCalls Tryz.prog 62 [vToks l] (resX (readR wdB l)) := by
  refine pcalls_of (by simp [vToks, free, free.frees, frees_toks]) (free_resX _) (ACalls.deep (acalls_of mixed J_expr_Read_ok (Nat.le_of_ble_eq_true rfl) ?_)); simp only [J_expr_Read, vToks, wk,eq_self,Nat.reduceEqDiff,reduceCtorEq,↓reduceIte]
  refine W_loop (fun m fr h' => ∃ i : Nat, i ≤ l.length ∧ m = l.length - i ∧ (∀ j (hj : j < l.length), j < i → wdB l[j] = true) ∧ fr = [(0, .lst .ro l.length (toksC l)), (11, .lst .ro l.length (toksC l)), (12, .int .i64 l.length), (13, .int .i64 i)]) l.length ⟨0, by omega, by omega, fun j _ h => by omega, rfl⟩ ?_
  rintro m fr h' ⟨i, hi, rfl, hw, rfl⟩
  simp only [J_expr_Read_j4, wk,eq_self,Nat.reduceEqDiff,Nat.reduceAdd,Nat.reduceLeDiff,reduceCtorEq,↓reduceIte]
  refine ⟨fun hlt => ?_, fun hge => ?_⟩
  · have hil : i < l.length := by omega
    have hd : (toksC l).drop ((i : Int).toNat * 4) = _ := toksC_drop hil
    have qw := p_word l[i].kind l[i].name l[i].of l[i].at_ (hn _ (List.getElem_mem hil))
    refine ⟨⟨by omega, by omega⟩, ?_⟩
    simp only [wk,eq_self,Nat.reduceAdd,Nat.reduceLeDiff,hd]
    refine PCalls.use (qw) ?_; simp only [wk,eq_self,Nat.reduceEqDiff,reduceCtorEq,↓reduceIte]
    refine ⟨fun h0 => ?_, fun h0 => ⟨inR_of (by omega) (by omega), l.length - (i + 1), by omega, i + 1, by omega, rfl, fun j hj hji => ?_, rfl⟩⟩
    · have hf : l.findIdx? (fun t => !wdB t) = some i := by
        rw [List.findIdx?_eq_some_iff_getElem]
        refine ⟨hil, by simp [wdB, h0], fun j hj => ?_⟩
        rw [hw j (by omega) hj]; simp
      unfold readR
      rw [hf]
      simp only [rdpw, resX, vTrs]
      rfl
    · rcases Nat.lt_or_ge j i with h1 | h1
      · exact hw j hj h1
      · obtain rfl : j = i := by omega
        simpa [wdB] using h0
  · have hall : ∀ t ∈ l, wdB t = true := fun t ht => by
      obtain ⟨j, hj, rfl⟩ := List.mem_iff_getElem.1 ht
      exact hw j hj (by omega)
    have hr0 := runR_eq l 0 false ⟨[], [], 0, false⟩ (fun _ => by simp)
    rw [readR_acc hall]
    simp only [J_expr_Read_j3, wkr,wk,eq_self,Nat.reduceEqDiff,reduceCtorEq,↓reduceIte]
    obtain ⟨id, hid⟩ : ∃ id, id = h'.length := ⟨_, rfl⟩
    rw [← hid]
    refine W_loop (fun m fr h'' => ∃ (i : Nat) (r : Rdr), i ≤ l.length ∧ m = l.length - i ∧ runR 0 ⟨[], [], 0, false⟩ l = runR i r (l.drop i) ∧ rcnt r ∧ r.out.length + r.w.length ≤ i ∧ h''[id]? = some (rob none r) ∧ fr = [(0, .lst .ro l.length (toksC l)), (7, .ptr id 0), (23, .lst .ro l.length (toksC l)), (24, .int .i64 l.length), (25, .int .i64 i)]) l.length ⟨0, ⟨[], [], 0, false⟩, by omega, by omega, rfl, ⟨rfl, by simp⟩, by simp, by rw [hid]; exact boxE, rfl⟩ ?_
    rintro m fr h'' ⟨i2, r, hi2, rfl, hrun, hrc, hsz, hob, rfl⟩
    simp only [J_expr_Read_j2, wk,eq_self,Nat.reduceEqDiff,Nat.reduceAdd,Nat.reduceLeDiff,reduceCtorEq,↓reduceIte]
    refine ⟨fun hlt => ?_, fun hge2 => ?_⟩
    · have hil : i2 < l.length := by omega
      have hd : (toksC l).drop ((i2 : Int).toNat * 4) = _ := toksC_drop hil
      refine ⟨⟨by omega, by omega⟩, ?_⟩
      have htk := fun ex => a_take (t := l[i2]) (holdE hob ex) hrc (by omega) (by omega) (by have := rcnt_le hrc; omega)
      simp only [tC] at htk
      rw [List.drop_eq_getElem_cons hil] at hrun
      simp only [runR] at hrun
      simp only [wk,eq_self,Nat.reduceAdd,Nat.reduceLeDiff,hd]
      refine ACalls.use (htk _) ?_; rintro _ _ ⟨rfl, rfl⟩; simp only [wk,ne_eq,eq_self,Nat.reduceEqDiff,reduceCtorEq,↓reduceIte]
      cases ht : takeR r l[i2] with
      | inl e =>
        rw [ht] at hrun
        simp only at hrun
        rw [hrun] at hr0
        obtain ⟨g1, g2⟩ := take_inl ht
        rw [g1]
        cases hc : ctlE 100 0 false 0 false l with
        | inr y => rw [hc] at hr0; cases hr0
        | inl y =>
          rw [hc] at hr0
          simp only [Sum.inl.injEq] at hr0
          subst hr0
          obtain ⟨_, _, he⟩ := ctlE_lt _ _ _ _ _ _ _ hc
          refine ⟨fun h0 => ?_, fun h0 => absurd h0 (by omega)⟩
          simp only [rdpw, resX, vTrs]
          rfl
      | inr r' =>
        rw [ht] at hrun
        simp only at hrun
        obtain ⟨g1, g2⟩ := take_inr ht
        rw [g1, g2]
        refine ⟨fun h => absurd rfl h, fun _ => ⟨inR_of (by omega) (by omega), l.length - (i2 + 1), by omega, i2 + 1, r', by omega, rfl, hrun, rcnt_take hrc ht, by have := take_size ht; omega, hset1 (holdE hob _) _, rfl⟩⟩
    · obtain rfl : i2 = l.length := by omega
      rw [List.drop_length] at hrun
      simp only [runR] at hrun
      rw [hrun] at hr0
      cases hc : ctlE 100 0 false 0 false l with
      | inl y => rw [hc] at hr0; cases hr0
      | inr y =>
        obtain ⟨b, n⟩ := y
        rw [hc] at hr0
        simp only [Sum.inr.injEq] at hr0
        obtain ⟨out, w, opn, beh⟩ := r
        simp only [Rdr.mk.injEq] at hr0
        obtain ⟨rfl, rfl, rfl, rfl⟩ := hr0
        have hla := a_lay (m := 1) hob (by decide) hrc.2 (by simp only at hsz ⊢; omega) (by simp only at hsz ⊢; omega)
        have hob2 := hset1 hob (rob none (layR 1 ⟨(srun l ([], [])).1, (srun l ([], [])).2, opn, beh⟩))
        simp only [rob, layR] at hla hob hob2
        have hrd : (srun l ([], [])).1 ++ (popL 1 (srun l ([], [])).2).map sgn = readD l := rfl
        rw [hrd] at hla hob2
        simp only [J_expr_Read_j1, hob, wk,eq_self,Nat.reduceEqDiff,reduceCtorEq,↓reduceIte]
        refine ⟨fun hb => ⟨fun h0 => ?_, fun h0 => ?_⟩, fun hb => ?_⟩
        · rw [if_pos (.inr (by omega))]
          simp only [rdpw, resX, vTrs]
          rfl
        · rw [if_neg (by rw [hb]; simp; omega)]
          refine ACalls.use (hla) ?_; rintro _ _ ⟨rfl, rfl⟩; simp only [wk,eq_self,Nat.reduceEqDiff,reduceCtorEq,↓reduceIte, hob2]
          refine ⟨fun h2 => ?_, fun h2 => ?_⟩
          · rw [if_pos (by omega)]
            simp only [rdpw, resX, vTrs]
            rfl
          · rw [if_neg (by omega)]
            simp only [rdpw, resX, vTrs, rdps_trs]
            rfl
        · rw [if_pos (.inl hb)]
          simp only [rdpw, resX, vTrs]
          rfl
end Go.Proofs.YtedaffmkpljlnaaGreat

/- Expressions: the document's Read. -/
-- fast
-- rows
namespace Go.Proofs.YtedaffmkpljlnaaGreat
set_option linter.unusedSimpArgs false
set_option linter.unusedVariables false
open Go.RowKit Go.Lib

theorem eqTrue {p : Prop} (h : p) : p = True := eq_true h
theorem eqFalse {p : Prop} (h : ¬ p) : p = False := eq_false h
end Go.Proofs.YtedaffmkpljlnaaGreat

/- Expressions: the document's terms, and its Read. -/
-- fast
-- rows
namespace Go.Proofs.YtedaffmkpljlnaaGreat
set_option linter.unusedSimpArgs false
set_option linter.unusedVariables false
open Go.RowKit Go.Lib

theorem srun_size : ∀ (l : List Tok) (s : List Trm × List Int), (srun l s).1.length + (srun l s).2.length ≤ s.1.length + s.2.length + l.length
  | [], s => by simp [srun]
  | t :: l, s => by
    have ih := srun_size l (sstep s t)
    have key : ∀ m, (popL m s.2).length + (popR m s.2).length = s.2.length := fun m => by
      rw [← List.length_append, popL, popR, List.takeWhile_append_dropWhile]
    have h1 : (sstep s t).1.length + (sstep s t).2.length ≤ s.1.length + s.2.length + 1 := by
      unfold sstep
      split
      · simp; omega
      · split
        · simp; omega
        · split
          · have := key 1
            simp only [List.length_append, List.length_map, List.length_tail]; omega
          · have := key (bindK t.kind)
            simp only [List.length_append, List.length_map, List.length_cons]; omega
    show (srun l (sstep s t)).1.length + (srun l (sstep s t)).2.length ≤ _
    rw [List.length_cons]; omega
theorem readD_size (l : List Tok) : (readD l).length ≤ l.length := by
  have h1 := srun_size l ([], [])
  have h2 : (popL 1 (srun l ([], [])).2).length ≤ (srun l ([], [])).2.length := (List.takeWhile_prefix _).length_le
  unfold readD
  simp only [List.length_append, List.length_map, List.length_nil] at h1 ⊢
  omega
end Go.Proofs.YtedaffmkpljlnaaGreat

/- The program's name and sign. -/
namespace Go.Proofs.YtedaffmkpljlnaaGreat
set_option linter.unusedSimpArgs false
set_option linter.unusedVariables false
open Go.RowKit Go.Lib

def colonL (l : List UInt8) : Bool := match l with
  | [] => false
  | b :: _ => b.toNat == 58
def pnameL (l : List UInt8) : Sig :=
  if aheW (ba (l.take (stopN innI l))) ≠ 0 ∧ colonL (l.drop (stopN innI l)) = true then
    (1, ba ((l.drop (stopN innI l + 1)).take (stopN innI (l.drop (stopN innI l + 1)))), aheW (ba (l.take (stopN innI l))), stopN innI l + 1 + stopN innI (l.drop (stopN innI l + 1)))
  else if keyW (ba (l.take (stopN innI l))) ≠ 0 then (keyW (ba (l.take (stopN innI l))), ba [], 0, stopN innI l)
  else (1, ba (l.take (stopN innI l)), 3, stopN innI l)
def sigV (x : Sig) (a : Nat) : AV := .tup [.agg [.int .i64 x.1, .str x.2.1, .int .i64 x.2.2.1, .int .i64 0], .int .i64 (a + x.2.2.2 : Nat)]
theorem p_pname (s : ByteArray) (a : Nat) (hs : s.size ≤ 1000000) (ha : a < s.size) :
    PCalls Tryz.prog 119 [.str s, .int .i64 a] (sigV (pnameL (s.data.toList.drop a)) a) := by
  have hl := len_size s
  obtain ⟨L, hL⟩ : ∃ L, L = s.data.toList.drop a := ⟨_, rfl⟩
  have hLl : L.length = s.size - a := by rw [hL, List.length_drop]; omega
  have hle := stopN_le innI L
  have q1 := p_stop (f := 143) p_inName hi_inn s a hs (by omega)
  rw [← hL] at q1 ⊢
  obtain ⟨m, hm⟩ : ∃ m, m = stopN innI L := ⟨_, rfl⟩
  rw [← hm] at q1 hle
  rw [show ((a : Int) + (m : Nat)) = ((a + m : Nat) : Int) by omega] at q1
  refine pcalls_of (by first | rfl | simp [free, free.frees, frees_str, frees_u8, frees_u16]) (by first | rfl | simp [free, free.frees, frees_str, frees_u8, frees_u16]) (acalls_of mixed J_token_name_ok (Nat.le_of_ble_eq_true rfl) ?_); simp only [J_token_name, wk,eq_self,Nat.reduceEqDiff,Nat.reduceAdd,reduceCtorEq,↓reduceIte]
  refine PCalls.use (q1) ?_; simp only [wk,eq_self,Nat.reduceEqDiff,reduceCtorEq,↓reduceIte]
  have hw : s.extract a (a + m) = ba (L.take m) := by rw [ext_ba, ← hL]
  simp only [Int.toNat_natCast, hw]
  refine ⟨⟨by omega, by omega, by omega⟩, ?_⟩
  refine PCalls.use (p_ahead (ba (L.take m))) ?_; simp only [wk,ne_eq,eq_self,Nat.reduceEqDiff,reduceCtorEq,↓reduceIte]
  have hcol : colonL (L.drop m) = true ↔ (a + m < s.size ∧ byteAt s (a + m) = 58) := by
    rcases Nat.lt_or_ge (a + m) s.size with h | h
    · have hml : m < L.length := by omega
      rw [List.drop_eq_getElem_cons hml]
      have e : L[m] = s.data.toList[a + m] := by simp only [hL, List.getElem_drop]
      rw [byte_at (show a + m < s.data.toList.length by omega), ← e]
      simp [colonL, h]
    · rw [List.drop_of_length_le (by omega)]
      simp [colonL]; omega
  have hd2 : s.data.toList.drop (a + m + 1) = L.drop (m + 1) := by rw [hL, List.drop_drop, Nat.add_assoc]
  have e1 : ((a : Int) + (m : Nat)) = ((a + m : Nat) : Int) := by omega
  have yes : (aheW (ba (L.take m)) ≠ 0 ∧ colonL (L.drop m) = true) → pnameL L = (1, ba ((L.drop (m + 1)).take (stopN innI (L.drop (m + 1)))), aheW (ba (L.take m)), m + 1 + stopN innI (L.drop (m + 1))) := fun h => by
    unfold pnameL; rw [← hm, if_pos h]
  have no : ¬ (aheW (ba (L.take m)) ≠ 0 ∧ colonL (L.drop m) = true) → pnameL L = if keyW (ba (L.take m)) ≠ 0 then (keyW (ba (L.take m)), ba [], 0, m) else (1, ba (L.take m), 3, m) := fun h => by
    unfold pnameL; rw [← hm, if_neg h]
  have qk := p_keyword (ba (L.take m))
  refine ⟨fun h1 => ⟨fun h2 => ⟨⟨by omega, by omega⟩, fun h3 => ⟨inR_of (by omega) (by omega), ?_⟩, fun h3 => ?_⟩, fun h2 => ?_⟩, fun h1 => ?_⟩
  · rw [Int.toNat_natCast] at h3
    have q2 := p_stop (f := 143) p_inName hi_inn s (a + m + 1) hs (by omega)
    rw [hd2] at q2
    have y := yes ⟨h1, hcol.2 ⟨by omega, by omega⟩⟩
    obtain ⟨m2, hm2⟩ : ∃ m2, m2 = stopN innI (L.drop (m + 1)) := ⟨_, rfl⟩
    rw [← hm2] at q2 y
    have hle2 : m2 ≤ (L.drop (m + 1)).length := by rw [hm2]; exact stopN_le _ _
    rw [List.length_drop] at hle2
    rw [show ((a + m : Nat) : Int) + 1 = ((a + m + 1 : Nat) : Int) by omega]
    rw [show ((a + m + 1 : Nat) : Int) + (m2 : Nat) = ((a + m + 1 + m2 : Nat) : Int) by omega] at q2
    refine PCalls.use (q2) ?_; simp only [wk,eq_self,Nat.reduceEqDiff,Nat.reduceAdd,Nat.reduceLeDiff,reduceCtorEq,↓reduceIte]
    refine ⟨⟨by omega, by omega, by omega⟩, ?_⟩
    rw [y]
    have hw2 : s.extract (a + m + 1) (a + m + 1 + m2) = ba ((L.drop (m + 1)).take m2) := by rw [ext_ba, hd2]
    rw [Int.toNat_natCast, Int.toNat_natCast, hw2]
    rw [show (a + m + 1 + m2 : Nat) = a + (m + 1 + m2) by omega]
    exact ⟨Nat.le_refl _, rfl⟩
  all_goals (refine PCalls.use qk ?_; simp only [wk,ne_eq,eq_self,Nat.reduceEqDiff,Nat.reduceAdd,Nat.reduceLeDiff,↓reduceIte])
  all_goals (
    rw [no (by
      first
        | (intro hh; exact h3 (by have := (hcol.1 hh.2).2; rw [Int.toNat_natCast]; omega))
        | (intro hh; exact h2 (by have := (hcol.1 hh.2).1; omega))
        | (intro hh; exact hh.1 h1))]
    refine ⟨fun hk => ?_, fun hk => ?_⟩
    · rw [if_pos hk]; exact ⟨Nat.le_refl _, rfl⟩
    · rw [if_neg (fun h => h hk)]; exact ⟨Nat.le_refl _, rfl⟩)
end Go.Proofs.YtedaffmkpljlnaaGreat

/- The program's sign is the token at a place: plain laws. -/
namespace Go.Proofs.YtedaffmkpljlnaaGreat
set_option linter.unusedSimpArgs false
set_option linter.unusedVariables false
open Go.RowKit Go.Lib

theorem dec_val (s : ByteArray) (p : Nat) : (Utf8.decode s p).1 ≤ 1114111 ∧ (128 ≤ (Utf8.decode s p).1 → Utf8.valid ((Utf8.decode s p).1 : Nat) = true) := by
  have e : Utf8.runeError ≤ 1114111 ∧ (128 ≤ Utf8.runeError → Utf8.valid (Utf8.runeError : Nat) = true) := by decide
  have hb : ∀ k, (s.get! k).toNat < 256 := fun k => (s.get! k).toNat_lt
  simp only [Utf8.decode]
  split
  · exact ⟨by simp only; omega, fun h => by simp only at h; omega⟩
  · split
    · next c =>
      split
      · have := hb (p + 0)
        refine ⟨by simp only; omega, fun _ => ?_⟩
        unfold Utf8.valid
        simp only [Bool.or_eq_true, Bool.and_eq_true, decide_eq_true_eq]
        left; omega
      · exact e
    · split
      · split
        · next c =>
          simp only [Bool.and_eq_true, decide_eq_true_eq] at c
          refine ⟨?_, fun _ => c.2⟩
          have := c.2
          unfold Utf8.valid at this
          simp only [Bool.or_eq_true, Bool.and_eq_true, decide_eq_true_eq] at this
          simp only; omega
        · exact e
      · split
        · split
          · next c =>
            simp only [Bool.and_eq_true, decide_eq_true_eq] at c
            refine ⟨?_, fun _ => c.2⟩
            have := c.2
            unfold Utf8.valid at this
            simp only [Bool.or_eq_true, Bool.and_eq_true, decide_eq_true_eq] at this
            simp only; omega
          · exact e
        · exact e
theorem colon_iff {p L : List UInt8} (hp : ∀ b ∈ p, innI b.toNat = true) : L.take (p.length + 1) = p ++ [58] ↔ (L.take (stopN innI L) = p ∧ colonL (L.drop (stopN innI L)) = true) := by
  constructor
  · intro h
    have e : L = p ++ 58 :: L.drop (p.length + 1) := by
      have := (List.take_append_drop (p.length + 1) L).symm
      rw [h] at this
      simpa using this
    have hs : stopN innI L = p.length := by
      rw [e]
      unfold stopN
      refine tw_len (by simp) (fun b hb => ?_) (fun h => ?_)
      · rw [List.take_left] at hb; exact hp b hb
      · rw [List.getElem_append_right (Nat.le_refl _)]; simp; decide
    rw [hs, e]
    simp [colonL]
  · rintro ⟨h1, h2⟩
    have e := (List.take_append_drop (stopN innI L) L).symm
    rw [h1] at e
    obtain ⟨r, hr⟩ : ∃ r, L.drop (stopN innI L) = 58 :: r := by
      cases hd : L.drop (stopN innI L) with
      | nil => rw [hd] at h2; cases h2
      | cons c r =>
        rw [hd] at h2
        have : c = 58 := by
          apply UInt8.toNat_inj.1; simpa [colonL] using h2
        exact ⟨r, by rw [this]⟩
    rw [hr] at e
    rw [e]; simp [List.take_append]
    exact List.take_of_length_le (by omega)
theorem beg_key {L : List UInt8} {k : Int} (p : List UInt8) (hk : preW k = ba (p ++ [58])) (hp : ∀ b ∈ p, innI b.toNat = true) : begL (preW k) L = true ↔ (ba (L.take (stopN innI L)) = ba p ∧ colonL (L.drop (stopN innI L)) = true) := by
  unfold begL
  rw [hk, decide_eq_true_eq, ba_list, ba_len2, List.length_append, List.length_singleton, colon_iff hp, ba_inj]
theorem kind_name (L : List UInt8) : kindL L = if aheW (ba (L.take (stopN innI L))) ≠ 0 ∧ colonL (L.drop (stopN innI L)) = true then aheW (ba (L.take (stopN innI L))) else 0 := by
  have b1 := beg_key (L := L) (k := 1) [107, 101, 121] rfl (by decide)
  have b2 := beg_key (L := L) (k := 2) [99, 104, 97, 110] rfl (by decide)
  have b4 := beg_key (L := L) (k := 4) [103, 114, 111, 117, 112] rfl (by decide)
  have b5 := beg_key (L := L) (k := 5) [114, 111, 108, 101] rfl (by decide)
  unfold kindL aheW
  simp only [b1, b2, b4, b5]
  by_cases hc : colonL (L.drop (stopN innI L)) = true
  · simp only [hc, and_true]
    show _ = _
    simp only [ba, List.toArray]
    by_cases h1 : ba (L.take (stopN innI L)) = ⟨#[107, 101, 121]⟩
    · simp_all [ba]
    · by_cases h2 : ba (L.take (stopN innI L)) = ⟨#[99, 104, 97, 110]⟩
      · simp_all [ba]
      · by_cases h4 : ba (L.take (stopN innI L)) = ⟨#[103, 114, 111, 117, 112]⟩
        · simp_all [ba]
        · by_cases h5 : ba (L.take (stopN innI L)) = ⟨#[114, 111, 108, 101]⟩
          · simp_all [ba]
          · simp_all [ba]
  · simp [hc]
theorem ahe_len (w : ByteArray) (h : aheW w ≠ 0) : aheW w ∈ kinds ∧ (preW (aheW w)).size = w.size + 1 := by
  unfold aheW at h ⊢
  split
  · next e => rw [e]; decide
  · split
    · next e => rw [e]; decide
    · split
      · next e => rw [e]; decide
      · split
        · next e => rw [e]; decide
        · next h1 h2 h3 h4 => simp [h1, h2, h3, h4] at h
theorem may_stop (L : List UInt8) : mayN (ba (L.take (stopN innI L))) = true ↔ (lttI (L.headD 0).toNat = true ∧ stopN innI L ≤ 24) := by
  have hle := stopN_le innI L
  unfold mayN mayL
  rw [ba_list]
  simp only [Bool.and_eq_true, decide_eq_true_eq, List.length_take]
  cases L with
  | nil => simp [stopN, lttI]
  | cons b r =>
    by_cases hb : innI b.toNat = true
    · have h1 : 1 ≤ stopN innI (b :: r) := by rw [stopN_cons hb]; omega
      obtain ⟨m, hm⟩ : ∃ m, stopN innI (b :: r) = m + 1 := ⟨stopN innI (b :: r) - 1, by omega⟩
      have hall : ((b :: r).take (stopN innI (b :: r))).all (fun b => innI b.toNat) = true := by
        rw [List.all_eq_true]
        intro c hc
        obtain ⟨i, hi, rfl⟩ := List.mem_iff_getElem.1 hc
        rw [List.length_take] at hi
        rw [List.getElem_take]
        exact stopN_at (by omega) (by omega)
      rw [hall, hm]
      simp only [List.take_succ_cons, List.headD_cons]
      rw [hm] at hle
      constructor
      · rintro ⟨h1, h2, h3, h4⟩; exact ⟨h3, by omega⟩
      · rintro ⟨h1, h2⟩; exact ⟨by omega, by omega, h1, trivial⟩
    · have hz := stopN_zero (q := innI) (r := r) (b := b) (by simpa using hb)
      have hl : lttI b.toNat = false := by
        simp only [innI, Bool.or_eq_true, not_or] at hb
        simpa using hb.1.1.1
      rw [hz]; simp [hl]
theorem kind_nl {b : UInt8} {r : List UInt8} (h : lttI b.toNat = false) : kindL (b :: r) = 0 := by
  rw [kind_name, if_neg]
  rintro ⟨h1, -⟩
  apply h1
  have e : ∀ (c : UInt8) (p : List UInt8), lttI c.toNat = true → ba ((b :: r).take (stopN innI (b :: r))) ≠ ba (c :: p) := fun c p hc h2 => by
    rw [ba_inj] at h2
    have h3 : b = c := by
      cases hm : stopN innI (b :: r) with
      | zero => rw [hm] at h2; simp at h2
      | succ m => rw [hm, List.take_succ_cons] at h2; exact (List.cons.inj h2).1
    rw [h3] at h; rw [h] at hc; cases hc
  have k1 : ¬ ba ((b :: r).take (stopN innI (b :: r))) = ⟨#[107, 101, 121]⟩ := e 107 [101, 121] (by decide)
  have k2 : ¬ ba ((b :: r).take (stopN innI (b :: r))) = ⟨#[99, 104, 97, 110]⟩ := e 99 [104, 97, 110] (by decide)
  have k4 : ¬ ba ((b :: r).take (stopN innI (b :: r))) = ⟨#[103, 114, 111, 117, 112]⟩ := e 103 [114, 111, 117, 112] (by decide)
  have k5 : ¬ ba ((b :: r).take (stopN innI (b :: r))) = ⟨#[114, 111, 108, 101]⟩ := e 114 [111, 108, 101] (by decide)
  unfold aheW
  rw [if_neg k1, if_neg k2, if_neg k4, if_neg k5]
theorem sign_nl {b : UInt8} {r : List UInt8} (h : lttI b.toNat = false) : signL (b :: r) = plainL (b :: r) := by
  unfold signL; rw [if_pos (kind_nl h)]
def goodT (x : Sig) (l : List UInt8) : Bool := decide (wordT x.1 x.2.1 x.2.2.1 ≠ ⟨#[]⟩) && fineL (l.drop x.2.2.2)
theorem ba_app_ne {o : Int} {w : ByteArray} (h : o ∈ kinds) : preW o ++ w ≠ ⟨#[]⟩ := by
  intro e
  have := congrArg ByteArray.size e
  rw [ByteArray.size_append] at this
  have h2 := (pre_ok h).1
  have h3 : (⟨#[]⟩ : ByteArray).size = 0 := rfl
  omega
theorem atomW_kind {o : Int} {w : ByteArray} (h : o ∈ kinds) : atomWk o w ≠ ⟨#[]⟩ ↔ mayN w = true := by
  have h2 : o = 1 ∨ o = 2 ∨ o = 4 ∨ o = 5 := by simpa [kinds] using h
  have h0 := kinds_nz h
  unfold atomWk
  rw [if_neg h0]
  by_cases hm : mayN w = true
  · rw [if_pos hm, if_pos h2]; exact ⟨fun _ => hm, fun _ => ba_app_ne h⟩
  · rw [if_neg hm]; exact ⟨fun h => absurd rfl h, fun h => absurd h hm⟩
theorem name_some (L : List UInt8) : nameL L = if lttI (L.headD 0).toNat = true ∧ stopN innI L ≤ 24 ∧ fineL (L.drop (stopN innI L)) = true then some (stopN innI L) else none := by
  cases L with
  | nil => rfl
  | cons b r => rfl
theorem sign_letter {b : UInt8} {r : List UInt8} (h : lttI b.toNat = true) : signL (b :: r) = if goodT (pnameL (b :: r)) (b :: r) = true then some (pnameL (b :: r)) else none := by
  obtain ⟨L, hL⟩ : ∃ L, L = b :: r := ⟨_, rfl⟩
  have hhd : lttI (L.headD 0).toNat = true := by rw [hL]; exact h
  have hin : innI b.toNat = true := by simp [innI, h]
  have h1 : 1 ≤ stopN innI L := by rw [hL, stopN_cons hin]; omega
  have hle := stopN_le innI L
  have hpl : plainL L = match nameL L with
      | none => none
      | some n => if keyW (ba (L.take n)) = 0 then some (1, ba (L.take n), 3, n) else some (keyW (ba (L.take n)), ba [], 0, n) := by
    rw [hL]; simp only [plainL]; rw [if_pos h]; try rfl
  rw [← hL]
  have hwl : (ba (L.take (stopN innI L))).size = stopN innI L := by rw [ba_len2, List.length_take]; omega
  unfold signL
  rw [kind_name]
  by_cases hc : aheW (ba (L.take (stopN innI L))) ≠ 0 ∧ colonL (L.drop (stopN innI L)) = true
  · obtain ⟨a1, a2⟩ := ahe_len _ hc.1
    rw [if_pos hc, if_neg hc.1]
    have hp : pnameL L = (1, ba ((L.drop (stopN innI L + 1)).take (stopN innI (L.drop (stopN innI L + 1)))), aheW (ba (L.take (stopN innI L))), stopN innI L + 1 + stopN innI (L.drop (stopN innI L + 1))) := by unfold pnameL; rw [if_pos hc]
    rw [hp]
    obtain ⟨k, hk⟩ : ∃ k, k = aheW (ba (L.take (stopN innI L))) := ⟨_, rfl⟩
    rw [← hk] at a1 a2 ⊢
    rw [hwl] at a2
    rw [a2]
    obtain ⟨M, hM⟩ : ∃ M, M = L.drop (stopN innI L + 1) := ⟨_, rfl⟩
    rw [← hM]
    unfold atomL goodT
    rw [name_some]
    have hat := atomW_kind (w := ba (M.take (stopN innI M))) a1
    rw [may_stop] at hat
    have hdr : L.drop (stopN innI L + 1 + stopN innI M) = M.drop (stopN innI M) := by rw [hM, List.drop_drop]
    simp only [hdr]
    have hw1 : wordT 1 (ba (M.take (stopN innI M))) k = atomWk k (ba (M.take (stopN innI M))) := by unfold wordT; rw [if_pos rfl]
    rw [hw1]
    by_cases hg : lttI (M.headD 0).toNat = true ∧ stopN innI M ≤ 24 ∧ fineL (M.drop (stopN innI M)) = true
    · have h3 := hat.2 ⟨hg.1, hg.2.1⟩
      rw [if_pos hg]
      simp [h3, hg.2.2]
    · rw [if_neg hg]
      rw [if_neg]
      simp only [Bool.and_eq_true, decide_eq_true_eq]
      rintro ⟨g1, g2⟩
      have := hat.1 g1
      exact hg ⟨this.1, this.2, g2⟩
  · rw [if_neg hc, if_pos rfl, hpl]
    have hp : pnameL L = if keyW (ba (L.take (stopN innI L))) ≠ 0 then (keyW (ba (L.take (stopN innI L))), ba [], 0, stopN innI L) else (1, ba (L.take (stopN innI L)), 3, stopN innI L) := by unfold pnameL; rw [if_neg hc]
    rw [hp, name_some]
    by_cases hk : keyW (ba (L.take (stopN innI L))) = 0
    · rw [if_neg (show ¬ keyW (ba (L.take (stopN innI L))) ≠ 0 from fun h => h hk)]
      have hw : wordT 1 (ba (L.take (stopN innI L))) 3 ≠ ⟨#[]⟩ ↔ mayN (ba (L.take (stopN innI L))) = true := by
        unfold wordT atomWk
        rw [if_pos rfl, if_neg (by decide)]
        by_cases hm : mayN (ba (L.take (stopN innI L))) = true
        · rw [if_pos hm, if_neg (by decide), if_pos ⟨rfl, hk⟩]
          refine ⟨fun _ => hm, fun _ e => ?_⟩
          rw [e] at hwl
          have h3 : (⟨#[]⟩ : ByteArray).size = 0 := rfl
          omega
        · rw [if_neg hm]; exact ⟨fun h => absurd rfl h, fun h => absurd h hm⟩
      rw [may_stop] at hw
      unfold goodT
      by_cases hg : lttI (L.headD 0).toNat = true ∧ stopN innI L ≤ 24 ∧ fineL (L.drop (stopN innI L)) = true
      · have h3 := hw.2 ⟨hg.1, hg.2.1⟩
        rw [if_pos hg]
        simp [h3, hg.2.2, hk]
      · rw [if_neg hg, if_neg]
        simp only [Bool.and_eq_true, decide_eq_true_eq]
        rintro ⟨g1, g2⟩
        have := hw.1 g1
        exact hg ⟨this.1, this.2, g2⟩
    · rw [if_pos (show keyW (ba (L.take (stopN innI L))) ≠ 0 from hk)]
      have hm24 : stopN innI L ≤ 24 := by
        unfold keyW at hk
        rw [← hwl]
        by_cases e1 : ba (L.take (stopN innI L)) = ⟨#[97, 110, 100]⟩
        · rw [e1]; decide
        · rw [if_neg e1] at hk
          by_cases e2 : ba (L.take (stopN innI L)) = ⟨#[102, 111, 114]⟩
          · rw [e2]; decide
          · rw [if_neg e2] at hk
            by_cases e3 : ba (L.take (stopN innI L)) = ⟨#[97, 115]⟩
            · rw [e3]; decide
            · rw [if_neg e3] at hk; exact absurd rfl hk
      have hw : wordT (keyW (ba (L.take (stopN innI L)))) (ba []) 0 ≠ ⟨#[]⟩ := by
        unfold keyW at hk ⊢
        split
        · decide
        · split
          · decide
          · split
            · decide
            · next e1 e2 e3 => rw [if_neg e1, if_neg e2, if_neg e3] at hk; exact absurd rfl hk
      unfold goodT
      by_cases hg : fineL (L.drop (stopN innI L)) = true
      · rw [if_pos ⟨hhd, hm24, hg⟩]
        simp [hw, hg, hk]
      · rw [if_neg (fun h => hg h.2.2), if_neg]
        simp only [Bool.and_eq_true, decide_eq_true_eq]
        exact fun h => hg h.2
end Go.Proofs.YtedaffmkpljlnaaGreat

/- The program's sign. -/
namespace Go.Proofs.YtedaffmkpljlnaaGreat
set_option linter.unusedSimpArgs false
set_option linter.unusedVariables false
open Go.RowKit Go.Lib

def psV (l : List UInt8) (a : Nat) : AV := match signL l with
  | some (k, w, o, n) => .tup [.agg [.int .i64 k, .str w, .int .i64 o, .int .i64 0], .int .i64 (a + n : Nat)]
  | none => .tup [.agg [.int .i64 0, .str ⟨#[]⟩, .int .i64 0, .int .i64 0], .int .i64 0]
theorem free_psV (l : List UInt8) (a : Nat) : free (psV l a) = true := by unfold psV; split <;> rfl
theorem sig_124 {b : UInt8} {r : List UInt8} (h : b.toNat = 124) : signL (b :: r) = some (4, ba [], 0, 1) := by
  have hl : lttI b.toNat = false := by rw [h]; rfl
  rw [sign_nl hl]; simp only [plainL]
  rw [if_neg (by simp [hl]), if_neg (by omega), if_pos h]
theorem sig_40 {b : UInt8} {r : List UInt8} (h : b.toNat = 40) : signL (b :: r) = some (6, ba [], 0, 1) := by
  have hl : lttI b.toNat = false := by rw [h]; rfl
  rw [sign_nl hl]; simp only [plainL]
  rw [if_neg (by simp [hl]), if_neg (by omega), if_neg (by omega), if_pos h]
theorem sig_41 {b : UInt8} {r : List UInt8} (h : b.toNat = 41) : signL (b :: r) = some (7, ba [], 0, 1) := by
  have hl : lttI b.toNat = false := by rw [h]; rfl
  rw [sign_nl hl]; simp only [plainL]
  rw [if_neg (by simp [hl]), if_neg (by omega), if_neg (by omega), if_neg (by omega), if_pos h]
theorem sig_sign {b : UInt8} {r : List UInt8} (h : sigB b.toNat = true) : signL (b :: r) = some (9, ba [b], 0, 1) := by
  have h2 : b.toNat = 61 ∨ b.toNat = 44 ∨ b.toNat = 59 ∨ b.toNat = 60 ∨ b.toNat = 62 ∨ b.toNat = 33 ∨ b.toNat = 63 ∨ b.toNat = 42 := by
    simpa [sigB, or_assoc] using h
  have hl : lttI b.toNat = false := by simp [lttI]; omega
  have hd : digI b.toNat = false := by simp [digI]; omega
  rw [sign_nl hl]; simp only [plainL]
  rw [if_neg (by simp [hl]), if_neg (by omega), if_neg (by omega), if_neg (by omega), if_neg (by omega), if_neg (by simp [hd]), if_pos h]
theorem good_d (r : List UInt8) {b : UInt8} : goodT (1, ⟨#[68]⟩, 0, 1) (b :: r) = fineL r := by
  have : wordT 1 ⟨#[68]⟩ 0 ≠ ⟨#[]⟩ := by decide
  unfold goodT
  simp [this]
theorem sig_d {b : UInt8} {r : List UInt8} (h : b.toNat = 68) : signL (b :: r) = if goodT (1, ⟨#[68]⟩, 0, 1) (b :: r) = true then some (1, ⟨#[68]⟩, 0, 1) else none := by
  have hl : lttI b.toNat = false := by rw [h]; rfl
  rw [sign_nl hl, good_d]; simp only [plainL]
  rw [if_neg (by simp [hl]), if_pos h]; rfl
theorem sig_dig {b : UInt8} {r : List UInt8} (h : digI b.toNat = true) : signL (b :: r) = if goodT (8, ba ((b :: r).take (stopN digI (b :: r))), 0, stopN digI (b :: r)) (b :: r) = true then some (8, ba ((b :: r).take (stopN digI (b :: r))), 0, stopN digI (b :: r)) else none := by
  have h2 : 48 ≤ b.toNat ∧ b.toNat ≤ 57 := by simp [digI] at h; omega
  have hl : lttI b.toNat = false := by simp [lttI]; omega
  obtain ⟨L, hL⟩ : ∃ L, L = b :: r := ⟨_, rfl⟩
  have hpl : plainL L = if numW (ba (L.take (stopN digI L))) = true ∧ fineL (L.drop (stopN digI L)) = true then some (8, ba (L.take (stopN digI L)), 0, stopN digI L) else none := by
    rw [hL]; simp only [plainL]
    rw [if_neg (by simp [hl]), if_neg (by omega), if_neg (by omega), if_neg (by omega), if_neg (by omega), if_pos h]
  rw [sign_nl hl, ← hL, hpl]
  have hg : goodT (8, ba (L.take (stopN digI L)), 0, stopN digI L) L = true ↔ numW (ba (L.take (stopN digI L))) = true ∧ fineL (L.drop (stopN digI L)) = true := by
    have hw : wordT 8 (ba (L.take (stopN digI L))) 0 = if numW (ba (L.take (stopN digI L))) = true then ba (L.take (stopN digI L)) else ⟨#[]⟩ := by
      unfold wordT; rw [if_neg (by decide), if_neg (by decide), if_pos rfl]
    unfold goodT
    simp only [Bool.and_eq_true, decide_eq_true_eq]
    rw [hw]
    by_cases hn : numW (ba (L.take (stopN digI L))) = true
    · rw [if_pos hn]
      have : ba (L.take (stopN digI L)) ≠ ⟨#[]⟩ := by
        intro e; rw [e] at hn; revert hn; decide
      simp [hn, this]
    · rw [if_neg hn]; simp [hn]
  simp only [hg]
theorem sig_else {b : UInt8} {r : List UInt8} (h1 : b.toNat ≠ 124) (h2 : b.toNat ≠ 40) (h3 : b.toNat ≠ 41) (h4 : sigB b.toNat = false) (h5 : b.toNat ≠ 68) (h6 : digI b.toNat = false) (h7 : lttI b.toNat = false) : signL (b :: r) = if goodT (0, ⟨#[]⟩, 0, 1) (b :: r) = true then some (0, ⟨#[]⟩, 0, 1) else none := by
  have hg : goodT (0, ⟨#[]⟩, 0, 1) (b :: r) = false := by
    have : ¬ wordT 0 ⟨#[]⟩ 0 ≠ ⟨#[]⟩ := by decide
    unfold goodT
    rw [decide_eq_false this]; rfl
  rw [hg, sign_nl h7]; simp only [plainL]
  rw [if_neg (by simp [h7]), if_neg h5, if_neg h1, if_neg h2, if_neg h3, if_neg (by simp [h6]), if_neg (by simp [h4])]; rfl
theorem pname_le (l : List UInt8) : (pnameL l).2.1.size ≤ l.length ∧ (pnameL l).2.2.2 ≤ l.length := by
  have h1 := stopN_le innI l
  have h2 := stopN_le innI (l.drop (stopN innI l + 1))
  rw [List.length_drop] at h2
  unfold pnameL
  split
  · next h =>
    have h3 : stopN innI l < l.length := by
      rcases Nat.lt_or_ge (stopN innI l) l.length with h3 | h3
      · exact h3
      · rw [List.drop_of_length_le h3] at h; exact absurd h.2 (by simp [colonL])
    simp only [ba_len2, List.length_take, List.length_drop]
    omega
  · split <;> simp [ba_len2] <;> omega
theorem p_psign (s : ByteArray) (a : Nat) (v : Int) (hs : s.size ≤ 1000000) (ha : a < s.size) (hv : v = (Utf8.decode s a).1) :
    PCalls Tryz.prog 98 [.str s, .int .i64 a, .int .i32 v] (psV (s.data.toList.drop a) a) := by
  have hl := len_size s
  have hal : a < s.data.toList.length := by omega
  have hd : s.data.toList.drop a = s.data.toList[a] :: s.data.toList.drop (a + 1) := List.drop_eq_getElem_cons hal
  obtain ⟨b, hb⟩ : ∃ b, b = s.data.toList[a] := ⟨_, rfl⟩
  obtain ⟨r, hr⟩ : ∃ r, r = s.data.toList.drop (a + 1) := ⟨_, rfl⟩
  have hdv := dec_val s a
  have hlo : b.toNat < 128 → v = b.toNat := fun h => by rw [hv, dec_lt hal (by rw [← hb]; exact h), hb]
  have hhi : ¬ b.toNat < 128 → 128 ≤ v := fun h => by have := (dec_ge hal (by rw [← hb]; exact h)).1; rw [hv]; omega
  have qc := p_containsRune v (by omega) (by omega) (fun h => by rw [hv]; exact hdv.2 (by omega))
  have qd := p_digit v
  have ql := p_letter v
  have qs := p_stop (f := 117) p_digit hi_dig s a hs (by omega)
  have qn := p_pname s a hs ha
  rw [← hb, ← hr] at hd
  obtain ⟨L, hL⟩ : ∃ L, L = b :: r := ⟨_, rfl⟩
  rw [← hL] at hd
  have hLl : L.length = s.size - a := by rw [← hd, List.length_drop]; omega
  rw [hd] at qs qn ⊢
  have hch : ∀ q : Int → Bool, (∀ r, 128 ≤ r → q r = q 128) → q v = q b.toNat := fun q hi => by
    by_cases h : b.toNat < 128
    · rw [hlo h]
    · rw [hi v (hhi h), hi b.toNat (by omega)]
  rw [hch _ hi_dig] at qd
  rw [hch _ hi_ltt] at ql
  refine pcalls_of rfl (free_psV _ _) (acalls_of mixed J_token_sign_ok (Nat.le_of_ble_eq_true rfl) ?_); simp only [J_token_sign, wk,eq_self,Nat.reduceEqDiff,Nat.reduceAdd,Nat.reduceLeDiff,reduceCtorEq,↓reduceIte]
  refine ⟨inR_of (by omega) (by omega), ?_⟩
  have lo : ∀ n : Nat, n < 128 → v = n → b.toNat = n := fun n hn e => by
    by_cases h : b.toNat < 128
    · have := hlo h; omega
    · have := hhi h; omega
  refine ⟨fun e => ?_, fun e1 => ⟨fun e => ?_, fun e2 => ⟨fun e => ?_, fun e3 => ?_⟩⟩⟩
  · unfold psV; rw [hL, sig_124 (lo 124 (by omega) e)]; exact ⟨Nat.le_refl _, rfl⟩
  · unfold psV; rw [hL, sig_40 (lo 40 (by omega) e)]; exact ⟨Nat.le_refl _, rfl⟩
  · unfold psV; rw [hL, sig_41 (lo 41 (by omega) e)]; exact ⟨Nat.le_refl _, rfl⟩
  refine PCalls.use (qc) ?_; simp only [wk,eq_self,Nat.reduceEqDiff,Nat.reduceAdd,Nat.reduceLeDiff,reduceCtorEq,↓reduceIte]
  have hfree : ∀ n : Nat, a + n ≤ s.size → PCalls Tryz.prog 96 [.str s, .int .i64 (a + n : Nat), .fn 120 []] (.int .i64 ((a + n : Nat) + stopN freI (L.drop n))) := fun n hn => by
    have := p_stop (f := 120) p_free hi_fre s (a + n) hs hn
    rw [← List.drop_drop, hd] at this
    exact this
  have hfin : ∀ n : Nat, a + n ≤ s.size → ((stopN freI (L.drop n) = 0 ∧ a + n < s.size) ↔ fineL (L.drop n) = false) := fun n hn => by
    rcases Nat.lt_or_ge (a + n) s.size with h | h
    · have hnl : n < L.length := by omega
      rw [List.drop_eq_getElem_cons hnl]
      show _ ↔ freI (L[n]).toNat = false
      by_cases hf : freI (L[n]).toNat = true
      · rw [stopN_cons hf, hf]; simp
      · have hf2 : freI (L[n]).toNat = false := by simpa using hf
        rw [stopN_zero hf2]; simp [hf2, h]
    · rw [List.drop_of_length_le (by omega)]
      constructor
      · rintro ⟨-, h2⟩; omega
      · intro h2; cases h2
  have one : ∀ n : Nat, ((a : Int) + (n : Nat)) = ((a + n : Nat) : Int) := fun n => by omega
  have one1 : ((a : Int) + 1) = ((a + 1 : Nat) : Int) := by omega
  -- the four ways on
  have bad : ∀ k w o n, (signL L = if goodT (k, w, o, n) L = true then some (k, w, o, n) else none) → goodT (k, w, o, n) L = false → psV L a = .tup [.agg [.int .i64 0, .str ⟨#[]⟩, .int .i64 0, .int .i64 0], .int .i64 0] := fun k w o n h1 h2 => by
    unfold psV; rw [h1, h2]; rfl
  have good : ∀ k w o n, (signL L = if goodT (k, w, o, n) L = true then some (k, w, o, n) else none) → goodT (k, w, o, n) L = true → psV L a = .tup [.agg [.int .i64 k, .str w, .int .i64 o, .int .i64 0], .int .i64 (a + n : Nat)] := fun k w o n h1 h2 => by
    unfold psV; rw [h1, h2]; rfl
  refine ⟨fun e => ?_, fun e4 => ⟨fun e => ?_, fun e5 => ?_⟩⟩
  · have hb2 : sigB b.toNat = true ∧ v = b.toNat := by
      by_cases h : b.toNat < 128
      · rw [hlo h] at e; exact ⟨by simpa using e, hlo h⟩
      · have := hhi h
        simp [sigB] at e; omega
    have henc : Utf8.encode v = ba [b] := by
      have : b.toNat < 128 := by have := hb2.1; simp [sigB] at this; omega
      rw [hb2.2]
      unfold Utf8.encode Utf8.valid
      have e1 : (decide ((0 : Int) ≤ (b.toNat : Int)) && decide ((b.toNat : Int) < 55296)) = true := by simp; omega
      simp only [e1, Bool.true_or, if_true, Int.toNat_natCast, this]
      simp [ba]
    unfold psV; rw [hL, sig_sign hb2.1, henc]; exact ⟨Nat.le_refl _, rfl⟩
  · have hsig := sig_d (r := r) (lo 68 (by omega) e)
    rw [← hL] at hsig
    have qw := p_word 1 ⟨#[68]⟩ 0 0 (by decide)
    rw [one1]
    have qf := hfree (1) (by omega)
    have hf := hfin (1) (by omega)
    have hgd := good _ _ _ _ hsig
    have hbd := bad _ _ _ _ hsig
    simp only [goodT] at hgd hbd
    simp only [J_token_sign_j1, wk,eq_self,Nat.reduceEqDiff,Nat.reduceAdd,Nat.reduceLeDiff,reduceCtorEq,↓reduceIte]
    refine PCalls.use qw ?_; simp only [wk,eq_self,Nat.reduceEqDiff,Nat.reduceAdd,Nat.reduceLeDiff,reduceCtorEq,↓reduceIte]
    refine ⟨fun hne => ?_, fun he => ?_⟩
    · have hne2 := decide_eq_true hne
      simp only [hne2, Bool.true_and] at hgd hbd
      refine PCalls.use qf ?_; simp only [wk,eq_self,Nat.reduceEqDiff,Nat.reduceAdd,Nat.reduceLeDiff,reduceCtorEq,↓reduceIte]
      refine ⟨fun h1 => ⟨fun h2 => ?_, fun h2 => ?_⟩, fun h1 => ?_⟩
      · rw [hbd (hf.1 ⟨by omega, by omega⟩)]; exact ⟨Nat.le_refl _, rfl⟩
      · rw [hgd (by cases hx : fineL _ with | true => rfl | false => (exfalso; have := hf.2 hx; omega))]; exact ⟨Nat.le_refl _, rfl⟩
      · rw [hgd (by cases hx : fineL _ with | true => rfl | false => (exfalso; have := hf.2 hx; omega))]; exact ⟨Nat.le_refl _, rfl⟩
    · rw [hbd (by rw [he]; simp)]; exact ⟨Nat.le_refl _, rfl⟩
  · refine PCalls.use (qd) ?_; simp only [wk,eq_self,Nat.reduceEqDiff,reduceCtorEq,↓reduceIte]
    refine ⟨fun e => ?_, fun e6 => ?_⟩
    · have hsig := sig_dig (r := r) e
      rw [← hL] at hsig
      have hle := stopN_le digI L
      obtain ⟨n, hn⟩ : ∃ n, n = stopN digI L := ⟨_, rfl⟩
      rw [← hn] at qs hsig hle
      rw [one n] at qs
      refine PCalls.use (qs) ?_; simp only [wk,eq_self,Nat.reduceEqDiff,Nat.reduceAdd,Nat.reduceLeDiff,reduceCtorEq,↓reduceIte]
      have hw : s.extract a (a + n) = ba (L.take n) := by rw [ext_ba, hd]
      refine ⟨⟨by omega, by omega, by omega⟩, ?_⟩
      rw [Int.toNat_natCast, Int.toNat_natCast, hw]
      have qw := p_word 8 (ba (L.take n)) 0 0 (by rw [ba_len2, List.length_take]; omega)
      have qf := hfree (n) (by omega)
      have hf := hfin (n) (by omega)
      have hgd := good _ _ _ _ hsig
      have hbd := bad _ _ _ _ hsig
      simp only [goodT] at hgd hbd
      simp only [J_token_sign_j1, wk,eq_self,Nat.reduceEqDiff,Nat.reduceAdd,Nat.reduceLeDiff,reduceCtorEq,↓reduceIte]
      refine PCalls.use qw ?_; simp only [wk,eq_self,Nat.reduceEqDiff,Nat.reduceAdd,Nat.reduceLeDiff,reduceCtorEq,↓reduceIte]
      refine ⟨fun hne => ?_, fun he => ?_⟩
      · have hne2 := decide_eq_true hne
        simp only [hne2, Bool.true_and] at hgd hbd
        refine PCalls.use qf ?_; simp only [wk,eq_self,Nat.reduceEqDiff,Nat.reduceAdd,Nat.reduceLeDiff,reduceCtorEq,↓reduceIte]
        refine ⟨fun h1 => ⟨fun h2 => ?_, fun h2 => ?_⟩, fun h1 => ?_⟩
        · rw [hbd (hf.1 ⟨by omega, by omega⟩)]; exact ⟨Nat.le_refl _, rfl⟩
        · rw [hgd (by cases hx : fineL _ with | true => rfl | false => (exfalso; have := hf.2 hx; omega))]; exact ⟨Nat.le_refl _, rfl⟩
        · rw [hgd (by cases hx : fineL _ with | true => rfl | false => (exfalso; have := hf.2 hx; omega))]; exact ⟨Nat.le_refl _, rfl⟩
      · rw [hbd (by rw [he]; simp)]; exact ⟨Nat.le_refl _, rfl⟩
    · refine PCalls.use (ql) ?_; simp only [wk,eq_self,Nat.reduceEqDiff,reduceCtorEq,↓reduceIte]
      refine ⟨fun e => ?_, fun e7 => ?_⟩
      · have hsig := sign_letter (r := r) e
        rw [← hL] at hsig
        have hple := pname_le L
        obtain ⟨k, w, o, n, hpn⟩ : ∃ k w o n, pnameL L = (k, w, o, n) := ⟨_, _, _, _, rfl⟩
        rw [hpn] at hsig qn hple
        simp only at hple
        have qw := p_word k w o 0 (by omega)
        simp only [sigV] at qn
        refine PCalls.use (qn) ?_; simp only [wk,eq_self,Nat.reduceEqDiff,Nat.reduceAdd,Nat.reduceLeDiff,reduceCtorEq,↓reduceIte]
        have qf := hfree (n) (by omega)
        have hf := hfin (n) (by omega)
        have hgd := good _ _ _ _ hsig
        have hbd := bad _ _ _ _ hsig
        simp only [goodT] at hgd hbd
        simp only [J_token_sign_j1, wk,eq_self,Nat.reduceEqDiff,Nat.reduceAdd,Nat.reduceLeDiff,reduceCtorEq,↓reduceIte]
        refine PCalls.use qw ?_; simp only [wk,eq_self,Nat.reduceEqDiff,Nat.reduceAdd,Nat.reduceLeDiff,reduceCtorEq,↓reduceIte]
        refine ⟨fun hne => ?_, fun he => ?_⟩
        · have hne2 := decide_eq_true hne
          simp only [hne2, Bool.true_and] at hgd hbd
          refine PCalls.use qf ?_; simp only [wk,eq_self,Nat.reduceEqDiff,Nat.reduceAdd,Nat.reduceLeDiff,reduceCtorEq,↓reduceIte]
          refine ⟨fun h1 => ⟨fun h2 => ?_, fun h2 => ?_⟩, fun h1 => ?_⟩
          · rw [hbd (hf.1 ⟨by omega, by omega⟩)]; exact ⟨Nat.le_refl _, rfl⟩
          · rw [hgd (by cases hx : fineL _ with | true => rfl | false => (exfalso; have := hf.2 hx; omega))]; exact ⟨Nat.le_refl _, rfl⟩
          · rw [hgd (by cases hx : fineL _ with | true => rfl | false => (exfalso; have := hf.2 hx; omega))]; exact ⟨Nat.le_refl _, rfl⟩
        · rw [hbd (by rw [he]; simp)]; exact ⟨Nat.le_refl _, rfl⟩
      · have hsig := sig_else (b := b) (r := r) (by intro h; apply e1; have := hlo (by omega); omega) (by intro h; apply e2; have := hlo (by omega); omega) (by intro h; apply e3; have := hlo (by omega); omega) (by
          by_cases h : b.toNat < 128
          · rw [hlo h] at e4; simpa using e4
          · simp [sigB]; omega) (by intro h; apply e5; have := hlo (by omega); omega) (by simpa using e6) (by simpa using e7)
        rw [← hL] at hsig
        have qw := p_word 0 ⟨#[]⟩ 0 0 (by decide)
        rw [one1]
        have qf := hfree (1) (by omega)
        have hf := hfin (1) (by omega)
        have hgd := good _ _ _ _ hsig
        have hbd := bad _ _ _ _ hsig
        simp only [goodT] at hgd hbd
        simp only [J_token_sign_j1, wk,eq_self,Nat.reduceEqDiff,Nat.reduceAdd,Nat.reduceLeDiff,reduceCtorEq,↓reduceIte]
        refine PCalls.use qw ?_; simp only [wk,eq_self,Nat.reduceEqDiff,Nat.reduceAdd,Nat.reduceLeDiff,reduceCtorEq,↓reduceIte]
        refine ⟨fun hne => ?_, fun he => ?_⟩
        · have hne2 := decide_eq_true hne
          simp only [hne2, Bool.true_and] at hgd hbd
          refine PCalls.use qf ?_; simp only [wk,eq_self,Nat.reduceEqDiff,Nat.reduceAdd,Nat.reduceLeDiff,reduceCtorEq,↓reduceIte]
          refine ⟨fun h1 => ⟨fun h2 => ?_, fun h2 => ?_⟩, fun h1 => ?_⟩
          · rw [hbd (hf.1 ⟨by omega, by omega⟩)]; exact ⟨Nat.le_refl _, rfl⟩
          · rw [hgd (by cases hx : fineL _ with | true => rfl | false => (exfalso; have := hf.2 hx; omega))]; exact ⟨Nat.le_refl _, rfl⟩
          · rw [hgd (by cases hx : fineL _ with | true => rfl | false => (exfalso; have := hf.2 hx; omega))]; exact ⟨Nat.le_refl _, rfl⟩
        · rw [hbd (by rw [he]; simp)]; exact ⟨Nat.le_refl _, rfl⟩
end Go.Proofs.YtedaffmkpljlnaaGreat

/- The program's All. -/
namespace Go.Proofs.YtedaffmkpljlnaaGreat
set_option linter.unusedSimpArgs false
set_option linter.unusedVariables false
open Go.RowKit Go.Lib

def noJ (s : ByteArray) (e : Nat) : Prop := ∀ p, p < e → p + (Utf8.decode s p).2 ≤ e
theorem noJ_atB {s : ByteArray} {e : Nat} (he : e ≤ s.size) (h : atB s e) : noJ s e := fun p hp => step_le h hp he
theorem noJ_size (s : ByteArray) : noJ s s.size := fun p hp => (step_one hp).2
theorem noJ_low {s : ByteArray} {e : Nat} (he : e < s.data.toList.length) (h : (s.data.toList[e]).toNat < 128) : noJ s e := fun p hp => by
  have hpl : p < s.data.toList.length := by omega
  by_cases h1 : (s.data.toList[p]).toNat < 128
  · rw [dec_lt hpl h1]; show p + 1 ≤ e; omega
  · obtain ⟨d1, d2, d3, d4⟩ := dec_ge hpl h1
    rcases Nat.lt_or_ge e (p + (Utf8.decode s p).2) with h2 | h2
    · have := d4 e he hp h2; omega
    · exact h2
theorem noJ_note {s : ByteArray} {i : Nat} (hi : i ≤ s.size) : i + stopN notI (s.data.toList.drop i) ≤ s.size ∧ noJ s (i + stopN notI (s.data.toList.drop i)) := by
  have hl := len_size s
  have hle := stopN_le notI (s.data.toList.drop i)
  have hll : (s.data.toList.drop i).length = s.data.toList.length - i := List.length_drop
  refine ⟨by omega, ?_⟩
  rcases Nat.lt_or_ge (stopN notI (s.data.toList.drop i)) (s.data.toList.drop i).length with h | h
  · have h2 := stopN_end h
    rw [List.getElem_drop] at h2
    refine noJ_low (by omega) ?_
    simp only [notI, decide_eq_false_iff_not, Decidable.not_not] at h2
    omega
  · have : i + stopN notI (s.data.toList.drop i) = s.size := by omega
    rw [this]; exact noJ_size s
theorem signL_kind {l : List UInt8} {k : Int} {w : ByteArray} {o : Int} {n : Nat} (h : signL l = some (k, w, o, n)) : k ≠ 0 := by
  unfold signL at h
  split at h
  · unfold plainL at h
    repeat' split at h
    all_goals first
      | (cases h; done)
      | (simp only [Option.some.injEq, Prod.mk.injEq] at h; obtain ⟨rfl, _⟩ := h; first | decide | assumption)
  · unfold atomL at h
    split at h
    · cases h
    · simp only [Option.some.injEq, Prod.mk.injEq] at h; obtain ⟨rfl, _⟩ := h; decide
theorem p_pall (s : ByteArray) (hs : s.size ≤ 1000000) : PCalls Tryz.prog 61 [.str s] (resV (allT s)) := by
  have hl := len_size s
  refine pcalls_of rfl (free_resV _) (ACalls.deep (acalls_of mixed J_token_All_ok (Nat.le_of_ble_eq_true rfl) ?_)); simp only [J_token_All, wk,eq_self,Nat.reduceEqDiff,reduceCtorEq,↓reduceIte]
  unfold allT
  refine ⟨fun hbig => ?_, fun hbig => ?_⟩
  · rw [if_pos (by omega)]
    simp only [rdpw, resV, vToks, toksC]
    rfl
  rw [if_neg (by omega)]
  refine W_loop (fun m fr h' => ∃ (p e : Nat) (acc : List Tok), p ≤ s.size ∧ e ≤ s.size ∧ m = s.size - p ∧ acc.length ≤ 1000 ∧ noJ s e ∧ scan s.data.toList 0 [] = scan (s.data.toList.drop (max p e)) (max p e) acc ∧ fr = [(0, .str s), (5, .lst (.own 85) acc.length (toksC acc)), (6, .int .i64 e), (15, .itr s p)]) s.size ⟨0, 0, [], by omega, by omega, by omega, by simp, fun p hp => by omega, rfl, rfl⟩ ?_
  rintro m fr h' ⟨p, e, acc, hp, he, rfl, hacc, hj, hscan, rfl⟩
  simp only [J_token_All_j2, wk,eq_self,Nat.reduceEqDiff,reduceCtorEq,↓reduceIte]
  refine ⟨fun hlt => ?_, fun hge => ?_⟩
  · have hpl : p < s.size := by omega
    have hal : p < s.data.toList.length := by omega
    have hd : s.data.toList.drop p = s.data.toList[p] :: s.data.toList.drop (p + 1) := List.drop_eq_getElem_cons hal
    obtain ⟨b, hb⟩ : ∃ b, b = s.data.toList[p] := ⟨_, rfl⟩
    rw [← hb] at hd
    have hone := step_one hpl
    have hlo : b.toNat < 128 → Utf8.decode s p = (b.toNat, 1) := fun h => by rw [dec_lt hal (by rw [← hb]; exact h), hb]
    have hhi : ¬ b.toNat < 128 → 128 ≤ (Utf8.decode s p).1 := fun h => (dec_ge hal (by rw [← hb]; exact h)).1
    have q := p_psign s p (Utf8.decode s p).1 hs hpl rfl
    rw [hd] at q
    obtain ⟨v, hv⟩ : ∃ v, v = (Utf8.decode s p).1 := ⟨_, rfl⟩
    obtain ⟨d, hdd⟩ : ∃ d, d = (Utf8.decode s p).2 := ⟨_, rfl⟩
    rw [← hv] at q hhi
    rw [← hdd] at hone
    simp only [← hv, ← hdd]
    have ch : ∀ n : Nat, n < 128 → ((v : Int) = n ↔ b.toNat = n) := fun n hn => by
      by_cases h : b.toNat < 128
      · have := congrArg Prod.fst (hlo h); simp only at this; omega
      · have := hhi h; omega
    have c32 := ch 32 (by omega)
    have c9 := ch 9 (by omega)
    have c10 := ch 10 (by omega)
    have c35 := ch 35 (by omega)
    have d1 : b.toNat < 128 → d = 1 := fun h => by have := congrArg Prod.snd (hlo h); simp only at this; omega
    -- on with the same tokens
    have on : ∀ e' : Nat, e' ≤ s.size → noJ s e' → scan s.data.toList 0 [] = scan (s.data.toList.drop (max (p + d) e')) (max (p + d) e') acc → ∃ m, m < s.size - p ∧ ∃ (p' e'' : Nat) (acc' : List Tok), p' ≤ s.size ∧ e'' ≤ s.size ∧ m = s.size - p' ∧ acc'.length ≤ 1000 ∧ noJ s e'' ∧ scan s.data.toList 0 [] = scan (s.data.toList.drop (max p' e'')) (max p' e'') acc' ∧ [(0, AV.str s), (5, .lst (.own 85) acc.length (toksC acc)), (6, .int .i64 e'), (15, .itr s (p + d))] = [(0, .str s), (5, .lst (.own 85) acc'.length (toksC acc')), (6, .int .i64 e''), (15, .itr s p')] := fun e' h1 h2 h3 =>
      ⟨s.size - (p + d), by omega, p + d, e', acc, by omega, h1, rfl, hacc, h2, h3, rfl⟩
    have far : p < e → scan s.data.toList 0 [] = scan (s.data.toList.drop (max (p + d) e)) (max (p + d) e) acc := fun h => by
      have := hj p h
      rw [← hdd] at this
      rw [hscan, show max (p + d) e = max p e by omega]
    have hsc : ¬ p < e → scan s.data.toList 0 [] = if blankB b = true then scan (s.data.toList.drop (p + 1)) (p + 1) acc
        else if b.toNat = 35 then scan (s.data.toList.drop (p + stopN notI (s.data.toList.drop p))) (p + stopN notI (s.data.toList.drop p)) acc
        else match signL (s.data.toList.drop p) with
          | none => ([], p, 2)
          | some (k, w, o, n) => if acc.length = 1000 then ([], p, 3) else scan (s.data.toList.drop (p + n)) (p + n) (acc ++ [⟨k, w, o, p⟩]) := fun h => by
      rw [hscan, show max p e = p by omega]
      rw [hd, scan_cons, ← hd]
      simp only [List.drop_drop]
      try rfl
    have blank : ¬ p < e → blankB b = true → scan s.data.toList 0 [] = scan (s.data.toList.drop (max (p + d) e)) (max (p + d) e) acc := fun h h2 => by
      have : d = 1 := d1 (by simp [blankB] at h2; omega)
      rw [hsc h, if_pos h2, show max (p + d) e = p + 1 by omega]
    have hblank : ∀ n : Nat, n = 32 ∨ n = 9 ∨ n = 10 → b.toNat = n → blankB b = true := fun n h h2 => by
      rw [← h2] at h
      rcases h with h | h | h <;> simp [blankB, h]
    refine ⟨fun nlt => ⟨fun n32 => ⟨fun n9 => ⟨fun ev => ?_, fun n10 => ⟨fun ev => ?_, fun n35 => ?_⟩⟩, fun ev => ?_⟩, fun ev => ?_⟩, fun hpe => ?_⟩
    · exact on e he hj (blank (by omega) (hblank 10 (by omega) (c10.1 ev)))
    · have h35 := c35.1 ev
      obtain ⟨k1, k2⟩ := noJ_note (s := s) (i := p) hp
      have q2 := p_stop (f := 97) p_not hi_not s p hs hp
      have h1 : 1 ≤ stopN notI (s.data.toList.drop p) := by rw [hd]; exact note_one h35
      obtain ⟨n, hn⟩ : ∃ n, n = stopN notI (s.data.toList.drop p) := ⟨_, rfl⟩
      rw [← hn] at k1 k2 q2 h1
      rw [show ((p : Int) + (n : Nat)) = ((p + n : Nat) : Int) by omega] at q2
      have hd1 := d1 (by omega)
      refine PCalls.use q2 ?_; simp only [wk,eq_self,Nat.reduceEqDiff,reduceCtorEq,↓reduceIte]
      refine on (p + n) k1 k2 ?_
      rw [hsc (by omega), if_neg (by simp [blankB, h35]), if_pos h35, ← hn, show max (p + d) (p + n) = p + n by omega]
    · have hsc2 := hsc (by omega)
      rw [if_neg (by simp [blankB]; omega), if_neg (by omega)] at hsc2
      unfold psV at q
      rw [hd] at hsc2
      cases hsg : signL (b :: s.data.toList.drop (p + 1)) with
      | none =>
        rw [hsg] at q hsc2
        refine PCalls.use (q) ?_; simp only [wk,eq_self,Nat.reduceEqDiff,Nat.reduceAdd,Nat.reduceLeDiff,reduceCtorEq,↓reduceIte]
        simp only [hsc2, resV, vToks, toksC, rdpw]
        rfl
      | some x =>
        obtain ⟨k, w, o, n⟩ := x
        rw [hsg] at q hsc2
        have hk := signL_kind hsg
        have hasc := signL_ascii hsg
        have hn1 := hasc.1
        rw [← hd] at hasc
        obtain ⟨k1, k2⟩ := ascii_at (by omega) hasc
        refine PCalls.use (q) ?_; simp only [wk,eq_self,Nat.reduceEqDiff,Nat.reduceAdd,Nat.reduceMul,Nat.reduceLeDiff,reduceCtorEq,↓reduceIte]
        have hjn := noJ_atB k1 k2
        have hdn := hjn p (by omega)
        rw [← hdd] at hdn
        refine ⟨fun h => absurd h hk, fun _ => ⟨fun h => ?_, fun h => ?_⟩⟩
        · simp only [hsc2, show acc.length = 1000 by omega, if_true, resV, vToks, toksC, rdpw]
          rfl
        · refine ⟨⟨by omega, by omega⟩, s.size - (p + d), by omega, p + d, p + n, acc ++ [⟨k, w, o, p⟩], by omega, k1, rfl, by simp; omega, hjn, ?_, ?_⟩
          · rw [hsc2]
            simp only
            rw [if_neg (by omega), show max (p + d) (p + n) = p + n by omega]
          · simp [toksC_sn]
    · exact on e he hj (blank (by omega) (hblank 9 (by omega) (c9.1 ev)))
    · exact on e he hj (blank (by omega) (hblank 32 (by omega) (c32.1 ev)))
    · exact on e he hj (far (by omega))
  · have hn : scan s.data.toList 0 [] = (acc, 0, 0) := by
      rw [hscan, List.drop_of_length_le (by omega)]
      rfl
    simp only [J_token_All_j1, hn, resV, vToks, rdpw, rdps_toks, wk,eq_self,Nat.reduceEqDiff,reduceCtorEq,↓reduceIte]
    rfl
end Go.Proofs.YtedaffmkpljlnaaGreat

/- A call that leaves all objects alone may be handed objects: for the call they stay as they are. What it tells is then known but for its lists. -/
namespace Go.Proofs.YtedaffmkpljlnaaGreat
set_option linter.unusedSimpArgs false
set_option linter.unusedVariables false
open Go.RowKit Go.Lib

mutual
def fgt : AV → AV
  | .lst _ _ _ => .opq
  | .fp _ => .opq
  | .fn _ _ => .opq
  | .fnb _ _ => .opq
  | .ptr _ _ => .opq
  | .hs _ _ => .opq
  | .hsc _ _ _ => .opq
  | .itr _ _ => .opq
  | .omp _ _ _ => .opq
  | .mp _ => .opq
  | .fmp _ _ => .opq
  | .stk _ _ _ => .opq
  | .frn _ => .opq
  | .agg l => .agg (fgts l)
  | .tup l => .tup (fgts l)
  | a => a
def fgts : List AV → List AV
  | [] => []
  | a :: l => fgt a :: fgts l
end
theorem plain_fgt (a : AV) : plain (fgt a) = true := by
  cases a <;> simp [fgt, plain]
theorem plains_fgt : ∀ l : List AV, plains (fgts l)
  | [] => by intro a ha; simp [fgts] at ha
  | a :: l => by
    intro b hb
    simp only [fgts, List.mem_cons] at hb
    rcases hb with rfl | hb
    · exact plain_fgt a
    · exact plains_fgt l b hb
mutual
theorem Rep.fgt {g g' : Gh} : ∀ {v : Value} {a : AV}, Rep g v a → Rep g' v (fgt a)
  | _, _, .bool b => by simp only [Go.Proofs.YtedaffmkpljlnaaGreat.fgt]; exact .bool b
  | _, _, .int k n => by simp only [Go.Proofs.YtedaffmkpljlnaaGreat.fgt]; exact .int k n
  | _, _, .str s => by simp only [Go.Proofs.YtedaffmkpljlnaaGreat.fgt]; exact .str s
  | _, _, .nilp => by simp only [Go.Proofs.YtedaffmkpljlnaaGreat.fgt]; exact .nilp
  | _, _, .ptr id off b h => by simp only [Go.Proofs.YtedaffmkpljlnaaGreat.fgt]; exact .opq _ rfl (fun h => by cases h)
  | _, _, .fp b off vs l h hp hl => by simp only [Go.Proofs.YtedaffmkpljlnaaGreat.fgt]; exact .opq _ rfl (fun h => by cases h)
  | _, _, .lst b off n c f vs l h hp h1 h2 hl => by simp only [Go.Proofs.YtedaffmkpljlnaaGreat.fgt]; exact .opq _ rfl (fun h => by cases h)
  | _, _, .lst0 a c f h => by simp only [Go.Proofs.YtedaffmkpljlnaaGreat.fgt]; exact .opq _ rfl (fun h => by cases h)
  | _, _, .hs id b n c h h1 => by simp only [Go.Proofs.YtedaffmkpljlnaaGreat.fgt]; exact .opq _ rfl (fun h => by cases h)
  | _, _, .hsc id b n c h h1 => by simp only [Go.Proofs.YtedaffmkpljlnaaGreat.fgt]; exact .opq _ rfl (fun h => by cases h)
  | _, _, .agg vs l h hp hl => by simp only [Go.Proofs.YtedaffmkpljlnaaGreat.fgt]; exact .agg vs _ h (plains_fgt l) (RepL.fgt hl)
  | _, _, .tup vs l hp hl => by simp only [Go.Proofs.YtedaffmkpljlnaaGreat.fgt]; exact .tup vs _ (plains_fgt l) (RepL.fgt hl)
  | _, _, .fn f vs l hp hl => by simp only [Go.Proofs.YtedaffmkpljlnaaGreat.fgt]; exact .opq _ rfl (fun h => by cases h)
  | _, _, .fnb f vs l hp hl => by simp only [Go.Proofs.YtedaffmkpljlnaaGreat.fgt]; exact .opq _ rfl (fun h => by cases h)
  | _, _, .nilf => by simp only [Go.Proofs.YtedaffmkpljlnaaGreat.fgt]; exact .nilf
  | _, _, .opq v h h' => by simp only [Go.Proofs.YtedaffmkpljlnaaGreat.fgt]; exact .opq v h h'
  | _, _, .itr b s p => by simp only [Go.Proofs.YtedaffmkpljlnaaGreat.fgt]; exact .opq _ rfl (fun h => by cases h)
  | _, _, .omp b ks vs => by simp only [Go.Proofs.YtedaffmkpljlnaaGreat.fgt]; exact .opq _ rfl (fun h => by cases h)
  | _, _, .mp b => by simp only [Go.Proofs.YtedaffmkpljlnaaGreat.fgt]; exact .opq _ rfl (fun h => by cases h)
  | _, _, .fmp b obj ks vs h1 h2 => by simp only [Go.Proofs.YtedaffmkpljlnaaGreat.fgt]; exact .opq _ rfl (fun h => by cases h)
  | _, _, .stk a c e o l h1 h2 h3 => by simp only [Go.Proofs.YtedaffmkpljlnaaGreat.fgt]; exact .opq _ rfl (fun h => by cases h)
  | _, _, .raw a m c h1 h2 => by simp only [Go.Proofs.YtedaffmkpljlnaaGreat.fgt]; exact .raw a m c h1 h2
  | _, _, .rawp b i m c => by simp only [Go.Proofs.YtedaffmkpljlnaaGreat.fgt]; exact .rawp b i m c
  | _, _, .frn v Q S W0 h1 h2 h3 h4 => by simp only [Go.Proofs.YtedaffmkpljlnaaGreat.fgt]; exact .opq _ h1 (fun e => by obtain ⟨b, o, h2⟩ := h2; rw [h2] at e; cases e)
theorem RepL.fgt {g g' : Gh} : ∀ {vs : List Value} {l : List AV}, RepL g vs l → RepL g' vs (fgts l)
  | _, _, .nil => by simp only [fgts]; exact .nil
  | _, _, .cons h hr => by simp only [fgts]; exact .cons (Rep.fgt h) (RepL.fgt hr)
end
noncomputable def Gh.still (g : Gh) (h : Hp) (w : World) : Gh := { g.bare with C := (g.ice h w).C }
open Classical in
noncomputable def Gh.melt (g g1 : Gh) : Gh := { g with C := fun b o => if (∃ i, g.io i = some b) ∨ (∃ x, g.own b = some x) then g.C b o else g1.C b o, X := g1.X }
section
variable {P : Program} {g : Gh} {h : Hp} {w : World}
theorem Sim.still (hs : Sim P g h w) : Sim P (g.still h w) [] w := by
  have hb := hs.bare
  refine ⟨fun b o u hu => ?_, (fun id s l hl => by simp at hl), hb.inj, hb.dom, hb.flt, hb.olt, hb.hole, hb.fro⟩
  simp only [Gh.still, Gh.ice] at hu
  split at hu
  · next u' hu' => simp only [Option.some.injEq] at hu; subst hu; exact hs.prot b o _ hu'
  · split at hu
    · simp only [Option.filter_eq_some_iff] at hu; exact hu
    · cases hu
theorem Sim.melt {g1 : Gh} {w1 : World} {h1 : Hp} (hs : Sim P g h w) (hev : Ev (g.still h w) w g1 w1) (hs1 : Sim P g1 h1 w1) : Sim P (g.melt g1) h w1 ∧ Ev g w (g.melt g1) w1 := by
  have hC : ∀ b o v, g.C b o = some v → g1.C b o = some v := fun b o v hc => hev.le.C b o v (ice_le hc)
  have hle : GLe g (g.melt g1) := ⟨fun b o v hc => by
    simp only [Gh.melt]
    split
    · exact hc
    · exact hC b o v hc, fun _ _ h => h, fun b o hx => hev.le.X b o hx⟩
  have hin : ∀ b, ((∃ i, g.io i = some b) ∨ (∃ x, g.own b = some x)) → ∀ o, (g.melt g1).C b o = g.C b o := fun b hb o => by
    simp only [Gh.melt]; rw [if_pos hb]
  refine ⟨⟨fun b o v hc => ?_, ?_, hs.inj, fun i b hi => ⟨(hs.dom i b hi).1, Nat.lt_of_lt_of_le (hs.dom i b hi).2 hev.size⟩, fun b hb => Nat.lt_of_lt_of_le (hs.flt b hb) hev.size, fun b x hx => Nat.lt_of_lt_of_le (hs.olt b x hx) hev.size, hs.hole, fun b o hx => ?_⟩, ⟨hle, fun _ => .rfl, fun b hb => ?_, hev.os, hev.tape, hev.output, hev.size, fun b hb => hev.Fx b (.inl hb)⟩⟩
  · simp only [Gh.melt] at hc
    split at hc
    · exact hs1.prot b o v (hC b o v hc)
    · exact hs1.prot b o v hc
  · intro id s l hl
    refine (hs.obj id s l hl).keep hle (fun b hb h8 h9 => ?_) (fun b i o1 o3 o4 => ?_)
    · obtain ⟨q1, _, _⟩ := hev.Fb b (.inr (.inl ⟨id, hb⟩))
      exact ⟨q1, hin b (.inl ⟨id, hb⟩), h8, h9⟩
    · obtain ⟨q1, _, _⟩ := hev.Fb b (.inr (.inr ⟨_, o1⟩))
      exact ⟨q1, o1, hin b (.inr ⟨_, o1⟩), o3, o4⟩
  · have hbk : (∃ i, g.io i = some b) ∨ (∃ x, g.own b = some x) → g.X b = some o := fun hh => by
      have := hev.Fx b (.inr hh)
      rw [show (g.still h w).X b = g.X b from rfl] at this
      rw [← this]; exact hx
    refine ⟨(hs1.fro b o hx).1, ?_, fun i hi => ?_⟩
    · cases ho : g.own b with
      | none => exact ho
      | some x => exact absurd (hs.fro b o (hbk (.inr ⟨x, ho⟩))).2.1 (by rw [ho]; simp)
    · exact (hs.fro b o (hbk (.inl ⟨i, hi⟩))).2.2 i hi
  · obtain ⟨q1, q2, _⟩ := hev.Fb b (.inl hb)
    refine ⟨q1, fun o => ?_, rfl, fun _ h => h⟩
    simp only [Gh.melt]
    split
    · rfl
    · next hn =>
      rw [q2 o]
      simp only [Gh.still, Gh.ice]
      cases hg : g.C b o with
      | some v => rfl
      | none =>
        simp only
        rw [if_neg]
        rintro ⟨id, s, l, k1, _⟩
        exact hn (.inl ⟨id, k1⟩)
theorem PCalls.iced {f : FuncId} {args args' : List AV} {v : AV} (hp : PCalls P f args v) (h : Hp) (ha : fzs h args' = args) : ACalls P f args' h (fun a h' => a = fgt v ∧ h = h') := by
  obtain ⟨hfa, hfv, hent, hc⟩ := hp
  refine ⟨hent, fun g w vargs hs hns hr hpl => ?_⟩
  have hr1 := RepL.ice hs hr (by rw [ha]; exact hfa)
  rw [ha] at hr1
  have hpa : plains args := by rw [← ha]; exact plains_fz hpl
  refine (hc (g.still h w) w vargs hs.still (fun b k h => by cases h) (RepL.free (g := g.ice h w) (g' := g.still h w) (fun _ _ _ h => h) (fun _ _ h => h) hr1 hfa) hpa).mono ?_
  rintro e w1 ⟨x, a, h1, g1, rfl, r1, r2, r3, r4, r5, rfl, rfl⟩
  obtain ⟨s1, s2⟩ := hs.melt r1 r2
  exact ⟨x, _, h, g.melt g1, rfl, s2, s1, hns, Rep.fgt r4, plain_fgt _, rfl, rfl⟩
end
theorem fgt_str (s : ByteArray) : fgt (.str s) = .str s := by simp only [fgt]
end Go.Proofs.YtedaffmkpljlnaaGreat

namespace Go.Proofs.YtedaffmkpljlnaaGreat
open Go.RowKit
def J_law06_NormShows_j1 : ACode :=
 .keep [1,5,6] (.seq (.ops [⟨some 39,none,.bsl 43 1 0 [] [],none⟩,
 ⟨some 40,none,.mv (.t 1),none⟩,
 ⟨some 41,none,.appo 43 1 16 39 (.t 40),none⟩,
 ⟨some 8,none,.mvo 41,none⟩])
 (.keep [1,5,6,8] (.seq (.ops [⟨some 43,none,.mv (.t 5),none⟩,
 ⟨some 44,none,.mv (.t 8),none⟩,
 ⟨some 45,none,.call (.f 17) [(.t 43),(.t 44)],none⟩,
 ⟨some 42,none,.mv (.t 45),none⟩,
 ⟨some 46,none,.ext 0 (.t 42),none⟩,
 ⟨some 47,none,.ext 1 (.t 42),none⟩,
 ⟨some 9,none,.mv (.t 46),none⟩,
 ⟨some 10,none,.mv (.t 47),none⟩])
 (.keep [1,6,8,9,10] (.seq (.ops [⟨some 49,none,.mv (.t 6),none⟩,
 ⟨some 50,none,.mv (.t 1),none⟩,
 ⟨some 51,none,.call (.f 18) [(.t 49),(.t 50)],none⟩,
 ⟨some 48,none,.mv (.t 51),none⟩,
 ⟨some 52,none,.ext 0 (.t 48),none⟩,
 ⟨some 53,none,.ext 1 (.t 48),none⟩,
 ⟨some 11,none,.mv (.t 52),none⟩,
 ⟨some 12,none,.mv (.t 53),none⟩])
 (.keep [1,8,9,10,11,12] (.seq (.ops [⟨some 54,none,.mv (.t 9),none⟩,
 ⟨some 55,none,.mv (.t 11),none⟩,
 ⟨some 56,none,.bin .eql (.t 54) (.t 55),none⟩,
 ⟨some 57,none,.mv (.t 56),none⟩,
 ⟨some 58,(some (57,true)),.mv (.t 10),none⟩,
 ⟨some 59,(some (57,true)),.mv (.t 12),none⟩,
 ⟨some 60,(some (57,true)),.bin .eql (.t 58) (.t 59),none⟩,
 ⟨some 61,none,.pick (.t 57) (.t 60) (.c (.bool false)),none⟩,
 ⟨some 62,none,.mv (.t 61),none⟩,
 ⟨some 63,(some (62,true)),.mv (.t 8),none⟩,
 ⟨some 64,(some (62,true)),.mv (.t 1),none⟩,
 ⟨some 65,(some (62,true)),.call (.f 14) [(.t 63),(.t 64)],none⟩,
 ⟨some 66,none,.pick (.t 62) (.t 65) (.c (.bool false)),none⟩,
 ⟨some 4,none,.mv (.t 66),none⟩])
 (.ret))))))))
def J_law06_NormShows_j2 : ACode :=
 .seq (.ops [⟨some 30,none,.bin .lss (.t 29) (.t 28),none⟩])
 (.keep [1,5,6,28,29,30] (.seq (.cond (.t 30)
 (.skip)
 (.exit 0))
 (.keep [1,5,6,28,29] (.seq (.block 1 (.seq (.ops [⟨some 31,none,.mv (.t 29),none⟩,
 ⟨some 7,none,.mv (.t 31),none⟩])
 (.keep [1,5,6,7,28,29] (.seq (.ops [⟨some 32,none,.mv (.t 1),none⟩,
 ⟨some 33,none,.mv (.t 7),none⟩,
 ⟨some 34,none,.idxa 1 (.t 32) (.t 33),none⟩,
 ⟨some 35,none,.load none (.t 34),none⟩,
 ⟨some 36,none,.lens (.t 35),none⟩,
 ⟨some 37,none,.bin .gtr (.t 36) (.c (.int .i64 100)),none⟩])
 (.keep [1,5,6,28,29,37] (.cond (.t 37)
 (.seq (.ops [⟨some 4,none,.mv (.c (.bool true)),none⟩])
 (.ret))
 (.skip)))))))
 (.keep [1,5,6,28,29] (.ops [⟨some 38,none,.bin .add (.t 29) (.c (.int .i64 1)),none⟩,
 ⟨some 29,none,.mv (.t 38),none⟩]))))))
def J_law06_NormShows : AFn :=
 ⟨67,[.t 4],.seq (.ops [⟨some 2,none,.box (.t 0) [],none⟩,
 ⟨some 4,none,.mv (.c (.bool false)),none⟩])
 (.keep [1,2] (.seq (.seq (.ops [⟨some 13,none,.call (.f 9) [],none⟩,
 ⟨some 14,none,.not (.t 13),none⟩])
 (.keep [1,2,14] (.cond (.t 14)
 (.seq (.ops [⟨some 4,none,.mv (.c (.bool false)),none⟩])
 (.ret))
 (.skip))))
 (.keep [1,2] (.seq (.ops [⟨some 16,none,.load (some 6) (.t 2),none⟩,
 ⟨some 17,none,.call (.f 10) [(.t 16)],none⟩,
 ⟨some 15,none,.mv (.t 17),none⟩,
 ⟨some 18,none,.ext 0 (.t 15),none⟩,
 ⟨some 19,none,.ext 1 (.t 15),none⟩,
 ⟨some 5,none,.mv (.t 18),none⟩,
 ⟨some 6,none,.mv (.t 19),none⟩])
 (.keep [1,5,6] (.seq (.seq (.ops [⟨some 20,none,.mv (.t 5),none⟩,
 ⟨some 21,none,.pnil false (.t 20),none⟩,
 ⟨some 22,none,.mv (.t 21),none⟩,
 ⟨some 23,(some (22,false)),.mv (.t 1),none⟩,
 ⟨some 24,(some (22,false)),.lenl (.t 23),none⟩,
 ⟨some 25,(some (22,false)),.bin .gtr (.t 24) (.c (.int .i64 60)),none⟩,
 ⟨some 26,none,.pick (.t 22) (.c (.bool true)) (.t 25),none⟩])
 (.keep [1,5,6,26] (.cond (.t 26)
 (.seq (.ops [⟨some 4,none,.mv (.c (.bool true)),none⟩])
 (.ret))
 (.skip))))
 (.keep [1,5,6] (.seq (.seq (.ops [⟨some 27,none,.mv (.t 1),none⟩,
 ⟨some 28,none,.lenl (.t 27),none⟩,
 ⟨some 29,none,.mv (.c (.int .i64 0)),none⟩])
 (.keep [1,5,6,28,29] (.block 0 (.loop [1,5,6,28,29] (J_law06_NormShows_j2)))))
 (J_law06_NormShows_j1)))))))))⟩
theorem J_law06_NormShows_ok : chkFn Tryz.prog 5 J_law06_NormShows = true := by kernel_rfl
def J_law06_awake : AFn :=
 ⟨136,[.t 0],.seq (.ops [⟨some 0,none,.mv (.c (.bool false)),none⟩])
 (.keep [] (.seq (.ops [⟨some 23,none,.bsl 9 1 0 [] [],none⟩,
 ⟨some 24,none,.bsl 9 1 1 [(.str ⟨#[]⟩)] [(0,1,(.c (.str ⟨#[107]⟩)))],none⟩,
 ⟨some 25,none,.bsl 9 1 0 [] [],none⟩,
 ⟨some 26,none,.bsl 9 1 2 [(.str ⟨#[]⟩),(.str ⟨#[]⟩)] [(0,1,(.c (.str ⟨#[97]⟩))),(1,1,(.c (.str ⟨#[98]⟩)))],none⟩,
 ⟨some 27,none,.bsl 9 1 0 [] [],none⟩,
 ⟨some 28,none,.bsl 9 1 1 [(.str ⟨#[]⟩)] [(0,1,(.c (.str ⟨#[114]⟩)))],none⟩,
 ⟨some 29,none,.bar 1 [(.lst .clip 0 []),(.lst .clip 0 []),(.lst .clip 0 []),(.lst .clip 0 []),(.lst .clip 0 []),(.lst .clip 0 [])] [(0,1,(.t 23)),(1,1,(.t 24)),(2,1,(.t 25)),(3,1,(.t 26)),(4,1,(.t 27)),(5,1,(.t 28))],none⟩,
 ⟨some 30,none,.call (.f 26) [(.t 29)],none⟩,
 ⟨some 22,none,.mv (.t 30),none⟩,
 ⟨some 31,none,.ext 0 (.t 22),none⟩,
 ⟨some 32,none,.ext 1 (.t 22),none⟩,
 ⟨some 1,none,.mv (.t 31),none⟩,
 ⟨some 2,none,.mv (.t 32),none⟩])
 (.keep [1,2] (.seq (.seq (.ops [⟨some 33,none,.mv (.t 1),none⟩,
 ⟨some 34,none,.pnil false (.t 33),none⟩,
 ⟨some 35,none,.mv (.t 34),none⟩,
 ⟨some 36,(some (35,false)),.mv (.t 2),none⟩,
 ⟨some 37,(some (35,false)),.bin .neq (.t 36) (.c (.int .i64 0)),none⟩,
 ⟨some 38,none,.pick (.t 35) (.c (.bool true)) (.t 37),none⟩])
 (.keep [1,38] (.cond (.t 38)
 (.seq (.ops [⟨some 0,none,.mv (.c (.bool false)),none⟩])
 (.ret))
 (.skip))))
 (.keep [1] (.seq (.ops [⟨some 40,none,.mv (.t 1),none⟩,
 ⟨some 41,none,.call (.f 15) [(.t 40),(.c (.str ⟨#[97,32,102,111,114,32,98,32,97,110,100,32,97]⟩))],none⟩,
 ⟨some 39,none,.mv (.t 41),none⟩,
 ⟨some 42,none,.ext 0 (.t 39),none⟩,
 ⟨some 43,none,.ext 1 (.t 39),none⟩,
 ⟨some 44,none,.ext 2 (.t 39),none⟩,
 ⟨some 3,none,.mv (.t 42),none⟩,
 ⟨some 4,none,.mv (.t 43),none⟩,
 ⟨some 5,none,.mv (.t 44),none⟩])
 (.keep [1,3,4,5] (.seq (.ops [⟨some 46,none,.mv (.t 1),none⟩,
 ⟨some 47,none,.mv (.t 3),none⟩,
 ⟨some 48,none,.call (.f 17) [(.t 46),(.t 47)],none⟩,
 ⟨some 45,none,.mv (.t 48),none⟩,
 ⟨some 49,none,.ext 0 (.t 45),none⟩,
 ⟨some 50,none,.ext 1 (.t 45),none⟩,
 ⟨some 6,none,.mv (.t 49),none⟩,
 ⟨some 7,none,.mv (.t 50),none⟩])
 (.keep [1,3,4,5,6,7] (.seq (.ops [⟨some 52,none,.mv (.t 1),none⟩,
 ⟨some 53,none,.call (.f 15) [(.t 52),(.c (.str ⟨#[97,32,97,115,32,114,111,108,101,58,114,124,98]⟩))],none⟩,
 ⟨some 51,none,.mv (.t 53),none⟩,
 ⟨some 54,none,.ext 0 (.t 51),none⟩,
 ⟨some 55,none,.ext 1 (.t 51),none⟩,
 ⟨some 56,none,.ext 2 (.t 51),none⟩,
 ⟨some 8,none,.mv (.t 54),none⟩,
 ⟨some 9,none,.mv (.t 55),none⟩,
 ⟨some 10,none,.mv (.t 56),none⟩])
 (.keep [1,3,4,5,6,7,8,10] (.seq (.ops [⟨some 58,none,.mv (.t 1),none⟩,
 ⟨some 59,none,.mv (.t 8),none⟩,
 ⟨some 60,none,.call (.f 17) [(.t 58),(.t 59)],none⟩,
 ⟨some 57,none,.mv (.t 60),none⟩,
 ⟨some 61,none,.ext 0 (.t 57),none⟩,
 ⟨some 62,none,.ext 1 (.t 57),none⟩,
 ⟨some 11,none,.mv (.t 61),none⟩,
 ⟨some 12,none,.mv (.t 62),none⟩])
 (.keep [1,3,4,5,6,7,8,10,11] (.seq (.ops [⟨some 64,none,.mv (.t 1),none⟩,
 ⟨some 65,none,.build [(.int .i64 0),(.int .i64 0),(.str ⟨#[]⟩)] [(0,1,(.c (.int .i64 1))),(1,1,(.c (.int .i64 3))),(2,1,(.c (.str ⟨#[97]⟩)))],none⟩,
 ⟨some 66,none,.build [(.int .i64 0),(.int .i64 0),(.str ⟨#[]⟩)] [(0,1,(.c (.int .i64 1))),(1,1,(.c (.int .i64 3))),(2,1,(.c (.str ⟨#[122]⟩)))],none⟩,
 ⟨some 67,none,.build [(.int .i64 0),(.int .i64 0),(.str ⟨#[]⟩)] [(0,1,(.c (.int .i64 2)))],none⟩,
 ⟨some 68,none,.bsl 52 3 3 [(.int .i64 0),(.int .i64 0),(.str ⟨#[]⟩),(.int .i64 0),(.int .i64 0),(.str ⟨#[]⟩),(.int .i64 0),(.int .i64 0),(.str ⟨#[]⟩)] [(0,3,(.t 65)),(3,3,(.t 66)),(6,3,(.t 67))],none⟩,
 ⟨some 69,none,.call (.f 12) [(.t 64),(.t 68)],none⟩,
 ⟨some 63,none,.mv (.t 69),none⟩,
 ⟨some 70,none,.ext 0 (.t 63),none⟩,
 ⟨some 71,none,.ext 1 (.t 63),none⟩,
 ⟨some 72,none,.ext 2 (.t 63),none⟩,
 ⟨some 13,none,.mv (.t 70),none⟩,
 ⟨some 14,none,.mv (.t 71),none⟩,
 ⟨some 15,none,.mv (.t 72),none⟩])
 (.keep [1,3,4,5,6,7,8,10,11,14,15] (.seq (.ops [⟨some 74,none,.mv (.t 1),none⟩,
 ⟨some 75,none,.call (.f 15) [(.t 74),(.c (.str ⟨#[97,32,97,110,100]⟩))],none⟩,
 ⟨some 73,none,.mv (.t 75),none⟩,
 ⟨some 76,none,.ext 0 (.t 73),none⟩,
 ⟨some 77,none,.ext 1 (.t 73),none⟩,
 ⟨some 78,none,.ext 2 (.t 73),none⟩,
 ⟨some 16,none,.mv (.t 76),none⟩,
 ⟨some 17,none,.mv (.t 77),none⟩,
 ⟨some 18,none,.mv (.t 78),none⟩])
 (.keep [3,4,5,6,7,8,10,11,14,15,17,18] (.seq (.ops [⟨some 80,none,.call (.f 15) [(.c .nilp),(.c (.str ⟨#[97]⟩))],none⟩,
 ⟨some 79,none,.mv (.t 80),none⟩,
 ⟨some 81,none,.ext 0 (.t 79),none⟩,
 ⟨some 82,none,.ext 1 (.t 79),none⟩,
 ⟨some 83,none,.ext 2 (.t 79),none⟩,
 ⟨some 19,none,.mv (.t 81),none⟩,
 ⟨some 20,none,.mv (.t 82),none⟩,
 ⟨some 21,none,.mv (.t 83),none⟩])
 (.keep [3,4,5,6,7,8,10,11,14,15,17,18,21] (.seq (.ops [⟨some 84,none,.mv (.t 3),none⟩,
 ⟨some 85,none,.lenl (.t 84),none⟩,
 ⟨some 86,none,.bin .eql (.t 85) (.c (.int .i64 3)),none⟩,
 ⟨some 87,none,.mv (.t 86),none⟩,
 ⟨some 88,(some (87,true)),.mv (.t 4),none⟩,
 ⟨some 89,(some (87,true)),.bin .eql (.t 88) (.c (.int .i64 0)),none⟩,
 ⟨some 90,none,.pick (.t 87) (.t 89) (.c (.bool false)),none⟩,
 ⟨some 91,none,.mv (.t 90),none⟩,
 ⟨some 92,(some (91,true)),.mv (.t 5),none⟩,
 ⟨some 93,(some (91,true)),.bin .eql (.t 92) (.c (.int .i64 0)),none⟩,
 ⟨some 94,none,.pick (.t 91) (.t 93) (.c (.bool false)),none⟩,
 ⟨some 95,none,.mv (.t 94),none⟩,
 ⟨some 96,(some (95,true)),.mv (.t 6),none⟩,
 ⟨some 97,(some (95,true)),.bin .eql (.t 96) (.c (.str ⟨#[97,32,97,110,100,32,68,32,124,32,98,32,97,110,100,32,97,32,124,32,98]⟩)),none⟩,
 ⟨some 98,none,.pick (.t 95) (.t 97) (.c (.bool false)),none⟩,
 ⟨some 99,none,.mv (.t 98),none⟩,
 ⟨some 100,(some (99,true)),.mv (.t 7),none⟩,
 ⟨some 101,(some (99,true)),.bin .eql (.t 100) (.c (.int .i64 0)),none⟩,
 ⟨some 102,none,.pick (.t 99) (.t 101) (.c (.bool false)),none⟩,
 ⟨some 103,none,.mv (.t 102),none⟩,
 ⟨some 104,(some (103,true)),.mv (.t 8),none⟩,
 ⟨some 105,(some (103,true)),.lenl (.t 104),none⟩,
 ⟨some 106,(some (103,true)),.bin .eql (.t 105) (.c (.int .i64 1)),none⟩,
 ⟨some 107,none,.pick (.t 103) (.t 106) (.c (.bool false)),none⟩,
 ⟨some 108,none,.mv (.t 107),none⟩,
 ⟨some 109,(some (108,true)),.mv (.t 10),none⟩,
 ⟨some 110,(some (108,true)),.bin .eql (.t 109) (.c (.int .i64 0)),none⟩,
 ⟨some 111,none,.pick (.t 108) (.t 110) (.c (.bool false)),none⟩,
 ⟨some 112,none,.mv (.t 111),none⟩,
 ⟨some 113,(some (112,true)),.mv (.t 11),none⟩,
 ⟨some 114,(some (112,true)),.bin .eql (.t 113) (.c (.str ⟨#[97,32,97,115,32,114,111,108,101,58,114,32,124,32,98]⟩)),none⟩,
 ⟨some 115,none,.pick (.t 112) (.t 114) (.c (.bool false)),none⟩,
 ⟨some 116,none,.mv (.t 115),none⟩,
 ⟨some 117,(some (116,true)),.mv (.t 14),none⟩,
 ⟨some 118,(some (116,true)),.bin .eql (.t 117) (.c (.int .i64 1)),none⟩,
 ⟨some 119,none,.pick (.t 116) (.t 118) (.c (.bool false)),none⟩,
 ⟨some 120,none,.mv (.t 119),none⟩,
 ⟨some 121,(some (120,true)),.mv (.t 15),none⟩,
 ⟨some 122,(some (120,true)),.bin .eql (.t 121) (.c (.int .i64 10)),none⟩,
 ⟨some 123,none,.pick (.t 120) (.t 122) (.c (.bool false)),none⟩,
 ⟨some 124,none,.mv (.t 123),none⟩,
 ⟨some 125,(some (124,true)),.mv (.t 17),none⟩,
 ⟨some 126,(some (124,true)),.bin .eql (.t 125) (.c (.int .i64 5)),none⟩,
 ⟨some 127,none,.pick (.t 124) (.t 126) (.c (.bool false)),none⟩,
 ⟨some 128,none,.mv (.t 127),none⟩,
 ⟨some 129,(some (128,true)),.mv (.t 18),none⟩,
 ⟨some 130,(some (128,true)),.bin .eql (.t 129) (.c (.int .i64 2)),none⟩,
 ⟨some 131,none,.pick (.t 128) (.t 130) (.c (.bool false)),none⟩,
 ⟨some 132,none,.mv (.t 131),none⟩,
 ⟨some 133,(some (132,true)),.mv (.t 21),none⟩,
 ⟨some 134,(some (132,true)),.bin .eql (.t 133) (.c (.int .i64 2)),none⟩,
 ⟨some 135,none,.pick (.t 132) (.t 134) (.c (.bool false)),none⟩,
 ⟨some 0,none,.mv (.t 135),none⟩])
 (.ret)))))))))))))))))))))⟩
theorem J_law06_awake_ok : chkFn Tryz.prog 9 J_law06_awake = true := by kernel_rfl
def J_law06_tables_j1 : ACode :=
 .keep [1] (.seq (.ops [⟨some 19,none,.load (some 6) (.t 1),none⟩,
 ⟨some 20,none,.call (.f 26) [(.t 19)],none⟩,
 ⟨some 18,none,.mv (.t 20),none⟩,
 ⟨some 21,none,.ext 0 (.t 18),none⟩,
 ⟨some 22,none,.ext 1 (.t 18),none⟩,
 ⟨some 5,none,.mv (.t 21),none⟩,
 ⟨some 6,none,.mv (.t 22),none⟩])
 (.keep [1,5,6] (.seq (.ops [⟨some 24,none,.load (some 6) (.t 1),none⟩,
 ⟨some 25,none,.call (.f 27) [(.t 24)],none⟩,
 ⟨some 23,none,.mv (.t 25),none⟩,
 ⟨some 26,none,.ext 0 (.t 23),none⟩,
 ⟨some 27,none,.ext 1 (.t 23),none⟩,
 ⟨some 7,none,.mv (.t 26),none⟩,
 ⟨some 8,none,.mv (.t 27),none⟩])
 (.keep [5,6,7,8] (.seq (.seq (.ops [⟨some 28,none,.mv (.t 6),none⟩,
 ⟨some 29,none,.bin .neq (.t 28) (.c (.int .i64 0)),none⟩,
 ⟨some 30,none,.mv (.t 29),none⟩,
 ⟨some 31,(some (30,false)),.mv (.t 8),none⟩,
 ⟨some 32,(some (30,false)),.bin .neq (.t 31) (.c (.int .i64 0)),none⟩,
 ⟨some 33,none,.pick (.t 30) (.c (.bool true)) (.t 32),none⟩])
 (.keep [5,7,33] (.cond (.t 33)
 (.seq (.ops [⟨some 2,none,.mv (.c .nilp),none⟩,
 ⟨some 3,none,.mv (.c .nilp),none⟩])
 (.ret))
 (.skip))))
 (.keep [5,7] (.seq (.ops [⟨some 34,none,.mv (.t 5),none⟩,
 ⟨some 35,none,.mv (.t 7),none⟩,
 ⟨some 2,none,.mv (.t 34),none⟩,
 ⟨some 3,none,.mv (.t 35),none⟩])
 (.ret))))))))
def J_law06_tables_j2 : ACode :=
 .seq (.ops [⟨some 10,none,.bin .lss (.t 9) (.c (.int .i64 6)),none⟩])
 (.keep [1,9,10] (.seq (.cond (.t 10)
 (.skip)
 (.exit 0))
 (.keep [1,9] (.seq (.block 1 (.seq (.ops [⟨some 11,none,.mv (.t 9),none⟩,
 ⟨some 4,none,.mv (.t 11),none⟩])
 (.keep [1,4,9] (.seq (.ops [⟨some 12,none,.mv (.t 4),none⟩,
 ⟨some 13,none,.ex (.idp 1 6) [(.t 1),(.t 12)],none⟩,
 ⟨some 14,none,.load none (.t 13),none⟩,
 ⟨some 15,none,.lenl (.t 14),none⟩,
 ⟨some 16,none,.bin .gtr (.t 15) (.c (.int .i64 100)),none⟩])
 (.keep [1,9,16] (.cond (.t 16)
 (.seq (.ops [⟨some 2,none,.mv (.c .nilp),none⟩,
 ⟨some 3,none,.mv (.c .nilp),none⟩])
 (.ret))
 (.skip)))))))
 (.keep [1,9] (.ops [⟨some 17,none,.bin .add (.t 9) (.c (.int .i64 1)),none⟩,
 ⟨some 9,none,.mv (.t 17),none⟩]))))))
def J_law06_tables : AFn :=
 ⟨36,[.t 2,.t 3],.seq (.ops [⟨some 1,none,.box (.t 0) [],none⟩,
 ⟨some 2,none,.mv (.c .nilp),none⟩,
 ⟨some 3,none,.mv (.c .nilp),none⟩])
 (.keep [1] (.seq (.seq (.ops [⟨some 9,none,.mv (.c (.int .i64 0)),none⟩])
 (.keep [1,9] (.block 0 (.loop [1,9] (J_law06_tables_j2)))))
 (J_law06_tables_j1)))⟩
theorem J_law06_tables_ok : chkFn Tryz.prog 10 J_law06_tables = true := by kernel_rfl
def J_norm_Run_j1 : ACode :=
 .keep [8] (.seq (.ops [⟨some 82,none,.mv (.t 8),none⟩,
 ⟨some 83,none,.idxa 1 (.t 82) (.c (.int .i64 0)),none⟩,
 ⟨some 84,none,.load none (.t 83),none⟩,
 ⟨some 4,none,.mv (.t 84),none⟩,
 ⟨some 5,none,.mv (.c (.int .i64 0)),none⟩,
 ⟨some 6,none,.mv (.c (.int .i64 0)),none⟩])
 (.ret))
def J_norm_Run_j2 : ACode :=
 .keep [0,7,8,24,25,26] (.ops [⟨some 81,none,.bin .add (.t 26) (.c (.int .i64 1)),none⟩,
 ⟨some 26,none,.mv (.t 81),none⟩])
def J_norm_Run_j3 : ACode :=
 .keep [0,7,8,9,11,12,24,25,26] (.seq (.seq (.ops [⟨some 73,none,.mv (.t 12),none⟩,
 ⟨some 74,none,.bin .neq (.t 73) (.c (.int .i64 0)),none⟩])
 (.keep [0,7,8,9,11,12,24,25,26,74] (.cond (.t 74)
 (.seq (.ops [⟨some 75,none,.mv (.t 9),none⟩,
 ⟨some 76,none,.mv (.t 12),none⟩,
 ⟨some 4,none,.mv (.c (.lst .clip 0 [])),none⟩,
 ⟨some 5,none,.mv (.t 75),none⟩,
 ⟨some 6,none,.mv (.t 76),none⟩])
 (.ret))
 (.skip))))
 (.keep [0,7,8,11,24,25,26] (.ops [⟨some 77,none,.mv (.t 8),none⟩,
 ⟨some 78,none,.mv (.t 11),none⟩,
 ⟨some 79,none,.bsl 33 1 1 [(.lst .clip 0 [])] [(0,1,(.t 78))],none⟩,
 ⟨some 80,none,.apc 33 1 24 [(.lst .clip 0 [])] (.t 77) (.t 79),none⟩,
 ⟨some 8,none,.mv (.t 80),none⟩])))
def J_norm_Run_j4 : ACode :=
 .keep [0,7,8,9,11,12,13,24,25,26] (.ops [⟨some 70,none,.mv (.t 8),none⟩,
 ⟨some 71,none,.mv (.t 13),none⟩,
 ⟨some 72,none,.slch 1 (.t 70) (.t 71),none⟩,
 ⟨some 8,none,.mv (.t 72),none⟩])
def J_norm_Run_j5 : ACode :=
 .keep [0,7,8,9,10,11,12,13,24,25,26,43,44,45] (.ops [⟨some 69,none,.bin .add (.t 45) (.c (.int .i64 1)),none⟩,
 ⟨some 45,none,.mv (.t 69),none⟩])
def J_norm_Run_j6 : ACode :=
 .seq (.ops [⟨some 46,none,.bin .lss (.t 45) (.t 44),none⟩])
 (.keep [0,7,8,9,10,11,12,13,24,25,26,43,44,45,46] (.seq (.cond (.t 46)
 (.skip)
 (.exit 2))
 (.keep [0,7,8,9,10,11,12,13,24,25,26,43,44,45] (.seq (.block 3 (.seq (.ops [⟨some 47,none,.idxa 2 (.t 43) (.t 45),none⟩,
 ⟨some 48,none,.load (some 2) (.t 47),none⟩,
 ⟨some 15,none,.new [(.int .i64 0),.nilf] [],none⟩,
 ⟨none,none,.stores 2 (.t 15) (.t 48),none⟩])
 (.keep [0,7,8,9,10,11,12,13,15,24,25,26,43,44,45] (.seq (.ops [⟨some 49,none,.fld 0 (.t 15),none⟩,
 ⟨some 50,none,.load none (.t 49),none⟩,
 ⟨some 51,none,.fld 0 (.t 10),none⟩,
 ⟨some 52,none,.load none (.t 51),none⟩,
 ⟨some 53,none,.bin .eql (.t 50) (.t 52),none⟩])
 (.keep [0,7,8,9,10,11,12,13,15,24,25,26,43,44,45,53] (.cond (.t 53)
 (.draw [0,7,8,9,10,11,12,13,24,25,26,43,44,45] [⟨some 55,none,.fld 1 (.t 15),none⟩,
 ⟨some 56,none,.lds none (.t 55),none⟩,
 ⟨some 57,none,.mv (.t 8),none⟩,
 ⟨some 58,none,.mv (.t 13),none⟩,
 ⟨some 59,none,.idxa 1 (.t 57) (.t 58),none⟩,
 ⟨some 60,none,.load none (.t 59),none⟩,
 ⟨some 61,none,.mv (.t 8),none⟩,
 ⟨some 62,none,.mv (.t 13),none⟩,
 ⟨some 63,none,.bin .add (.t 62) (.c (.int .i64 1)),none⟩,
 ⟨some 64,none,.idxa 1 (.t 61) (.t 63),none⟩,
 ⟨some 65,none,.load none (.t 64),none⟩,
 ⟨some 66,none,.call (.t 56) [(.t 60),(.t 65)],none⟩,
 ⟨some 54,none,.mv (.t 66),none⟩,
 ⟨some 67,none,.ext 0 (.t 54),none⟩,
 ⟨some 68,none,.ext 1 (.t 54),none⟩,
 ⟨some 11,none,.mv (.t 67),none⟩,
 ⟨some 12,none,.mv (.t 68),none⟩])
 (.skip)))))))
 (J_norm_Run_j5)))))
def J_norm_Run_j7 : ACode :=
 .seq (.ops [⟨some 27,none,.bin .lss (.t 26) (.t 25),none⟩])
 (.keep [0,7,8,24,25,26,27] (.seq (.cond (.t 27)
 (.skip)
 (.exit 0))
 (.keep [0,7,8,24,25,26] (.seq (.block 1 (.seq (.ops [⟨some 28,none,.mv (.t 26),none⟩,
 ⟨some 29,none,.idxa 3 (.t 24) (.t 26),none⟩,
 ⟨some 30,none,.load (some 3) (.t 29),none⟩,
 ⟨some 10,none,.new [(.int .i64 0),(.int .i64 0),(.str ⟨#[]⟩)] [],none⟩,
 ⟨some 9,none,.mv (.t 28),none⟩,
 ⟨none,none,.stores 3 (.t 10) (.t 30),none⟩])
 (.keep [0,7,8,9,10,24,25,26] (.seq (.ops [⟨some 11,none,.mv (.c (.lst .clip 0 [])),none⟩])
 (.keep [0,7,8,9,10,11,24,25,26] (.seq (.ops [⟨some 12,none,.mv (.c (.int .i64 0)),none⟩])
 (.keep [0,7,8,9,10,11,12,24,25,26] (.seq (.seq (.ops [⟨some 31,none,.fld 0 (.t 10),none⟩,
 ⟨some 32,none,.load none (.t 31),none⟩,
 ⟨some 33,none,.bin .eql (.t 32) (.c (.int .i64 1)),none⟩])
 (.keep [0,7,8,9,10,11,12,24,25,26,33] (.cond (.t 33)
 (.ops [⟨some 35,none,.mv (.t 0),none⟩,
 ⟨some 36,none,.load (some 3) (.t 10),none⟩,
 ⟨some 37,none,.call (.f 30) [(.t 35),(.t 36)],none⟩,
 ⟨some 34,none,.mv (.t 37),none⟩,
 ⟨some 38,none,.ext 0 (.t 34),none⟩,
 ⟨some 39,none,.ext 1 (.t 34),none⟩,
 ⟨some 11,none,.mv (.t 38),none⟩,
 ⟨some 12,none,.mv (.t 39),none⟩])
 (.seq (.ops [⟨some 40,none,.mv (.t 8),none⟩,
 ⟨some 41,none,.lenl (.t 40),none⟩,
 ⟨some 42,none,.bin .sub (.t 41) (.c (.int .i64 2)),none⟩,
 ⟨some 13,none,.mv (.t 42),none⟩])
 (.keep [0,7,8,9,10,11,12,13,24,25,26] (.seq (.seq (.ops [⟨some 43,none,.mv (.t 7),none⟩,
 ⟨some 44,none,.lenl (.t 43),none⟩,
 ⟨some 45,none,.mv (.c (.int .i64 0)),none⟩])
 (.keep [0,7,8,9,10,11,12,13,24,25,26,43,44,45] (.block 2 (.loop [0,7,8,9,10,11,12,13,24,25,26,43,44,45] (J_norm_Run_j6)))))
 (J_norm_Run_j4)))))))
 (J_norm_Run_j3)))))))))
 (J_norm_Run_j2)))))
def J_norm_Run : AFn :=
 ⟨85,[.t 4,.t 5,.t 6],.seq (.ops [⟨some 4,none,.mv (.c (.lst .clip 0 [])),none⟩,
 ⟨some 5,none,.mv (.c (.int .i64 0)),none⟩,
 ⟨some 6,none,.mv (.c (.int .i64 0)),none⟩])
 (.keep [0,1] (.seq (.seq (.ops [⟨some 16,none,.mv (.t 0),none⟩,
 ⟨some 17,none,.pnil false (.t 16),none⟩,
 ⟨some 18,none,.mv (.t 17),none⟩,
 ⟨some 19,(some (18,false)),.mv (.t 1),none⟩,
 ⟨some 20,(some (18,false)),.call (.f 28) [(.t 19)],none⟩,
 ⟨some 21,(some (18,false)),.not (.t 20),none⟩,
 ⟨some 22,none,.pick (.t 18) (.c (.bool true)) (.t 21),none⟩])
 (.keep [0,1,22] (.cond (.t 22)
 (.seq (.ops [⟨some 4,none,.mv (.c (.lst .clip 0 [])),none⟩,
 ⟨some 5,none,.mv (.c (.int .i64 0)),none⟩,
 ⟨some 6,none,.mv (.c (.int .i64 2)),none⟩])
 (.ret))
 (.skip))))
 (.keep [0,1] (.seq (.ops [⟨some 23,none,.call (.f 29) [],none⟩,
 ⟨some 7,none,.mv (.t 23),none⟩])
 (.keep [0,1,7] (.seq (.ops [⟨some 8,none,.mv (.c (.lst .clip 0 [])),none⟩])
 (.keep [0,1,7,8] (.seq (.seq (.ops [⟨some 24,none,.mv (.t 1),none⟩,
 ⟨some 25,none,.lenl (.t 24),none⟩,
 ⟨some 26,none,.mv (.c (.int .i64 0)),none⟩])
 (.keep [0,7,8,24,25,26] (.block 0 (.loop [0,7,8,24,25,26] (J_norm_Run_j7)))))
 (J_norm_Run_j1)))))))))⟩
theorem J_norm_Run_ok : chkFn Tryz.prog 12 J_norm_Run = true := by kernel_rfl
def J_norm_Read : AFn :=
 ⟨33,[.t 4,.t 5,.t 6],.seq (.ops [⟨some 4,none,.mv (.c (.lst .clip 0 [])),none⟩,
 ⟨some 5,none,.mv (.c (.int .i64 0)),none⟩,
 ⟨some 6,none,.mv (.c (.int .i64 0)),none⟩])
 (.keep [0,1] (.seq (.seq (.ops [⟨some 12,none,.mv (.t 0),none⟩,
 ⟨some 13,none,.pnil false (.t 12),none⟩])
 (.keep [0,1,13] (.cond (.t 13)
 (.seq (.ops [⟨some 4,none,.mv (.c (.lst .clip 0 [])),none⟩,
 ⟨some 5,none,.mv (.c (.int .i64 0)),none⟩,
 ⟨some 6,none,.mv (.c (.int .i64 2)),none⟩])
 (.ret))
 (.skip))))
 (.keep [0,1] (.seq (.ops [⟨some 15,none,.mv (.t 1),none⟩,
 ⟨some 16,none,.call (.f 33) [(.t 15)],none⟩,
 ⟨some 14,none,.mv (.t 16),none⟩,
 ⟨some 17,none,.ext 0 (.t 14),none⟩,
 ⟨some 18,none,.ext 1 (.t 14),none⟩,
 ⟨some 19,none,.ext 2 (.t 14),none⟩,
 ⟨some 7,none,.mv (.t 17),none⟩,
 ⟨some 8,none,.mv (.t 18),none⟩,
 ⟨some 9,none,.mv (.t 19),none⟩])
 (.keep [0,7,8,9] (.seq (.seq (.ops [⟨some 20,none,.mv (.t 9),none⟩,
 ⟨some 21,none,.bin .neq (.t 20) (.c (.int .i64 0)),none⟩])
 (.keep [0,7,8,9,21] (.cond (.t 21)
 (.seq (.ops [⟨some 22,none,.mv (.t 8),none⟩,
 ⟨some 23,none,.mv (.t 9),none⟩,
 ⟨some 4,none,.mv (.c (.lst .clip 0 [])),none⟩,
 ⟨some 5,none,.mv (.t 22),none⟩,
 ⟨some 6,none,.mv (.t 23),none⟩])
 (.ret))
 (.skip))))
 (.keep [0,7] (.seq (.ops [⟨some 25,none,.mv (.t 0),none⟩,
 ⟨some 26,none,.mv (.t 7),none⟩,
 ⟨some 27,none,.call (.f 12) [(.t 25),(.t 26)],none⟩,
 ⟨some 24,none,.mv (.t 27),none⟩,
 ⟨some 28,none,.ext 0 (.t 24),none⟩,
 ⟨some 29,none,.ext 1 (.t 24),none⟩,
 ⟨some 30,none,.ext 2 (.t 24),none⟩,
 ⟨some 10,none,.mv (.t 28),none⟩,
 ⟨some 11,none,.mv (.t 29),none⟩,
 ⟨some 9,none,.mv (.t 30),none⟩])
 (.keep [9,10] (.seq (.ops [⟨some 31,none,.mv (.t 10),none⟩,
 ⟨some 32,none,.mv (.t 9),none⟩,
 ⟨some 4,none,.mv (.t 31),none⟩,
 ⟨some 5,none,.mv (.c (.int .i64 0)),none⟩,
 ⟨some 6,none,.mv (.t 32),none⟩])
 (.ret)))))))))))⟩
theorem J_norm_Read_ok : chkFn Tryz.prog 15 J_norm_Read = true := by kernel_rfl
def J_norm_Show_j1 : ACode :=
 .keep [6] (.seq (.ops [⟨some 41,none,.mv (.t 6),none⟩,
 ⟨some 42,none,.call (.f 37) [(.t 41),(.c (.str ⟨#[32,97,110,100,32]⟩))],none⟩,
 ⟨some 4,none,.mv (.t 42),none⟩,
 ⟨some 5,none,.mv (.c (.int .i64 0)),none⟩])
 (.ret))
def J_norm_Show_j2 : ACode :=
 .seq (.ops [⟨some 24,none,.bin .lss (.t 23) (.t 22),none⟩])
 (.keep [0,6,21,22,23,24] (.seq (.cond (.t 24)
 (.skip)
 (.exit 0))
 (.keep [0,6,21,22,23] (.seq (.block 1 (.seq (.ops [⟨some 25,none,.mv (.t 23),none⟩,
 ⟨some 26,none,.idxa 1 (.t 21) (.t 23),none⟩,
 ⟨some 27,none,.load none (.t 26),none⟩,
 ⟨some 7,none,.mv (.t 25),none⟩,
 ⟨some 8,none,.mv (.t 27),none⟩])
 (.keep [0,6,7,8,21,22,23] (.seq (.ops [⟨some 29,none,.mv (.t 0),none⟩,
 ⟨some 30,none,.mv (.t 8),none⟩,
 ⟨some 31,none,.call (.f 36) [(.t 29),(.t 30)],none⟩,
 ⟨some 28,none,.mv (.t 31),none⟩,
 ⟨some 32,none,.ext 0 (.t 28),none⟩,
 ⟨some 33,none,.ext 1 (.t 28),none⟩,
 ⟨some 9,none,.mv (.t 32),none⟩,
 ⟨some 10,none,.mv (.t 33),none⟩])
 (.keep [0,6,7,9,10,21,22,23] (.seq (.seq (.ops [⟨some 34,none,.mv (.t 10),none⟩,
 ⟨some 35,none,.not (.t 34),none⟩])
 (.keep [0,6,7,9,21,22,23,35] (.cond (.t 35)
 (.seq (.ops [⟨some 4,none,.mv (.c (.str ⟨#[]⟩)),none⟩,
 ⟨some 5,none,.mv (.c (.int .i64 10)),none⟩])
 (.ret))
 (.skip))))
 (.keep [0,6,7,9,21,22,23] (.ops [⟨some 36,none,.mv (.t 6),none⟩,
 ⟨some 37,none,.mv (.t 7),none⟩,
 ⟨some 38,none,.mv (.t 9),none⟩,
 ⟨some 39,none,.idxa 1 (.t 36) (.t 37),none⟩,
 ⟨none,none,.store 1 (.t 39) (.t 38),none⟩]))))))))
 (.keep [0,6,21,22,23] (.ops [⟨some 40,none,.bin .add (.t 23) (.c (.int .i64 1)),none⟩,
 ⟨some 23,none,.mv (.t 40),none⟩]))))))
def J_norm_Show : AFn :=
 ⟨43,[.t 4,.t 5],.seq (.ops [⟨some 4,none,.mv (.c (.str ⟨#[]⟩)),none⟩,
 ⟨some 5,none,.mv (.c (.int .i64 0)),none⟩])
 (.keep [0,1] (.seq (.seq (.ops [⟨some 11,none,.mv (.t 0),none⟩,
 ⟨some 12,none,.pnil false (.t 11),none⟩,
 ⟨some 13,none,.mv (.t 12),none⟩,
 ⟨some 14,(some (13,false)),.mv (.t 1),none⟩,
 ⟨some 15,(some (13,false)),.call (.f 35) [(.t 14)],none⟩,
 ⟨some 16,(some (13,false)),.not (.t 15),none⟩,
 ⟨some 17,none,.pick (.t 13) (.c (.bool true)) (.t 16),none⟩])
 (.keep [0,1,17] (.cond (.t 17)
 (.seq (.ops [⟨some 4,none,.mv (.c (.str ⟨#[]⟩)),none⟩,
 ⟨some 5,none,.mv (.c (.int .i64 2)),none⟩])
 (.ret))
 (.skip))))
 (.keep [0,1] (.seq (.ops [⟨some 18,none,.mv (.t 1),none⟩,
 ⟨some 19,none,.lenl (.t 18),none⟩,
 ⟨some 20,none,.mkn 9 1 16 [(.str ⟨#[]⟩)] (.t 19),none⟩,
 ⟨some 6,none,.mv (.t 20),none⟩])
 (.keep [0,1,6] (.seq (.seq (.ops [⟨some 21,none,.mv (.t 1),none⟩,
 ⟨some 22,none,.lenl (.t 21),none⟩,
 ⟨some 23,none,.mv (.c (.int .i64 0)),none⟩])
 (.keep [0,6,21,22,23] (.block 0 (.loop [0,6,21,22,23] (J_norm_Show_j2)))))
 (J_norm_Show_j1)))))))⟩
theorem J_norm_Show_ok : chkFn Tryz.prog 17 J_norm_Show = true := by kernel_rfl
def J_ref06_Show_j1 : ACode :=
 .keep [6] (.seq (.ops [⟨some 92,none,.mv (.t 6),none⟩,
 ⟨some 4,none,.mv (.t 92),none⟩,
 ⟨some 5,none,.mv (.c (.int .i64 0)),none⟩])
 (.ret))
def J_ref06_Show_j2 : ACode :=
 .keep [0,1,6,7] (.ops [⟨some 25,none,.mv (.t 7),none⟩,
 ⟨some 26,none,.bin .add (.t 25) (.c (.int .i64 1)),none⟩,
 ⟨some 7,none,.mv (.t 26),none⟩])
def J_ref06_Show_j3 : ACode :=
 .keep [0,1,6,7,8,9,10,13] (.ops [⟨some 89,none,.mv (.t 6),none⟩,
 ⟨some 90,none,.mv (.t 13),none⟩,
 ⟨some 91,none,.bin .add (.t 89) (.t 90),none⟩,
 ⟨some 6,none,.mv (.t 91),none⟩])
def J_ref06_Show_j4 : ACode :=
 .keep [0,1,6,7,8,9,10,13] (.seq (.seq (.ops [⟨some 81,none,.mv (.t 10),none⟩,
 ⟨some 82,none,.bin .gtr (.t 81) (.c (.int .i64 0)),none⟩,
 ⟨some 83,none,.mv (.t 82),none⟩,
 ⟨some 84,(some (83,true)),.mv (.t 9),none⟩,
 ⟨some 85,(some (83,true)),.not (.t 84),none⟩,
 ⟨some 86,none,.pick (.t 83) (.t 85) (.c (.bool false)),none⟩])
 (.keep [0,1,6,7,8,9,10,13,86] (.cond (.t 86)
 (.ops [⟨some 87,none,.mv (.t 6),none⟩,
 ⟨some 88,none,.bin .add (.t 87) (.c (.str ⟨#[32,124,32]⟩)),none⟩,
 ⟨some 6,none,.mv (.t 88),none⟩])
 (.skip))))
 (J_ref06_Show_j3))
def J_ref06_Show_j5 : ACode :=
 .seq (.seq (.ops [⟨some 36,none,.mv (.t 10),none⟩,
 ⟨some 37,none,.mv (.t 8),none⟩,
 ⟨some 38,none,.lenl (.t 37),none⟩,
 ⟨some 39,none,.bin .lss (.t 36) (.t 38),none⟩])
 (.keep [0,1,6,7,8,9,10,39] (.cond (.t 39)
 (.skip)
 (.exit 2))))
 (.keep [0,1,6,7,8,9,10] (.seq (.block 3 (.seq (.ops [⟨some 43,none,.mv (.t 0),none⟩,
 ⟨some 44,none,.mv (.t 8),none⟩,
 ⟨some 45,none,.mv (.t 10),none⟩,
 ⟨some 46,none,.idxa 1 (.t 44) (.t 45),none⟩,
 ⟨some 47,none,.load none (.t 46),none⟩,
 ⟨some 48,none,.call (.f 40) [(.t 43),(.t 47)],none⟩,
 ⟨some 42,none,.mv (.t 48),none⟩,
 ⟨some 49,none,.ext 0 (.t 42),none⟩,
 ⟨some 50,none,.ext 1 (.t 42),none⟩,
 ⟨some 11,none,.mv (.t 49),none⟩,
 ⟨some 12,none,.mv (.t 50),none⟩])
 (.keep [0,1,6,7,8,9,10,11] (.seq (.ops [⟨some 51,none,.mv (.t 11),none⟩,
 ⟨some 52,none,.mv (.t 8),none⟩,
 ⟨some 53,none,.mv (.t 10),none⟩,
 ⟨some 54,none,.idxa 1 (.t 52) (.t 53),none⟩,
 ⟨some 55,none,.load none (.t 54),none⟩,
 ⟨some 56,none,.call (.f 42) [(.t 55)],none⟩,
 ⟨some 57,none,.build [(.int .i64 0),(.str ⟨#[]⟩),(.int .i64 0),(.int .i64 0)] [(0,1,(.c (.int .i64 1))),(1,1,(.t 51)),(2,1,(.t 56))],none⟩,
 ⟨some 58,none,.call (.f 41) [(.t 57)],none⟩,
 ⟨some 13,none,.mv (.t 58),none⟩])
 (.keep [0,1,6,7,8,9,10,13] (.seq (.seq (.ops [⟨some 59,none,.mv (.t 13),none⟩,
 ⟨some 60,none,.bin .eql (.t 59) (.c (.str ⟨#[]⟩)),none⟩])
 (.keep [0,1,6,7,8,9,10,13,60] (.cond (.t 60)
 (.seq (.ops [⟨some 4,none,.mv (.c (.str ⟨#[]⟩)),none⟩,
 ⟨some 5,none,.mv (.c (.int .i64 10)),none⟩])
 (.ret))
 (.skip))))
 (.keep [0,1,6,7,8,9,10,13] (.seq (.ops [⟨some 61,none,.mv (.t 9),none⟩,
 ⟨some 62,none,.mv (.t 61),none⟩,
 ⟨some 63,(some (62,true)),.mv (.t 10),none⟩,
 ⟨some 64,(some (62,true)),.bin .eql (.t 63) (.c (.int .i64 0)),none⟩,
 ⟨some 65,(some (62,true)),.mv (.t 64),none⟩,
 ⟨some 66,(some (65,false)),.mv (.t 8),none⟩,
 ⟨some 67,(some (65,false)),.mv (.t 10),none⟩,
 ⟨some 68,(some (65,false)),.idxa 1 (.t 66) (.t 67),none⟩,
 ⟨some 69,(some (65,false)),.load none (.t 68),none⟩,
 ⟨some 70,(some (65,false)),.call (.f 42) [(.t 69)],none⟩,
 ⟨some 71,(some (65,false)),.bin .eql (.t 70) (.c (.int .i64 5)),none⟩,
 ⟨some 72,(some (62,true)),.pick (.t 65) (.c (.bool true)) (.t 71),none⟩,
 ⟨some 73,none,.pick (.t 62) (.t 72) (.c (.bool false)),none⟩,
 ⟨some 9,none,.mv (.t 73),none⟩])
 (.keep [0,1,6,7,8,9,10,13] (.seq (.seq (.ops [⟨some 74,none,.mv (.t 10),none⟩,
 ⟨some 75,none,.bin .gtr (.t 74) (.c (.int .i64 0)),none⟩,
 ⟨some 76,none,.mv (.t 75),none⟩,
 ⟨some 77,(some (76,true)),.mv (.t 9),none⟩,
 ⟨some 78,none,.pick (.t 76) (.t 77) (.c (.bool false)),none⟩])
 (.keep [0,1,6,7,8,9,10,13,78] (.cond (.t 78)
 (.ops [⟨some 79,none,.mv (.t 6),none⟩,
 ⟨some 80,none,.bin .add (.t 79) (.c (.str ⟨#[32,97,115,32]⟩)),none⟩,
 ⟨some 6,none,.mv (.t 80),none⟩])
 (.skip))))
 (J_ref06_Show_j4)))))))))))
 (.keep [0,1,6,7,8,9,10] (.ops [⟨some 40,none,.mv (.t 10),none⟩,
 ⟨some 41,none,.bin .add (.t 40) (.c (.int .i64 1)),none⟩,
 ⟨some 10,none,.mv (.t 41),none⟩]))))
def J_ref06_Show_j6 : ACode :=
 .keep [0,1,6,7] (.seq (.ops [⟨some 31,none,.mv (.t 1),none⟩,
 ⟨some 32,none,.mv (.t 7),none⟩,
 ⟨some 33,none,.idxa 1 (.t 31) (.t 32),none⟩,
 ⟨some 34,none,.load none (.t 33),none⟩,
 ⟨some 35,none,.call (.f 39) [(.t 34)],none⟩,
 ⟨some 8,none,.mv (.t 35),none⟩])
 (.keep [0,1,6,7,8] (.seq (.ops [⟨some 9,none,.mv (.c (.bool true)),none⟩])
 (.keep [0,1,6,7,8,9] (.seq (.ops [⟨some 10,none,.mv (.c (.int .i64 0)),none⟩])
 (.keep [0,1,6,7,8,9,10] (.block 2 (.loop [0,1,6,7,8,9,10] (J_ref06_Show_j5)))))))))
def J_ref06_Show_j7 : ACode :=
 .seq (.seq (.ops [⟨some 21,none,.mv (.t 7),none⟩,
 ⟨some 22,none,.mv (.t 1),none⟩,
 ⟨some 23,none,.lenl (.t 22),none⟩,
 ⟨some 24,none,.bin .lss (.t 21) (.t 23),none⟩])
 (.keep [0,1,6,7,24] (.cond (.t 24)
 (.skip)
 (.exit 0))))
 (.keep [0,1,6,7] (.seq (.block 1 (.seq (.seq (.ops [⟨some 27,none,.mv (.t 7),none⟩,
 ⟨some 28,none,.bin .gtr (.t 27) (.c (.int .i64 0)),none⟩])
 (.keep [0,1,6,7,28] (.cond (.t 28)
 (.ops [⟨some 29,none,.mv (.t 6),none⟩,
 ⟨some 30,none,.bin .add (.t 29) (.c (.str ⟨#[32,97,110,100,32]⟩)),none⟩,
 ⟨some 6,none,.mv (.t 30),none⟩])
 (.skip))))
 (J_ref06_Show_j6)))
 (J_ref06_Show_j2)))
def J_ref06_Show : AFn :=
 ⟨93,[.t 4,.t 5],.seq (.ops [⟨some 4,none,.mv (.c (.str ⟨#[]⟩)),none⟩,
 ⟨some 5,none,.mv (.c (.int .i64 0)),none⟩])
 (.keep [0,1] (.seq (.seq (.ops [⟨some 14,none,.mv (.t 0),none⟩,
 ⟨some 15,none,.pnil false (.t 14),none⟩,
 ⟨some 16,none,.mv (.t 15),none⟩,
 ⟨some 17,(some (16,false)),.mv (.t 1),none⟩,
 ⟨some 18,(some (16,false)),.call (.f 38) [(.t 17)],none⟩,
 ⟨some 19,(some (16,false)),.not (.t 18),none⟩,
 ⟨some 20,none,.pick (.t 16) (.c (.bool true)) (.t 19),none⟩])
 (.keep [0,1,20] (.cond (.t 20)
 (.seq (.ops [⟨some 4,none,.mv (.c (.str ⟨#[]⟩)),none⟩,
 ⟨some 5,none,.mv (.c (.int .i64 2)),none⟩])
 (.ret))
 (.skip))))
 (.keep [0,1] (.seq (.ops [⟨some 6,none,.mv (.c (.str ⟨#[]⟩)),none⟩])
 (.keep [0,1,6] (.seq (.seq (.ops [⟨some 7,none,.mv (.c (.int .i64 0)),none⟩])
 (.keep [0,1,6,7] (.block 0 (.loop [0,1,6,7] (J_ref06_Show_j7)))))
 (J_ref06_Show_j1)))))))⟩
theorem J_ref06_Show_ok : chkFn Tryz.prog 18 J_ref06_Show = true := by kernel_rfl
def J_norm_operators : AFn :=
 ⟨6,[.t 0],.seq (.ops [⟨some 0,none,.mv (.c (.lst .clip 0 [])),none⟩])
 (.keep [] (.seq (.ops [⟨some 1,none,.build [(.int .i64 0),.nilf] [(0,1,(.c (.int .i64 2))),(1,1,(.f 52))],none⟩,
 ⟨some 2,none,.build [(.int .i64 0),.nilf] [(0,1,(.c (.int .i64 3))),(1,1,(.f 53))],none⟩,
 ⟨some 3,none,.build [(.int .i64 0),.nilf] [(0,1,(.c (.int .i64 4))),(1,1,(.f 54))],none⟩,
 ⟨some 4,none,.build [(.int .i64 0),.nilf] [(0,1,(.c (.int .i64 5))),(1,1,(.f 55))],none⟩,
 ⟨some 5,none,.bsl 70 2 4 [(.int .i64 0),.nilf,(.int .i64 0),.nilf,(.int .i64 0),.nilf,(.int .i64 0),.nilf] [(0,2,(.t 1)),(2,2,(.t 2)),(4,2,(.t 3)),(6,2,(.t 4))],none⟩,
 ⟨some 0,none,.mvo 5,none⟩])
 (.ret)))⟩
theorem J_norm_operators_ok : chkFn Tryz.prog 29 J_norm_operators = true := by kernel_rfl
def J_norm_alone_j1 : ACode :=
 .keep [6] (.seq (.ops [⟨some 26,none,.mv (.t 6),none⟩,
 ⟨some 27,none,.bsl 57 1 1 [(.int .u16 0)] [(0,1,(.t 26))],none⟩,
 ⟨some 28,none,.call (.f 59) [(.t 27)],none⟩,
 ⟨some 29,none,.bsl 43 1 1 [(.str ⟨#[]⟩)] [(0,1,(.t 28))],none⟩,
 ⟨some 30,none,.call (.f 58) [(.t 29)],none⟩,
 ⟨some 31,none,.ext 0 (.t 30),none⟩,
 ⟨some 32,none,.ext 1 (.t 30),none⟩,
 ⟨some 4,none,.mv (.t 31),none⟩,
 ⟨some 5,none,.mv (.t 32),none⟩])
 (.ret))
def J_norm_alone : AFn :=
 ⟨33,[.t 4,.t 5],.seq (.ops [⟨some 3,none,.box (.t 1) [],none⟩,
 ⟨some 4,none,.mv (.c (.lst .clip 0 [])),none⟩,
 ⟨some 5,none,.mv (.c (.int .i64 0)),none⟩])
 (.keep [0,3] (.seq (.ops [⟨some 6,none,.mv (.c (.int .u16 1)),none⟩])
 (.keep [0,3,6] (.seq (.seq (.ops [⟨some 9,none,.fld 1 (.t 3),none⟩,
 ⟨some 10,none,.load none (.t 9),none⟩,
 ⟨some 11,none,.bin .neq (.t 10) (.c (.int .i64 0)),none⟩])
 (.keep [0,3,6,11] (.cond (.t 11)
 (.seq (.draw [7,8] [⟨some 13,none,.mv (.t 0),none⟩,
 ⟨some 14,none,.nilck (.t 13),none⟩,
 ⟨some 15,none,.fld 0 (.t 14),none⟩,
 ⟨some 16,none,.fld 1 (.t 3),none⟩,
 ⟨some 17,none,.load none (.t 16),none⟩,
 ⟨some 18,none,.fld 2 (.t 3),none⟩,
 ⟨some 19,none,.load none (.t 18),none⟩,
 ⟨some 20,none,.call (.f 48) [(.t 15),(.t 17),(.t 19)],none⟩,
 ⟨some 12,none,.mv (.t 20),none⟩,
 ⟨some 21,none,.ext 0 (.t 12),none⟩,
 ⟨some 22,none,.ext 1 (.t 12),none⟩,
 ⟨some 7,none,.mv (.t 21),none⟩,
 ⟨some 8,none,.mv (.t 22),none⟩])
 (.keep [7,8] (.seq (.seq (.ops [⟨some 23,none,.mv (.t 8),none⟩,
 ⟨some 24,none,.not (.t 23),none⟩])
 (.keep [7,24] (.cond (.t 24)
 (.seq (.ops [⟨some 4,none,.mv (.c (.lst .clip 0 [])),none⟩,
 ⟨some 5,none,.mv (.c (.int .i64 10)),none⟩])
 (.ret))
 (.skip))))
 (.keep [7] (.ops [⟨some 25,none,.mv (.t 7),none⟩,
 ⟨some 6,none,.mv (.t 25),none⟩])))))
 (.skip))))
 (J_norm_alone_j1)))))⟩
theorem J_norm_alone_ok : chkFn Tryz.prog 30 J_norm_alone = true := by kernel_rfl
def J_norm_operators_1 : AFn :=
 ⟨14,[.t 4,.t 5],.seq (.ops [⟨some 4,none,.mv (.c (.lst .clip 0 [])),none⟩,
 ⟨some 5,none,.mv (.c (.int .i64 0)),none⟩])
 (.keep [0,1] (.seq (.ops [⟨some 6,none,.mv (.t 0),none⟩,
 ⟨some 7,none,.mv (.t 1),none⟩,
 ⟨some 8,none,.idxa 1 (.t 7) (.c (.int .i64 0)),none⟩,
 ⟨some 9,none,.load none (.t 8),none⟩,
 ⟨some 10,none,.call (.f 57) [(.t 9),(.c (.int .i64 0))],none⟩,
 ⟨some 11,none,.call (.f 56) [(.t 6),(.t 10)],none⟩,
 ⟨some 12,none,.ext 0 (.t 11),none⟩,
 ⟨some 13,none,.ext 1 (.t 11),none⟩,
 ⟨some 4,none,.mv (.t 12),none⟩,
 ⟨some 5,none,.mv (.t 13),none⟩])
 (.ret)))⟩
theorem J_norm_operators_1_ok : chkFn Tryz.prog 55 J_norm_operators_1 = true := by kernel_rfl
end Go.Proofs.YtedaffmkpljlnaaGreat

/- What the reference's sets do: Quote, As, For. -/
namespace Go.Proofs.YtedaffmkpljlnaaGreat
set_option linter.unusedSimpArgs false
set_option linter.unusedVariables false
open Go.RowKit Go.Lib

def prodTo (a b : List ByteArray) (i k : Nat) : List ByteArray := prodW (a.take i) b ++ (match a[i]? with | some x => (b.take k).map fun y => x ++ y | none => [])
theorem prodTo_zero (a b : List ByteArray) (i : Nat) : prodTo a b i 0 = prodW (a.take i) b := by unfold prodTo; cases a[i]? <;> simp
theorem prodTo_succ {a b : List ByteArray} {i k : Nat} (hi : i < a.length) (hk : k < b.length) : prodTo a b i (k + 1) = prodTo a b i k ++ [a[i] ++ b[k]] := by
  unfold prodTo
  rw [List.getElem?_eq_getElem hi]
  simp only
  rw [List.take_succ_eq_append_getElem hk, List.map_append, List.append_assoc]; rfl
theorem prodTo_next {a b : List ByteArray} {i : Nat} (hi : i < a.length) : prodTo a b i b.length = prodW (a.take (i + 1)) b := by
  unfold prodTo prodW
  rw [List.getElem?_eq_getElem hi, List.take_succ_eq_append_getElem hi, List.flatMap_append, List.take_length]
  simp
theorem prodTo_len {a b : List ByteArray} {i k : Nat} (ha : a.length ≤ 16) (hb : b.length ≤ 16) : (prodTo a b i k).length ≤ 272 := by
  have h1 : ∀ l : List ByteArray, (prodW l b).length = l.length * b.length := by
    intro l
    induction l with
    | nil => simp [prodW]
    | cons x l ih => simp only [prodW, List.flatMap_cons, List.length_append, List.length_map, List.length_cons] at ih ⊢; rw [ih, Nat.add_mul]; omega
  unfold prodTo
  rw [List.length_append, h1]
  have h2 : (a.take i).length * b.length ≤ 16 * 16 := Nat.mul_le_mul (by rw [List.length_take]; omega) hb
  have h3 : (match a[i]? with | some x => (b.take k).map fun y => x ++ y | none => []).length ≤ 16 := by
    cases a[i]? with
    | none => simp
    | some x => simp only [List.length_map, List.length_take]; omega
  omega
theorem mem_prodW {a b : List ByteArray} {w : ByteArray} : w ∈ prodW a b ↔ ∃ x ∈ a, ∃ y ∈ b, w = x ++ y := by
  unfold prodW
  simp only [List.mem_flatMap, List.mem_map]
  constructor
  · rintro ⟨x, hx, y, hy, rfl⟩; exact ⟨x, hx, y, hy, rfl⟩
  · rintro ⟨x, hx, y, hy, rfl⟩; exact ⟨x, hx, y, hy, rfl⟩
theorem atomBytes_one (r : Nat) : (⟨(atomBytes [r]).toArray⟩ : ByteArray) = atomW r := by
  apply ByteArray.ext; apply Array.ext'; simp [atomBytes, atomW]
theorem ofE_good {l r : List ByteArray} (h : ofE l = (r, 0)) : setMay r = true := by
  unfold ofE at h
  split at h
  · cases h
  · next hall =>
    split at h
    · next hlen =>
      simp only [Prod.mk.injEq, and_true] at h
      subst h
      refine setMay_mk hlen.1 hlen.2 (fun x hx => ?_) (rising_nrm l)
      have : l.all wordMay = true := by simpa using hall
      exact List.all_eq_true.1 this x (mem_nrm.1 hx)
    · cases h
theorem quoteE_good {a b : List ByteArray} (h : (quoteE a b).2 = 0) : setMay (quoteE a b).1 = true := by
  have e : quoteE a b = ((quoteE a b).1, 0) := by rw [← h]
  unfold quoteE at e
  split at e
  · simp at e
  · split at e
    · simp at e
    · next h1 h2 => rw [show quoteE a b = ofE (prodW a b) by unfold quoteE; rw [if_neg h1, if_neg h2]]; exact ofE_good e
theorem setMay_small {l : List ByteArray} (h : setMay l = true) : l.length ≤ 16 ∧ ∀ x ∈ l, x.size ≤ 16 := ⟨(setMay_words h).1.2, fun x hx => by have := wordMay_size ((setMay_words h).2 x hx); omega⟩
end Go.Proofs.YtedaffmkpljlnaaGreat

/- What the library's Index, Contains, Equal do with words; Has, Heavy; a word of atoms. -/
namespace Go.Proofs.YtedaffmkpljlnaaGreat
set_option linter.unusedSimpArgs false
set_option linter.unusedVariables false
open Go.RowKit Go.Lib

theorem p_wof (l : List Nat) (hl : l.length ≤ 1000000) (ha : ∀ a ∈ l, a < 65536) : PCalls Tryz.prog 59 [.lst .ro l.length (u16s l)] (.str ⟨(atomBytes l).toArray⟩) := by
  refine pcalls_of (by first | rfl | simp [free, free.frees, frees_u16]) (by first | rfl | simp [free, free.frees, frees_str, frees_u8, frees_u16]) (acalls_of mixed J_word_Of_ok (Nat.le_of_ble_eq_true rfl) ?_); simp only [J_word_Of, wk,eq_self,Nat.reduceEqDiff,reduceCtorEq,↓reduceIte]
  refine ⟨inR_of (by omega) (by omega), ⟨by omega, by omega, by omega⟩, ?_⟩
  refine W_loop (fun n fr h => ∃ i : Nat, i ≤ l.length ∧ n = l.length - i ∧ fr = [(3, .lst (.own 5) (2 * i) (u8s (atomBytes (l.take i)))), (10, .lst .ro l.length (u16s l)), (11, .int .i64 l.length), (12, .int .i64 i)]) l.length ⟨0, by omega, by omega, rfl⟩ ?_
  rintro n fr h ⟨i, hi, rfl, rfl⟩
  simp only [J_word_Of_j2, J_word_Of_j1, wk,eq_self,Nat.reduceEqDiff,↓reduceIte]
  refine ⟨fun hlt => ?_, fun hge => ?_⟩
  · have hil : i < l.length := by omega
    have hx := ha l[i] (List.getElem_mem hil)
    (repeat (refine And.intro (by first | omega | exact inR_of (by omega) (by omega) | exact ⟨by omega, by omega⟩ | exact ⟨by omega, by omega, by omega⟩ | rfl) ?_))
    rw [show (i : Int).toNat = i by omega, u16s_drop hil]
    simp only [wk,eq_self,Nat.reduceEqDiff,Nat.reduceAdd,Nat.reduceLeDiff,Int.reduceLE,Int.reduceToNat,↓reduceIte]
    have e1 : IntKind.u8.wrap ((l[i] : Int).fdiv (2 ^ (min 8 IntKind.u16.bits))) = ((UInt8.ofNat (l[i] / 256)).toNat : Int) := by
      rw [show (min 8 IntKind.u16.bits) = 8 by decide, Int.fdiv_eq_ediv_of_nonneg _ (by omega), IntKind.wrap_u8]
      simp only [UInt8.toNat_ofNat']; omega
    have e2 : IntKind.u8.wrap (l[i] : Int) = ((UInt8.ofNat (l[i] % 256)).toNat : Int) := by
      rw [IntKind.wrap_u8]; simp only [UInt8.toNat_ofNat']; omega
    refine ⟨⟨by omega, by omega⟩, inR_of (by omega) (by omega), l.length - (i + 1), by omega, i + 1, by omega, rfl, ?_⟩
    have e3 : atomBytes (l.take (i + 1)) = atomBytes (l.take i) ++ [UInt8.ofNat (l[i] / 256), UInt8.ofNat (l[i] % 256)] := by
      unfold atomBytes; rw [List.take_succ_eq_append_getElem hil, List.flatMap_append]; simp
    rw [e1, e2, e3, ← u8s_app]
    rfl
  · obtain rfl : i = l.length := by omega
    rw [List.take_length]
    refine ⟨atomBytes l, rfl, ?_, rfl⟩
    have : ∀ l : List Nat, (atomBytes l).length = 2 * l.length := by
      intro l
      induction l with
      | nil => rfl
      | cons a l ih => simp only [atomBytes, List.flatMap_cons, List.length_append, List.length_cons, List.length_nil] at ih ⊢; omega
    rw [this]
end Go.Proofs.YtedaffmkpljlnaaGreat
