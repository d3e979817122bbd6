/- Texts of one proof, laid together: Kb Kc Kd Ea Eb FnE Al Ke Kf Ec Ed Ee Ef Eg Kg Kh Kj. -/
import Derived.Test.YtedaffmkpljlnaaGreatMA18
import Derived.Test.YtedaffmkpljlnaaGreatProg
import Derived.Test.YtedaffmkpljlnaaGreatMA17
set_option maxRecDepth 100000
set_option maxHeartbeats 16000000

set_option linter.unusedSimpArgs false
set_option linter.unusedVariables false
/- The reference's Rune, fine, name, number, begins, isSign. -/
namespace Go.Proofs.YtedaffmkpljlnaaGreat
open Go.RowKit Go.Lib

def runeR (s : ByteArray) (p : Nat) : Int := if p < s.size then (Utf8.decode s p).1 else -1
def runeN (s : ByteArray) (p : Nat) : Nat := if p < s.size then p + (Utf8.decode s p).2 else s.size
def atB (s : ByteArray) (p : Nat) : Prop := p = 0 ∨ ∃ h : p - 1 < s.data.toList.length, (s.data.toList[p - 1]).toNat < 128
theorem len_size (s : ByteArray) : s.data.toList.length = s.size := by simp
theorem step_le {s : ByteArray} {p a : Nat} (hb : atB s a) (hp : p < a) (ha : a ≤ s.size) : p + (Utf8.decode s p).2 ≤ a := by
 have hl := len_size s
 have hpl : p < s.data.toList.length := by omega
 rcases hb with hb | ⟨h, hb⟩
 ·omega
 ·by_cases h1 : (s.data.toList[p]).toNat < 128
  ·rw [dec_lt hpl h1]; show p + 1 ≤ a; omega
  ·obtain ⟨d1, d2, d3, d4⟩ := dec_ge hpl h1
   rcases Nat.lt_or_ge a (p + (Utf8.decode s p).2) with h2 | h2
   ·by_cases h3 : a - 1 = p
    ·simp only [h3] at hb; omega
    ·have := d4 (a - 1) h (by omega) (by omega)
     omega
   ·exact h2
theorem step_one {s : ByteArray} {p : Nat} (hp : p < s.size) : 1 ≤ (Utf8.decode s p).2 ∧ p + (Utf8.decode s p).2 ≤ s.size := by
 have hl := len_size s
 have hpl : p < s.data.toList.length := by omega
 by_cases h1 : (s.data.toList[p]).toNat < 128
 ·rw [dec_lt hpl h1]; exact ⟨Nat.le_refl _, by show p + 1 ≤ s.size; omega⟩
 ·obtain ⟨d1, d2, d3, d4⟩ := dec_ge hpl h1
  exact ⟨d2, by omega⟩
theorem p_rune (s : ByteArray) (a : Nat) (hs : s.size ≤ 1000000) (ha : a ≤ s.size) (hb : atB s a) :
  PCalls Tryz.prog 125 [.str s, .int .i64 a] (.tup [.int .i32 (runeR s a), .int .i64 (runeN s a)]) := by
 refine pcalls_of (by first | rfl | simp [free, free.frees, frees_str, frees_u8, frees_u16]) (by first | rfl | simp [free, free.frees, frees_str, frees_u8, frees_u16]) (acalls_of mixed J_ref04_Rune_ok (Nat.le_of_ble_eq_true rfl) ?_); simp only [J_ref04_Rune, wk,Nat.reduceEqDiff,Nat.reduceAdd,Int.reduceNeg,reduceCtorEq,↓reduceIte]
 refine W_loop (fun n fr h' => ∃ (p : Nat) (g : Int), p ≤ s.size ∧ n = s.size - p ∧ fr = [(0, .str s), (1, .int .i64 a), (6, .int .i32 g), (10, .itr s p)] ∧ (p ≤ a → g = -1) ∧ (a < p → g = (Utf8.decode s a).1 ∧ p = a + (Utf8.decode s a).2)) s.size ⟨0, -1, by omega, by omega, rfl, fun _ => rfl, fun h => by omega⟩ ?_
 rintro n fr h' ⟨p, g, hp, rfl, rfl, hg1, hg2⟩
 simp only [J_ref04_Rune_j3, J_ref04_Rune_j2, wk,Nat.reduceEqDiff,Int.reduceNeg,reduceCtorEq,↓reduceIte]
 refine ⟨fun hlt => ?_, fun hge => ?_⟩
 ·have hone := step_one hlt
  refine ⟨fun e1 => ?_, fun e1 => ?_⟩
  ·have : p = a := by omega
   subst this
   refine ⟨fun h => by omega, fun _ => ⟨s.size - (p + (Utf8.decode s p).2), by omega, p + (Utf8.decode s p).2, _, by omega, rfl, rfl, fun h => by omega, fun _ => ⟨rfl, rfl⟩⟩⟩
  ·refine ⟨fun e2 => ?_, fun e2 => ?_⟩
   ·obtain ⟨k1, k2⟩ := hg2 (by omega)
    have ha2 : a < s.size := by omega
    unfold runeR runeN
    rw [if_pos ha2, if_pos ha2, k1, k2]
   ·have hpa : p < a := by omega
    have hle := step_le hb hpa ha
    refine ⟨s.size - (p + (Utf8.decode s p).2), by omega, p + (Utf8.decode s p).2, _, by omega, rfl, rfl, fun _ => hg1 (by omega), fun h => by omega⟩
 ·simp only [J_ref04_Rune_j1, wk,Nat.reduceEqDiff,reduceCtorEq,↓reduceIte]
  have hps : p = s.size := by omega
  unfold runeR runeN
  by_cases ha2 : a < s.size
  ·obtain ⟨k1, k2⟩ := hg2 (by omega)
   rw [if_pos ha2, if_pos ha2, k1, ← k2, hps]
  ·rw [if_neg ha2, if_neg ha2, hg1 (by omega)]
def fineL : List UInt8 → Bool
 | [] => true
 | b :: _ => freI b.toNat
theorem rune_fre {q : Int → Bool} (hi : ∀ r, 128 ≤ r → q r = q 128) {s : ByteArray} {a : Nat} (h : a < s.data.toList.length) : q (runeR s a) = q (s.data.toList[a]).toNat := by
 have hl := len_size s
 unfold runeR
 rw [if_pos (by omega)]
 by_cases ha : (s.data.toList[a]).toNat < 128
 ·rw [dec_lt h ha]
 ·rw [hi _ (by have := (dec_ge h ha).1; omega), hi (s.data.toList[a]).toNat (by omega)]
theorem fine_eq (s : ByteArray) (a : Nat) (ha : a ≤ s.size) : freI (runeR s a) = fineL (s.data.toList.drop a) := by
 have hl := len_size s
 by_cases h : a < s.data.toList.length
 ·rw [rune_fre hi_fre h, List.drop_eq_getElem_cons h]; rfl
 ·rw [List.drop_of_length_le (by omega)]
  unfold runeR
  rw [if_neg (by omega)]
  rfl
theorem p_fine (s : ByteArray) (a : Nat) (hs : s.size ≤ 1000000) (ha : a ≤ s.size) (hb : atB s a) :
  PCalls Tryz.prog 127 [.str s, .int .i64 a] (.bool (fineL (s.data.toList.drop a))) := by
 refine pcalls_of (by first | rfl | simp [free, free.frees, frees_str, frees_u8, frees_u16]) (by first | rfl | simp [free, free.frees, frees_str, frees_u8, frees_u16]) (acalls_of mixed J_ref04_fine_ok (Nat.le_of_ble_eq_true rfl) ?_); simp only [J_ref04_fine, wk,Nat.reduceEqDiff,Nat.reduceAdd,reduceCtorEq,↓reduceIte]
 refine PCalls.use (p_rune s a hs ha hb) ?_; simp only [wk,Nat.reduceEqDiff,↓reduceIte]
 refine PCalls.use (p_rinName (runeR s a)) ?_; simp only [wk,ne_eq,eq_self,Nat.reduceEqDiff,↓reduceIte]
 have e := fine_eq s a ha
 rw [← e]
 repeat' (first | (refine And.intro ?_ ?_) | intro _)
 all_goals (congr 1; unfold freI; simp_all; try omega)
def nameL (l : List UInt8) : Option Nat := match l with
 | [] => none
 | b :: r => if lttI b.toNat = true ∧ stopN innI (b :: r) ≤ 24 ∧ fineL ((b :: r).drop (stopN innI (b :: r))) = true then some (stopN innI (b :: r)) else none
theorem stopN_le (q : Int → Bool) (l : List UInt8) : stopN q l ≤ l.length := by
 unfold stopN
 exact (List.takeWhile_prefix _).length_le
theorem stopN_at {q : Int → Bool} : ∀ {l : List UInt8} {i : Nat} (h : i < l.length), i < stopN q l → q (l[i]).toNat = true
 | [], i, h, _ => by simp at h
 | b :: l, i, h, hi => by
  by_cases hb : q b.toNat = true
  ·have e : stopN q (b :: l) = stopN q l + 1 := by unfold stopN; simp [hb]
   cases i with
   | zero => exact hb
   | succ i =>
    rw [List.getElem_cons_succ]
    exact stopN_at (by simpa using h) (by omega)
  ·have e : stopN q (b :: l) = 0 := by unfold stopN; simp [hb]
   omega
theorem stopN_end {q : Int → Bool} : ∀ {l : List UInt8} (h : stopN q l < l.length), q (l[stopN q l]).toNat = false
 | [], h => by simp at h
 | b :: l, h => by
  by_cases hb : q b.toNat = true
  ·have e : stopN q (b :: l) = stopN q l + 1 := by unfold stopN; simp [hb]
   have := stopN_end (q := q) (l := l) (by rw [e] at h; simpa using h)
   simp only [e, List.getElem_cons_succ]
   exact this
  ·have e : stopN q (b :: l) = 0 := by unfold stopN; simp [hb]
   simp only [e, List.getElem_cons_zero]
   simpa using hb
theorem atB_stop {q : Int → Bool} (hq : ∀ r, 128 ≤ r → q r = false) {s : ByteArray} {a : Nat} (ha : a ≤ s.size) (hb : atB s a) (n : Nat) (hn : n ≤ stopN q (s.data.toList.drop a)) : atB s (a + n) := by
 have hl := len_size s
 have hle := stopN_le q (s.data.toList.drop a)
 rw [List.length_drop] at hle
 cases n with
 | zero => exact hb
 | succ n =>
  right
  refine ⟨by omega, ?_⟩
  have h1 : n < (s.data.toList.drop a).length := by rw [List.length_drop]; omega
  have := stopN_at (q := q) h1 (by omega)
  rw [List.getElem_drop] at this
  have e : a + (n + 1) - 1 = a + n := by omega
  simp only [e]
  by_cases hc : (s.data.toList[a + n]).toNat < 128
  ·exact hc
  ·rw [hq _ (by omega)] at this; cases this
theorem lo_inn (r : Int) (h : 128 ≤ r) : innI r = false := by rw [hi_inn r h]; rfl
theorem lo_dig (r : Int) (h : 128 ≤ r) : digI r = false := by rw [hi_dig r h]; rfl
theorem hi_ltt (r : Int) (h : 128 ≤ r) : lttI r = lttI 128 := by simp [lttI]; omega
theorem byte_at {s : ByteArray} {i : Nat} (h : i < s.data.toList.length) : byteAt s i = (s.data.toList[i]).toNat := by
 unfold byteAt; rw [List.getElem?_eq_getElem h]; rfl
theorem conv_u8 (b : UInt8) : IntKind.i32.wrap (b.toNat : Int) = b.toNat := by
 have := b.toNat_lt
 rw [IntKind.wrap_i32]; omega
theorem stop_more {q : Int → Bool} {l : List UInt8} {n : Nat} (h : n < l.length) (hn : n ≤ stopN q l) (hq : q (l[n]).toNat = true) : n + 1 ≤ stopN q l := by
 rcases Nat.lt_or_ge n (stopN q l) with h1 | h1
 ·exact h1
 ·have e : stopN q l = n := by omega
  have := stopN_end (q := q) (l := l) (by omega)
  simp only [e] at this
  rw [hq] at this; cases this
theorem stop_done {q : Int → Bool} {l : List UInt8} {n : Nat} (h : n < l.length) (hn : n ≤ stopN q l) (hq : q (l[n]).toNat = false) : stopN q l = n := by
 rcases Nat.lt_or_ge n (stopN q l) with h1 | h1
 ·have := stopN_at h h1; rw [hq] at this; cases this
 ·omega
def rnameV (s : ByteArray) (a : Nat) : AV := match nameL (s.data.toList.drop a) with
 | some n => .tup [.str (s.extract a (a + n)), .int .i64 (a + n : Nat)]
 | none => .tup [.str ⟨#[]⟩, .int .i64 (-1)]
theorem free_rnameV (s : ByteArray) (a : Nat) : free (rnameV s a) = true := by unfold rnameV; split <;> rfl
theorem p_rname (s : ByteArray) (a : Nat) (hs : s.size ≤ 1000000) (ha : a ≤ s.size) (hb : atB s a) :
  PCalls Tryz.prog 124 [.str s, .int .i64 a] (rnameV s a) := by
 have hl := len_size s
 refine pcalls_of rfl (free_rnameV s a) (acalls_of mixed J_ref04_name_ok (Nat.le_of_ble_eq_true rfl) ?_); simp only [J_ref04_name, wk,Nat.reduceEqDiff,Nat.reduceAdd,Int.reduceNeg,reduceCtorEq,↓reduceIte]
 refine PCalls.use (p_rune s a hs ha hb) ?_; simp only [wk,Nat.reduceEqDiff,Int.reduceNeg,reduceCtorEq,↓reduceIte]
 refine PCalls.use (p_rletter (runeR s a)) ?_; simp only [wk,Nat.reduceEqDiff,Int.reduceNeg,reduceCtorEq,↓reduceIte]
 cases hd : s.data.toList.drop a with
 | nil =>
  have : ¬ a < s.size := by
   intro h
   rw [List.drop_eq_getElem_cons (by omega)] at hd; cases hd
  have e : runeR s a = -1 := by unfold runeR; rw [if_neg this]
  rw [e]
  simp only [rnameV, hd, nameL, show lttI (-1) = false from rfl, wk,forall_const,eq_self,Int.reduceNeg]
 | cons b r =>
  have hal : a < s.data.toList.length := by
   rcases Nat.lt_or_ge a s.data.toList.length with h | h
   ·exact h
   ·rw [List.drop_of_length_le h] at hd; cases hd
  have hba : s.data.toList[a] = b := by
   rw [List.drop_eq_getElem_cons hal] at hd
   simp only [List.cons.injEq] at hd
   exact hd.1
  have e : lttI (runeR s a) = lttI b.toNat := by rw [rune_fre hi_ltt hal, hba]
  rw [e]
  by_cases hb1 : lttI b.toNat = true
  ·simp only [hb1, wk,forall_const,eq_self,Int.reduceNeg]
   obtain ⟨L, hL⟩ : ∃ L, L = s.data.toList.drop a := ⟨_, rfl⟩
   have hLl : L.length = s.size - a := by rw [hL, List.length_drop]; omega
   have hLg : ∀ (n : Nat) (h : n < L.length), byteAt s (a + n) = (L[n]).toNat := fun n h => by
    rw [byte_at (show a + n < s.data.toList.length by omega)]
    simp only [hL, List.getElem_drop]
   have hsl := stopN_le innI L
   refine W_loop (fun m fr h' => ∃ n : Nat, n ≤ stopN innI L ∧ m = L.length - n ∧ fr = [(0, .str s), (1, .int .i64 a), (8, .int .i64 (a + n : Nat))]) L.length ⟨0, by omega, by omega, rfl⟩ ?_
   rintro m fr h' ⟨n, hn, rfl, rfl⟩
   simp only [J_ref04_name_j2, wk,Nat.reduceEqDiff,reduceCtorEq,↓reduceIte]
   have hj : stopN innI L = n → ∀ x, W Tryz.prog J_ref04_name_j1 [(0, .str s), (1, .int .i64 a), (8, .int .i64 (a + n : Nat)), (29, x)] h' (kret [.t 4, .t 5] (fun v _ => v = rnameV s a)) := by
    intro hst x
    simp only [J_ref04_name_j1, wk,Nat.reduceEqDiff,Int.reduceNeg,reduceCtorEq,↓reduceIte]
    have hnm : nameL (s.data.toList.drop a) = if n ≤ 24 ∧ fineL (L.drop n) = true then some n else none := by
     rw [← hL]
     have hLc : L = b :: r := by rw [hL, hd]
     have : nameL L = if lttI b.toNat = true ∧ stopN innI L ≤ 24 ∧ fineL (L.drop (stopN innI L)) = true then some (stopN innI L) else none := by rw [hLc]; rfl
     rw [this, hst]
     simp only [hb1, true_and]
    have hdn : L.drop n = s.data.toList.drop (a + n) := by rw [hL, List.drop_drop]
    unfold rnameV
    rw [hnm]
    refine ⟨inR_of (by omega) (by omega), fun h24 => ?_, fun h24 => ?_⟩
    ·have hbn := atB_stop lo_inn ha hb n (by rw [← hL]; omega)
     have hn24 : n ≤ 24 := by omega
     refine PCalls.use (p_fine s (a + n) hs (by omega) hbn) ?_; simp only [wk,Nat.reduceEqDiff,Int.reduceNeg,reduceCtorEq,↓reduceIte]
     rw [← hdn]
     refine ⟨fun hf => ?_, fun hf => ?_⟩
     ·simp only [hn24, hf, Bool.false_eq_true, and_false, if_false]
     ·simp only [hn24, hf, and_self, if_true, Int.toNat_natCast]
      exact ⟨⟨by omega, by omega, by omega⟩, trivial⟩
    ·rw [if_neg (by omega)]
   refine ⟨fun hlt => ⟨⟨by omega, by omega⟩, ?_⟩, fun hge => hj (by omega) _⟩
   have hnl : n < L.length := by omega
   rw [Int.toNat_natCast, hLg n hnl, conv_u8]
   refine PCalls.use (p_rinName (L[n]).toNat) ?_; simp only [wk,Nat.reduceEqDiff,reduceCtorEq,↓reduceIte]
   refine ⟨fun hin => ⟨inR_of (by omega) (by omega), L.length - (n + 1), by omega, n + 1, stop_more hnl hn hin, rfl, by simp; omega⟩, fun hin => hj (stop_done hnl hn hin) _⟩
  ·simp only [show lttI b.toNat = false by simpa using hb1, wk,forall_const,eq_self,Int.reduceNeg]
   unfold rnameV
   rw [hd]
   simp [nameL, hb1]
def numW (s : ByteArray) : Bool := decide (1 ≤ s.size) && (decide (s.size ≤ 9) && (s.data.toList.all (fun b => digI b.toNat) && (decide (byteAt s 0 ≠ 48) || decide (s.size = 1))))
theorem p_rnumber (s : ByteArray) (hs : s.size ≤ 1000000) : PCalls Tryz.prog 80 [.str s] (.bool (numW s)) := by
 have hl := len_size s
 refine pcalls_of (by first | rfl | simp [free, free.frees, frees_str, frees_u8, frees_u16]) (by first | rfl | simp [free, free.frees, frees_str, frees_u8, frees_u16]) (acalls_of mixed J_ref04_number_ok (Nat.le_of_ble_eq_true rfl) ?_); simp only [J_ref04_number, wk,reduceCtorEq,↓reduceIte]
 refine W_loop (fun m fr h' => ∃ n : Nat, n ≤ s.data.toList.length ∧ m = s.data.toList.length - n ∧ fr = [(0, .str s), (3, .int .i64 n)] ∧ ∀ b ∈ s.data.toList.take n, digI b.toNat = true) s.data.toList.length ⟨0, by omega, by omega, rfl, by simp⟩ ?_
 rintro m fr h' ⟨n, hn, rfl, rfl, hall⟩
 simp only [J_ref04_number_j2, wk,Nat.reduceEqDiff,reduceCtorEq,↓reduceIte]
 refine ⟨fun hlt => ⟨⟨by omega, by omega⟩, ?_⟩, fun hge => ?_⟩
 ·have hnl : n < s.data.toList.length := by omega
  rw [Int.toNat_natCast, byte_at hnl, conv_u8]
  refine PCalls.use (p_rdigit (s.data.toList[n]).toNat) ?_; simp only [wk,Nat.reduceEqDiff,reduceCtorEq,↓reduceIte]
  refine ⟨fun e => ?_, fun e => ⟨inR_of (by omega) (by omega), s.data.toList.length - (n + 1), by omega, n + 1, by omega, rfl, by simp, fun b hb => ?_⟩⟩
  ·have : s.data.toList.all (fun b => digI b.toNat) = false := by
    rw [List.all_eq_false]; exact ⟨_, List.getElem_mem hnl, fun h => by rw [e] at h; cases h⟩
   congr 1
   simp [numW, this]
  ·rw [List.take_succ_eq_append_getElem hnl] at hb
   rcases List.mem_append.1 hb with hb | hb
   ·exact hall b hb
   ·simp at hb; subst hb; exact e
 ·rw [List.take_of_length_le (by omega)] at hall
  have ha : s.data.toList.all (fun b => digI b.toNat) = true := List.all_eq_true.2 hall
  simp only [J_ref04_number_j1, wk,ne_eq,eq_self,Nat.reduceEqDiff,Int.reduceLE,reduceCtorEq,↓reduceIte]
  unfold numW
  rw [ha]
  repeat' (first | (refine And.intro ?_ ?_) | intro _)
  all_goals first
   | omega
   | (congr 1; simp_all; done)
   | (congr 1; simp_all; omega)
   | (congr 1; rw [Bool.eq_iff_iff]; simp_all; done)
   | (congr 1; rw [Bool.eq_iff_iff]; simp_all; omega)
def begW (s : ByteArray) (a : Nat) (p : ByteArray) : Bool := decide (a + p.size ≤ s.size) && decide (s.extract a (a + p.size) = p)
theorem p_begins (s p : ByteArray) (a : Nat) (hs : s.size ≤ 1000000) (hp : p.size ≤ 1000000) (ha : a ≤ s.size) : PCalls Tryz.prog 123 [.str s, .int .i64 a, .str p] (.bool (begW s a p)) := by
 refine pcalls_of (by first | rfl | simp [free, free.frees, frees_str, frees_u8, frees_u16]) (by first | rfl | simp [free, free.frees, frees_str, frees_u8, frees_u16]) (acalls_of mixed J_ref04_begins_ok (Nat.le_of_ble_eq_true rfl) ?_); simp only [J_ref04_begins, wk,Nat.reduceEqDiff,Nat.reduceAdd,reduceCtorEq,↓reduceIte]
 have e1 : ((a : Int) + (p.size : Int)).toNat = a + p.size := by omega
 rw [Int.toNat_natCast, e1]
 refine ⟨inR_of (by omega) (by omega), fun h => ⟨inR_of (by omega) (by omega), ⟨by omega, by omega, by omega⟩, ?_⟩, fun h => ?_⟩
 ·congr 1
  have : a + p.size ≤ s.size := by omega
  simp [begW, this]
 ·congr 1
  have : ¬ a + p.size ≤ s.size := by omega
  simp [begW, this]
def sigB (n : Nat) : Bool := n == 61 || n == 44 || n == 59 || n == 60 || n == 62 || n == 33 || n == 63 || n == 42
def sigW (s : ByteArray) : Bool := decide (s.size = 1) && sigB (byteAt s 0)
theorem one_byte {s : ByteArray} (h : s.size = 1) : ∃ b : UInt8, s = ⟨#[b]⟩ := by
 obtain ⟨⟨l⟩⟩ := s
 match l, h with
 | [b], _ => exact ⟨b, rfl⟩
theorem ba_one (b c : UInt8) : ((⟨#[b]⟩ : ByteArray) = ⟨#[c]⟩) ↔ b.toNat = c.toNat := by
 rw [UInt8.toNat_inj]
 constructor
 ·intro h; simpa using h
 ·rintro rfl; rfl
theorem sigW_iff (s : ByteArray) : sigW s = true ↔ (s = ⟨#[61]⟩ ∨ s = ⟨#[44]⟩ ∨ s = ⟨#[59]⟩ ∨ s = ⟨#[60]⟩ ∨ s = ⟨#[62]⟩ ∨ s = ⟨#[33]⟩ ∨ s = ⟨#[63]⟩ ∨ s = ⟨#[42]⟩) := by
 by_cases h : s.size = 1
 ·obtain ⟨b, rfl⟩ := one_byte h
  have e : sigW ⟨#[b]⟩ = sigB b.toNat := by
   unfold sigW
   rw [h]
   rfl
  rw [e]
  simp only [ba_one]
  simp [sigB, or_assoc]
 ·constructor
  ·intro h1
   simp only [sigW, Bool.and_eq_true, decide_eq_true_eq] at h1
   exact absurd h1.1 h
  ·intro h1
   rcases h1 with rfl | rfl | rfl | rfl | rfl | rfl | rfl | rfl <;> exact absurd rfl h
theorem p_isSign (s : ByteArray) : PCalls Tryz.prog 81 [.str s] (.bool (sigW s)) := by
 refine pcalls_of (by first | rfl | simp [free, free.frees, frees_str, frees_u8, frees_u16]) (by first | rfl | simp [free, free.frees, frees_str, frees_u8, frees_u16]) (acalls_of mixed J_ref04_isSign_ok (Nat.le_of_ble_eq_true rfl) ?_); simp only [J_ref04_isSign, wk,Nat.reduceEqDiff,reduceCtorEq,↓reduceIte]
 have no : sigW s = true → AV.bool true = .bool (sigW s) := fun h => by rw [h]
 have hi := sigW_iff s
 repeat' (first | (refine And.intro ?_ ?_) | intro _)
 all_goals first
  | (apply no; rw [hi]; simp_all; done)
  | (congr 1; rw [Bool.eq_iff_iff, hi]; simp_all)
def ba (l : List UInt8) : ByteArray := ⟨l.toArray⟩
theorem ba_list (l : List UInt8) : (ba l).data.toList = l := by simp [ba]
theorem ba_len2 (l : List UInt8) : (ba l).size = l.length := by show l.toArray.size = _; simp
theorem ba_eta (s : ByteArray) : ba s.data.toList = s := by apply ByteArray.ext; apply Array.ext'; simp [ba]
theorem ba_inj {a b : List UInt8} : ba a = ba b ↔ a = b := ⟨fun h => by rw [← ba_list a, h, ba_list], fun h => by rw [h]⟩
theorem ext_ba (s : ByteArray) (a n : Nat) : s.extract a (a + n) = ba ((s.data.toList.drop a).take n) := by
 apply ByteArray.ext; apply Array.ext'
 simp [ba, List.extract_eq_take_drop]
def begL (p : ByteArray) (l : List UInt8) : Bool := decide (l.take p.size = p.data.toList)
theorem begW_eq (s p : ByteArray) (a : Nat) (ha : a ≤ s.size) : begW s a p = begL p (s.data.toList.drop a) := by
 have hl := len_size s
 have hp := len_size p
 unfold begW begL
 rw [ext_ba]
 by_cases h : a + p.size ≤ s.size
 ·simp only [h, decide_true, Bool.true_and]
  congr 1
  rw [← ba_eta p, ba_inj]
  simp [ba_eta]
 ·simp only [h, decide_false, Bool.false_and]
  symm
  rw [decide_eq_false_iff_not]
  intro h2
  have := congrArg List.length h2
  rw [List.length_take, List.length_drop] at this
  omega
abbrev Sig := Int × ByteArray × Int × Nat
def atomL (k : Int) (skip : Nat) (l : List UInt8) : Option Sig := match nameL l with
 | none => none
 | some n => some (1, ba (l.take n), k, skip + n)
def plainL : List UInt8 → Option Sig
 | [] => none
 | b :: r =>
  if lttI b.toNat = true then (match nameL (b :: r) with
   | none => none
   | some n => if keyW (ba ((b :: r).take n)) = 0 then some (1, ba ((b :: r).take n), 3, n) else some (keyW (ba ((b :: r).take n)), ba [], 0, n))
  else if b.toNat = 68 then (if fineL r = true then some (1, ba [68], 0, 1) else none)
  else if b.toNat = 124 then some (4, ba [], 0, 1)
  else if b.toNat = 40 then some (6, ba [], 0, 1)
  else if b.toNat = 41 then some (7, ba [], 0, 1)
  else if digI b.toNat = true then (if numW (ba ((b :: r).take (stopN digI (b :: r)))) = true ∧ fineL ((b :: r).drop (stopN digI (b :: r))) = true then some (8, ba ((b :: r).take (stopN digI (b :: r))), 0, stopN digI (b :: r)) else none)
  else if sigB b.toNat = true then some (9, ba [b], 0, 1)
  else none
def kindL (l : List UInt8) : Int := if begL (preW 1) l = true then 1 else if begL (preW 2) l = true then 2 else if begL (preW 4) l = true then 4 else if begL (preW 5) l = true then 5 else 0
def signL (l : List UInt8) : Option Sig := if kindL l = 0 then plainL l else atomL (kindL l) (preW (kindL l)).size (l.drop (preW (kindL l)).size)
def signRV (s : ByteArray) (a : Nat) : AV := match signL (s.data.toList.drop a) with
 | some (k, w, o, n) => .tup [.agg [.int .i64 k, .str w, .int .i64 o, .int .i64 a], .int .i64 (a + n : Nat)]
 | none => .tup [.agg [.int .i64 (if kindL (s.data.toList.drop a) = 0 then 0 else 1), .str ⟨#[]⟩, .int .i64 (kindL (s.data.toList.drop a)), .int .i64 a], .int .i64 (-1)]
theorem free_signRV (s : ByteArray) (a : Nat) : free (signRV s a) = true := by unfold signRV; split <;> rfl
theorem atB_beg {s p : ByteArray} {a : Nat} (ha : a ≤ s.size) (h : begL p (s.data.toList.drop a) = true) (hp : 0 < p.size) (hc : ∀ b ∈ p.data.toList, b.toNat < 128) : a + p.size ≤ s.size ∧ atB s (a + p.size) := by
 have hl := len_size s
 have hpl := len_size p
 unfold begL at h
 have h2 := of_decide_eq_true h
 have h3 := congrArg List.length h2
 rw [List.length_take, List.length_drop] at h3
 refine ⟨by omega, .inr ⟨by omega, ?_⟩⟩
 have h4 : s.data.toList[a + p.size - 1]'(by omega) ∈ p.data.toList := by
  rw [← h2, List.mem_iff_getElem]
  refine ⟨p.size - 1, by rw [List.length_take, List.length_drop]; omega, ?_⟩
  rw [List.getElem_take, List.getElem_drop]
  congr 1; omega
 exact hc _ h4
def kinds : List Int := [1, 2, 4, 5]
theorem kind_at {l : List UInt8} {i : Nat} (hi : i < kinds.length) (hall : ∀ (j : Nat) (hj : j < kinds.length), j < i → begL (preW (kinds[j])) l = false) (h : begL (preW (kinds[i])) l = true) : kindL l = kinds[i] := by
 unfold kinds at hi hall h ⊢
 unfold kindL
 rcases (show i = 0 ∨ i = 1 ∨ i = 2 ∨ i = 3 by simp at hi; omega) with rfl | rfl | rfl | rfl
 ·rw [if_pos (show begL (preW 1) l = true from h)]; rfl
 ·rw [if_neg (by rw [show begL (preW 1) l = false from hall 0 (by simp) (by omega)]; simp), if_pos (show begL (preW 2) l = true from h)]; rfl
 ·rw [if_neg (by rw [show begL (preW 1) l = false from hall 0 (by simp) (by omega)]; simp), if_neg (by rw [show begL (preW 2) l = false from hall 1 (by simp) (by omega)]; simp), if_pos (show begL (preW 4) l = true from h)]; rfl
 ·rw [if_neg (by rw [show begL (preW 1) l = false from hall 0 (by simp) (by omega)]; simp), if_neg (by rw [show begL (preW 2) l = false from hall 1 (by simp) (by omega)]; simp), if_neg (by rw [show begL (preW 4) l = false from hall 2 (by simp) (by omega)]; simp), if_pos (show begL (preW 5) l = true from h)]; rfl
theorem kind_no {l : List UInt8} (hall : ∀ (j : Nat) (hj : j < kinds.length), begL (preW (kinds[j])) l = false) : kindL l = 0 := by
 unfold kindL
 rw [if_neg (by rw [show begL (preW 1) l = false from hall 0 (by simp [kinds])]; simp), if_neg (by rw [show begL (preW 2) l = false from hall 1 (by simp [kinds])]; simp), if_neg (by rw [show begL (preW 4) l = false from hall 2 (by simp [kinds])]; simp), if_neg (by rw [show begL (preW 5) l = false from hall 3 (by simp [kinds])]; simp)]
theorem pre_ok {k : Int} (h : k ∈ kinds) : 0 < (preW k).size ∧ (preW k).size ≤ 6 ∧ ∀ b ∈ (preW k).data.toList, b.toNat < 128 := by
 unfold kinds at h
 simp only [List.mem_cons, List.not_mem_nil, or_false] at h
 rcases h with rfl | rfl | rfl | rfl <;> exact ⟨by decide, by decide, by decide⟩
theorem kinds_nz {k : Int} (h : k ∈ kinds) : k ≠ 0 := by
 unfold kinds at h
 simp only [List.mem_cons, List.not_mem_nil, or_false] at h
 omega
theorem p_rsign (s : ByteArray) (a : Nat) (hs : s.size ≤ 1000000) (ha : a < s.size) (hb : atB s a) :
  PCalls Tryz.prog 101 [.str s, .int .i64 a] (signRV s a) := by
 have hl := len_size s
 refine pcalls_of rfl (free_signRV s a) (acalls_of mixed J_ref04_sign_ok (Nat.le_of_ble_eq_true rfl) ?_); simp only [J_ref04_sign, wk,Nat.reduceEqDiff,Nat.reduceAdd,Nat.reduceLeDiff,reduceCtorEq,↓reduceIte]
 refine W_loop (fun m fr h' => ∃ i : Nat, i ≤ 4 ∧ m = 4 - i ∧ h' = [some (false, [.int .i64 0, .str ⟨#[]⟩, .int .i64 0, .int .i64 0]), some (false, [.int .i64 0, .str ⟨#[]⟩, .int .i64 0, .int .i64 a])] ∧ fr = [(0, .str s), (1, .int .i64 a), (4, .ptr 0 0), (6, .ptr 1 0), (7, .lst (.own 3) 4 [.int .i64 1, .int .i64 2, .int .i64 4, .int .i64 5]), (8, .int .i64 i)] ∧ ∀ (j : Nat) (hj : j < kinds.length), j < i → begL (preW (kinds[j])) (s.data.toList.drop a) = false) 4 ⟨0, by omega, by omega, rfl, rfl, fun j _ h => by omega⟩ ?_
 rintro m fr h' ⟨i, hi, rfl, rfl, rfl, hall⟩
 simp only [J_ref04_sign_j8, wk,Nat.reduceEqDiff,reduceCtorEq,↓reduceIte]
 have hkl : kinds.length = 4 := rfl
 refine ⟨fun hlt => ⟨⟨by omega, by omega⟩, ?_⟩, fun hge => ?_⟩
 ·have hi4 : i < kinds.length := by omega
  have hd : List.drop (i : Int).toNat [AV.int .i64 1, .int .i64 2, .int .i64 4, .int .i64 5] = .int .i64 kinds[i] :: (kinds.drop (i + 1)).map (AV.int .i64) := by
   rw [Int.toNat_natCast, show [AV.int .i64 1, .int .i64 2, .int .i64 4, .int .i64 5] = kinds.map (AV.int .i64) from rfl, ← List.map_drop, List.drop_eq_getElem_cons hi4]
   rfl
  obtain ⟨g1, g2, g3⟩ := pre_ok (List.getElem_mem hi4)
  simp only [hd, wk,↓reduceIte]
  refine PCalls.use (p_prefix kinds[i]) ?_; simp only [wk,Nat.reduceEqDiff,reduceCtorEq,↓reduceIte]
  have hbg := p_begins s (preW kinds[i]) a hs (by omega) (by omega)
  rw [begW_eq s _ a (by omega)] at hbg
  refine PCalls.use (hbg) ?_; simp only [wk,Nat.reduceEqDiff,reduceCtorEq,↓reduceIte]
  refine ⟨fun e => ?_, fun e => ?_⟩
  ·obtain ⟨b1, b2⟩ := atB_beg (by omega) e g1 g3
   have hkk := kind_at hi4 hall e
   have hnz := kinds_nz (List.getElem_mem hi4)
   have qn := p_rname s (a + (preW kinds[i]).size) hs b1 b2
   have hsg : signL (s.data.toList.drop a) = atomL kinds[i] (preW kinds[i]).size (s.data.toList.drop (a + (preW kinds[i]).size)) := by
    unfold signL
    rw [hkk, if_neg hnz, List.drop_drop]
   rw [show (a : Int) + (preW kinds[i]).size = ((a + (preW kinds[i]).size : Nat) : Int) by omega]
   refine ⟨inR_of (by omega) (by omega), ?_⟩
   unfold rnameV at qn
   unfold signRV
   rw [hsg]
   unfold atomL
   cases hn : nameL (s.data.toList.drop (a + (preW kinds[i]).size)) with
   | none =>
    rw [hn] at qn
    refine PCalls.use (qn) ?_; simp only [wk,Nat.reduceEqDiff,Int.reduceNeg,reduceCtorEq,↓reduceIte]
    refine ⟨⟨by omega, by omega⟩, ?_⟩
    simp only [hd, hkk, hnz, valL, wk,Nat.reduceEqDiff,Nat.reduceAdd,Nat.reduceLeDiff,Int.reduceNeg,↓reduceIte]
   | some n =>
    rw [hn] at qn
    refine PCalls.use (qn) ?_; simp only [wk,Nat.reduceEqDiff,reduceCtorEq,↓reduceIte]
    refine ⟨⟨by omega, by omega⟩, ?_⟩
    simp only [hd, valL, ext_ba, wk,Nat.reduceEqDiff,Nat.reduceAdd,Nat.reduceLeDiff,↓reduceIte]
    rw [Nat.add_assoc]
  ·refine ⟨inR_of (by omega) (by omega), 4 - (i + 1), by omega, i + 1, by omega, rfl, by simp, fun j hj hji => ?_⟩
   rcases Nat.lt_or_ge j i with h1 | h1
   ·exact hall j hj h1
   ·have h2 : j = i := by omega
    subst h2; exact e
 ·have hk0 : kindL (s.data.toList.drop a) = 0 := kind_no (fun j hj => hall j hj (by omega))
  have hsg : signL (s.data.toList.drop a) = plainL (s.data.toList.drop a) := by unfold signL; rw [if_pos hk0]
  have hal : a < s.data.toList.length := by omega
  have hd : s.data.toList.drop a = s.data.toList[a] :: s.data.toList.drop (a + 1) := List.drop_eq_getElem_cons hal
  obtain ⟨b, hb1⟩ : ∃ b, b = s.data.toList[a] := ⟨_, rfl⟩
  rw [← hb1] at hd
  have hr1 : lttI (runeR s a) = lttI b.toNat := by rw [rune_fre hi_ltt hal, hb1]
  have hr2 : digI (runeR s a) = digI b.toNat := by rw [rune_fre hi_dig hal, hb1]
  have hr3 : ∀ k : Int, k < 128 → (runeR s a = k ↔ (b.toNat : Int) = k) := fun k hk => by
   have hq : ∀ r : Int, 128 ≤ r → decide (r = k) = decide ((128 : Int) = k) := fun r hr => by
    rw [decide_eq_decide]; omega
   have := rune_fre (q := fun r => decide (r = k)) hq hal
   rw [← hb1] at this
   simpa using this
  have hn1 : b.toNat < 128 → runeN s a = a + 1 := fun h => by
   unfold runeN
   rw [if_pos ha, dec_lt hal (by rw [← hb1]; exact h)]
  unfold signRV
  rw [hsg, hk0, hd]
  have qlet := p_rletter (runeR s a)
  have qdig := p_rdigit (runeR s a)
  rw [hr1] at qlet
  rw [hr2] at qdig
  have n68 := hr3 68 (by omega)
  have n124 := hr3 124 (by omega)
  have n40 := hr3 40 (by omega)
  have n41 := hr3 41 (by omega)
  simp only [J_ref04_sign_j7, wk,Nat.reduceEqDiff,Int.reduceNeg,reduceCtorEq,↓reduceIte]
  refine PCalls.use (p_rune s a hs (by omega) hb) ?_; simp only [wk,Nat.reduceEqDiff,Int.reduceNeg,reduceCtorEq,↓reduceIte]
  by_cases hlet : lttI b.toNat = true
  ·rw [hlet] at qlet
   refine PCalls.use (qlet) ?_; simp only [wk,Nat.reduceEqDiff,Int.reduceNeg,reduceCtorEq,↓reduceIte]
   have qn := p_rname s a hs (by omega) hb
   unfold rnameV at qn
   rw [hd] at qn
   simp only [plainL, hlet, if_true]
   cases hn : nameL (b :: s.data.toList.drop (a + 1)) with
   | none =>
    rw [hn] at qn
    refine PCalls.use (qn) ?_; simp only [wk,Nat.reduceEqDiff,Nat.reduceAdd,Nat.reduceLeDiff,Int.reduceLT,Int.reduceNeg,reduceCtorEq,↓reduceIte]
    simp only [valL, wk,Nat.reduceEqDiff,Nat.reduceAdd,Nat.reduceLeDiff,Int.reduceNeg,↓reduceIte]
   | some n =>
    rw [hn] at qn
    refine PCalls.use (qn) ?_; simp only [wk,Nat.reduceEqDiff,Nat.reduceAdd,Nat.reduceLeDiff,Int.reduceNeg,reduceCtorEq,↓reduceIte]
    have hw : s.extract a (a + n) = ba ((b :: s.data.toList.drop (a + 1)).take n) := by rw [ext_ba, hd]
    rw [hw]
    refine ⟨fun h => by omega, fun _ => ?_⟩
    refine PCalls.use (p_rkeyword (ba ((b :: s.data.toList.drop (a + 1)).take n))) ?_; simp only [wk,Nat.reduceEqDiff,Nat.reduceAdd,Nat.reduceLeDiff,Int.reduceNeg,↓reduceIte]
    refine ⟨fun h0 => ?_, fun h0 => ?_⟩
    ·simp only [h0, J_ref04_sign_j6, valL, wk,Nat.reduceEqDiff,Nat.reduceAdd,Nat.reduceLeDiff,Int.reduceNeg,↓reduceIte]
     try rfl
    ·simp only [h0, J_ref04_sign_j6, valL, wk,Nat.reduceEqDiff,Nat.reduceAdd,Nat.reduceLeDiff,Int.reduceNeg,↓reduceIte]
     try rfl
  ·rw [show lttI b.toNat = false by simpa using hlet] at qlet
   refine PCalls.use (qlet) ?_; simp only [wk,Nat.reduceEqDiff,Nat.reduceAdd,Nat.reduceLeDiff,Int.reduceNeg,reduceCtorEq,↓reduceIte]
   by_cases h68 : b.toNat = 68
   ·have e : runeR s a = 68 := n68.2 (by omega)
    simp only [e, plainL, show ((68 : Nat) : Int) = 68 from rfl, h68, show lttI 68 = false from rfl, Bool.false_eq_true, wk,forall_const,eq_self,Int.reduceEq,Int.reduceNeg,↓reduceIte]
    rw [hn1 (by omega)]
    refine PCalls.use (p_fine s (a + 1) hs (by omega) (.inr ⟨by omega, by simp only [Nat.add_sub_cancel, ← hb1]; omega⟩)) ?_; simp only [wk,Nat.reduceEqDiff,Nat.reduceAdd,Nat.reduceLeDiff,Int.reduceNeg,reduceCtorEq,↓reduceIte]
    refine ⟨fun h0 => ?_, fun h0 => ?_⟩
    ·simp only [h0, valL, Bool.false_eq_true, wk,Nat.reduceEqDiff,Nat.reduceAdd,Nat.reduceLeDiff,Int.reduceNeg,↓reduceIte]
     try rfl
    ·simp only [h0, valL, wk,Nat.reduceEqDiff,Nat.reduceAdd,Nat.reduceLeDiff,↓reduceIte]
     try rfl
   ·by_cases h124 : b.toNat = 124
    ·have e : runeR s a = 124 := n124.2 (by omega)
     simp only [e, plainL, show ((124 : Nat) : Int) = 124 from rfl, h124, show lttI 124 = false from rfl, Bool.false_eq_true, J_ref04_sign_j5, J_ref04_sign_j4, valL, wk,forall_const,eq_self,Nat.reduceEqDiff,Nat.reduceAdd,Nat.reduceLeDiff,Int.reduceEq,Int.reduceNeg,↓reduceIte]
     rw [hn1 (by omega)]
     rfl
    ·by_cases h40 : b.toNat = 40
     ·have e : runeR s a = 40 := n40.2 (by omega)
      simp only [e, plainL, show ((40 : Nat) : Int) = 40 from rfl, h40, show lttI 40 = false from rfl, Bool.false_eq_true, J_ref04_sign_j5, J_ref04_sign_j4, valL, wk,forall_const,eq_self,Nat.reduceEqDiff,Nat.reduceAdd,Nat.reduceLeDiff,Int.reduceEq,Int.reduceNeg,↓reduceIte]
      rw [hn1 (by omega)]
      rfl
     ·by_cases h41 : b.toNat = 41
      ·have e : runeR s a = 41 := n41.2 (by omega)
       simp only [e, plainL, show ((41 : Nat) : Int) = 41 from rfl, h41, show lttI 41 = false from rfl, Bool.false_eq_true, J_ref04_sign_j5, J_ref04_sign_j4, valL, wk,forall_const,eq_self,Nat.reduceEqDiff,Nat.reduceAdd,Nat.reduceLeDiff,Int.reduceEq,Int.reduceNeg,↓reduceIte]
       rw [hn1 (by omega)]
       rfl
      ·have e1 : (runeR s a = 68) = False := by rw [n68]; simp; omega
       have e2 : (runeR s a = 124) = False := by rw [n124]; simp; omega
       have e3 : (runeR s a = 40) = False := by rw [n40]; simp; omega
       have e4 : (runeR s a = 41) = False := by rw [n41]; simp; omega
       simp only [e1, e2, e3, e4, not_false_eq_true, false_implies, wk,forall_const,Int.reduceNeg]
       refine PCalls.use (qdig) ?_; simp only [wk,Nat.reduceEqDiff,Int.reduceNeg,reduceCtorEq,↓reduceIte]
       simp only [plainL, show lttI b.toNat = false by simpa using hlet, h68, h124, h40, h41, Bool.false_eq_true, if_false]
       refine ⟨fun hdg => ?_, fun hdg => ?_⟩
       ·rw [if_pos hdg]
        obtain ⟨L, hL⟩ : ∃ L, L = b :: s.data.toList.drop (a + 1) := ⟨_, rfl⟩
        rw [← hL] at hd ⊢
        have hLl : L.length = s.size - a := by rw [← hd, List.length_drop]; omega
        have hLg : ∀ (n : Nat) (h : n < L.length), byteAt s (a + n) = (L[n]).toNat := fun n h => by
         rw [byte_at (show a + n < s.data.toList.length by omega)]
         simp only [← hd, List.getElem_drop]
        have hsl := stopN_le digI L
        refine W_loop (fun m fr h' => ∃ n : Nat, n ≤ stopN digI L ∧ m = L.length - n ∧ h' = [some (false, [.int .i64 0, .str ⟨#[]⟩, .int .i64 0, .int .i64 0]), some (false, [.int .i64 0, .str ⟨#[]⟩, .int .i64 0, .int .i64 a])] ∧ fr = [(0, .str s), (1, .int .i64 a), (4, .ptr 0 0), (6, .ptr 1 0), (16, .int .i64 (a + n : Nat))]) L.length ⟨0, by omega, by omega, rfl, rfl⟩ ?_
        rintro m fr h' ⟨n, hn, rfl, rfl, rfl⟩
        simp only [J_ref04_sign_j3, wk,Nat.reduceEqDiff,Int.reduceNeg,reduceCtorEq,↓reduceIte]
        have hj : stopN digI L = n → ∀ x, W Tryz.prog J_ref04_sign_j2 [(0, .str s), (1, .int .i64 a), (4, .ptr 0 0), (6, .ptr 1 0), (16, .int .i64 (a + n : Nat)), (124, x)] [some (false, [.int .i64 0, .str ⟨#[]⟩, .int .i64 0, .int .i64 0]), some (false, [.int .i64 0, .str ⟨#[]⟩, .int .i64 0, .int .i64 a])] (kseq Tryz.prog J_ref04_sign_j1 (kret [.c 4 (some 4), .t 5] (fun v _ => v = (match (if numW (ba (L.take (stopN digI L))) = true ∧ fineL (L.drop (stopN digI L)) = true then some (8, ba (L.take (stopN digI L)), 0, stopN digI L) else none : Option Sig) with
          | some (k, w, o, n) => .tup [.agg [.int .i64 k, .str w, .int .i64 o, .int .i64 a], .int .i64 (a + n : Nat)]
          | none => .tup [.agg [.int .i64 (if (0 : Int) = 0 then 0 else 1), .str ⟨#[]⟩, .int .i64 0, .int .i64 a], .int .i64 (-1)])))) := by
         intro hst x
         simp only [J_ref04_sign_j2, Int.toNat_natCast, ext_ba, hd, hst, wk,Nat.reduceEqDiff,Int.reduceNeg,reduceCtorEq,↓reduceIte]
         have qn := p_rnumber (ba (L.take n)) (by rw [ba_len2, List.length_take]; omega)
         have hbn := atB_stop lo_dig (show a ≤ s.size by omega) hb n (by rw [hd]; omega)
         have qf := p_fine s (a + n) hs (by omega) hbn
         rw [← List.drop_drop, hd] at qf
         refine ⟨⟨by omega, by omega, by omega⟩, ?_⟩
         refine PCalls.use (qn) ?_; simp only [wk,Nat.reduceEqDiff,Nat.reduceAdd,Nat.reduceLeDiff,Int.reduceNeg,reduceCtorEq,↓reduceIte]
         refine ⟨fun h1 => ?_, fun h1 => ?_⟩
         ·refine PCalls.use (qf) ?_; simp only [wk,Nat.reduceEqDiff,Nat.reduceAdd,Nat.reduceLeDiff,Int.reduceNeg,reduceCtorEq,↓reduceIte]
          refine ⟨fun h2 => ?_, fun h2 => ?_⟩
          ·simp only [h1, h2, valL, Bool.false_eq_true, and_false, wk,Nat.reduceEqDiff,Nat.reduceAdd,Nat.reduceLeDiff,Int.reduceNeg,reduceCtorEq,↓reduceIte]
           try rfl
          ·simp only [h1, h2, valL, and_self, Int.toNat_natCast, ext_ba, hd, wk,Nat.reduceEqDiff,Nat.reduceAdd,Nat.reduceLeDiff,reduceCtorEq,↓reduceIte]
           first
            | rfl
            | exact ⟨⟨by omega, by omega, by omega⟩, rfl⟩
            | exact ⟨by omega, by omega, by omega⟩
         ·simp only [h1, valL, Bool.false_eq_true, false_and, wk,Nat.reduceEqDiff,Nat.reduceAdd,Nat.reduceLeDiff,Int.reduceNeg,reduceCtorEq,↓reduceIte]
          try rfl
        refine ⟨fun hlt => ⟨⟨by omega, by omega⟩, ?_⟩, fun hge => hj (by omega) _⟩
        have hnl : n < L.length := by omega
        rw [Int.toNat_natCast, hLg n hnl, conv_u8]
        refine PCalls.use (p_rdigit (L[n]).toNat) ?_; simp only [wk,Nat.reduceEqDiff,Int.reduceNeg,reduceCtorEq,↓reduceIte]
        refine ⟨fun hin => ⟨inR_of (by omega) (by omega), L.length - (n + 1), by omega, n + 1, stop_more hnl hn hin, rfl, by simp; omega⟩, fun hin => hj (stop_done hnl hn hin) _⟩
       ·rw [if_neg (by simp [hdg])]
        have hsb : sigW (s.extract a (runeN s a)) = sigB b.toNat := by
         by_cases hc : b.toNat < 128
         ·rw [hn1 hc, ext_ba, hd]
          unfold sigW
          rw [ba_len2, byte_at (by rw [ba_list]; simp)]
          simp [ba_list]
         ·have hk : sigB b.toNat = false := by
           simp [sigB]; omega
          rw [hk]
          unfold runeN
          obtain ⟨d1, d2, d3, _⟩ := dec_ge hal (by rw [← hb1]; exact hc)
          rw [if_pos ha, ext_ba, hd]
          unfold sigW
          obtain ⟨w, hw⟩ : ∃ w, (Utf8.decode s a).2 = w + 1 := ⟨(Utf8.decode s a).2 - 1, by omega⟩
          rw [hw, List.take_succ_cons, byte_at (by rw [ba_list]; simp)]
          simp only [ba_list, List.getElem_cons_zero, hk, Bool.and_false]
        have hrn : a ≤ runeN s a ∧ runeN s a ≤ s.size := by
         unfold runeN
         rw [if_pos ha]
         have := step_one ha
         omega
        simp only [J_ref04_sign_j1, Int.toNat_natCast, wk,Nat.reduceEqDiff,Int.reduceNeg,reduceCtorEq,↓reduceIte]
        refine ⟨⟨by omega, by omega, by omega⟩, ?_⟩
        have qs := p_isSign (s.extract a (runeN s a))
        rw [hsb] at qs
        refine PCalls.use (qs) ?_; simp only [wk,Nat.reduceEqDiff,Nat.reduceAdd,Nat.reduceLeDiff,Int.reduceNeg,reduceCtorEq,↓reduceIte]
        refine ⟨fun h1 => ?_, fun h1 => ?_⟩
        ·simp only [h1, valL, Bool.false_eq_true, wk,Nat.reduceEqDiff,Nat.reduceAdd,Nat.reduceLeDiff,Int.reduceNeg,reduceCtorEq,↓reduceIte]
         try rfl
        ·have hc : b.toNat < 128 := by
          simp [sigB] at h1; omega
         simp only [h1, hn1 hc, ext_ba, hd, valL, Int.toNat_natCast, List.take_succ_cons, List.take_zero, wk,Nat.reduceEqDiff,Nat.reduceAdd,Nat.reduceLeDiff,reduceCtorEq,↓reduceIte]
         first
          | exact ⟨⟨by omega, by omega, by omega⟩, rfl⟩
          | exact ⟨by omega, by omega, by omega⟩
structure Tok where
  kind : Int
  name : ByteArray
  of : Int
  at_ : Int
def tC (t : Tok) : List AV := [.int .i64 t.kind, .str t.name, .int .i64 t.of, .int .i64 t.at_]
def toksC (l : List Tok) : List AV := l.flatMap tC
def vToks (l : List Tok) : AV := .lst .ro l.length (toksC l)
theorem frees_toks (l : List Tok) : free.frees (toksC l) = true := by
 induction l with
 | nil => rfl
 | cons x l ih => simp only [toksC, List.flatMap_cons, tC, List.cons_append, List.nil_append, free.frees, free, Bool.true_and] at ih ⊢; exact ih
theorem rdps_toks : ∀ l : List Tok, rdps (toksC l) = toksC l
 | [] => rdps_nil
 | x :: l => by
  have := rdps_toks l
  simp only [toksC, List.flatMap_cons, tC, List.cons_append, List.nil_append, rdpw] at this ⊢
  rw [this]
theorem toksC_sn (l : List Tok) (t : Tok) : toksC (l ++ [t]) = toksC l ++ [.int .i64 t.kind, .str t.name, .int .i64 t.of, .int .i64 t.at_] := by
 simp [toksC, tC]
theorem toksC_len (l : List Tok) : (toksC l).length = l.length * 4 := by
 induction l with
 | nil => rfl
 | cons x l ih => simp only [toksC, List.flatMap_cons, List.length_append, tC, List.length_cons, List.length_nil] at ih ⊢; omega
theorem toksC_drop : ∀ {l : List Tok} {i : Nat} (h : i < l.length), (toksC l).drop (i * 4) = .int .i64 l[i].kind :: .str l[i].name :: .int .i64 l[i].of :: .int .i64 l[i].at_ :: (toksC l).drop ((i + 1) * 4)
 | [], _, h => by simp at h
 | w :: l, 0, h => by simp [toksC, tC]
 | w :: l, i + 1, h => by
  have := toksC_drop (l := l) (i := i) (by simpa using h)
  simp only [toksC, List.flatMap_cons, tC, List.cons_append, List.nil_append] at this ⊢
  rw [show (i + 1) * 4 = i * 4 + 1 + 1 + 1 + 1 by omega, show (i + 1 + 1) * 4 = (i + 1) * 4 + 1 + 1 + 1 + 1 by omega]
  simp only [List.drop_succ_cons, List.getElem_cons_succ]
  exact this
theorem nameL_ok {l : List UInt8} {n : Nat} (h : nameL l = some n) : n = stopN innI l ∧ 1 ≤ n ∧ n ≤ 24 ∧ n ≤ l.length ∧ ∃ b r, l = b :: r ∧ lttI b.toNat = true := by
 unfold nameL at h
 split at h
 ·cases h
 ·next b r =>
  split at h
  ·next hc =>
   simp only [Option.some.injEq] at h
   subst h
   have hle := stopN_le innI (b :: r)
   refine ⟨rfl, ?_, hc.2.1, hle, b, r, rfl, hc.1⟩
   have hi : innI b.toNat = true := by unfold innI; rw [hc.1]; rfl
   have := stop_more (q := innI) (l := b :: r) (n := 0) (by simp) (by omega) hi
   omega
  ·cases h
def ascii (l : List UInt8) (n : Nat) : Prop := 1 ≤ n ∧ n ≤ l.length ∧ ∀ (i : Nat) (h : i < l.length), i < n → (l[i]).toNat < 128
theorem ascii_one {b : UInt8} {r : List UInt8} (h : b.toNat < 128) : ascii (b :: r) 1 := by
 refine ⟨Nat.le_refl _, by simp, fun i hi h1 => ?_⟩
 obtain rfl : i = 0 := by omega
 exact h
theorem ascii_stop {q : Int → Bool} (hq : ∀ r, 128 ≤ r → q r = false) {l : List UInt8} (h : 1 ≤ stopN q l) : ascii l (stopN q l) := by
 refine ⟨h, stopN_le q l, fun i hi h1 => ?_⟩
 have := stopN_at hi h1
 by_cases hc : (l[i]).toNat < 128
 ·exact hc
 ·rw [hq _ (by omega)] at this; cases this
theorem plainL_ascii {l : List UInt8} {k : Int} {w : ByteArray} {o : Int} {n : Nat} (h : plainL l = some (k, w, o, n)) : ascii l n := by
 unfold plainL at h
 split at h
 ·cases h
 ·next b r =>
  have one : ∀ k' : Sig, some k' = some (k, w, o, n) → k'.2.2.2 = n := fun k' e => by simp only [Option.some.injEq] at e; rw [e]
  split at h
  ·next hlet =>
   split at h
   ·cases h
   ·next m hm =>
    obtain ⟨e1, e2, _⟩ := nameL_ok hm
    have : m = n := by
     split at h <;> exact one _ h
    subst this
    rw [e1] at e2 ⊢
    exact ascii_stop lo_inn e2
  ·split at h
   ·next h68 =>
    split at h
    ·rw [← one _ h]; exact ascii_one (by omega)
    ·cases h
   ·split at h
    ·next hc => rw [← one _ h]; exact ascii_one (by omega)
    ·split at h
     ·next hc => rw [← one _ h]; exact ascii_one (by omega)
     ·split at h
      ·next hc => rw [← one _ h]; exact ascii_one (by omega)
      ·split at h
       ·next hc =>
        split at h
        ·next hn =>
         rw [← one _ h]
         refine ascii_stop lo_dig ?_
         exact stop_more (q := digI) (l := b :: r) (n := 0) (by simp) (by omega) hc
        ·cases h
       ·split at h
        ·next hc => rw [← one _ h]; exact ascii_one (by simp [sigB] at hc; omega)
        ·cases h
theorem kindL_cases (l : List UInt8) : kindL l = 0 ∨ (kindL l ∈ kinds ∧ begL (preW (kindL l)) l = true) := by
 unfold kindL kinds
 split
 ·next h => right; exact ⟨by simp, h⟩
 ·split
  ·next h => right; exact ⟨by simp, h⟩
  ·split
   ·next h => right; exact ⟨by simp, h⟩
   ·split
    ·next h => right; exact ⟨by simp, h⟩
    ·exact .inl rfl
theorem signL_ascii {l : List UInt8} {k : Int} {w : ByteArray} {o : Int} {n : Nat} (h : signL l = some (k, w, o, n)) : ascii l n := by
 unfold signL at h
 split at h
 ·exact plainL_ascii h
 ·next hk =>
  rcases kindL_cases l with h0 | ⟨hm, hbg⟩
  ·exact absurd h0 hk
  ·obtain ⟨g1, g2, g3⟩ := pre_ok hm
   unfold atomL at h
   split at h
   ·cases h
   ·next m hn =>
    simp only [Option.some.injEq, Prod.mk.injEq] at h
    obtain ⟨_, _, _, rfl⟩ := h
    obtain ⟨e1, e2, _, e3, _⟩ := nameL_ok hn
    rw [List.length_drop] at e3
    refine ⟨by omega, by omega, fun i hi h1 => ?_⟩
    rcases Nat.lt_or_ge i (preW (kindL l)).size with h2 | h2
    ·unfold begL at hbg
     have h3 := of_decide_eq_true hbg
     refine g3 _ ?_
     rw [← h3, List.mem_iff_getElem]
     exact ⟨i, by rw [List.length_take]; omega, by rw [List.getElem_take]⟩
    ·obtain ⟨j, rfl⟩ : ∃ j, i = (preW (kindL l)).size + j := ⟨i - (preW (kindL l)).size, by omega⟩
     have hj : j < (l.drop (preW (kindL l)).size).length := by rw [List.length_drop]; omega
     have := stopN_at (q := innI) hj (by omega)
     rw [List.getElem_drop] at this
     by_cases hc : (l[(preW (kindL l)).size + j]).toNat < 128
     ·exact hc
     ·rw [lo_inn _ (by omega)] at this; cases this
abbrev Res := List Tok × Nat × Int
def blankB (b : UInt8) : Bool := b.toNat == 32 || b.toNat == 9 || b.toNat == 10
def scanF : Nat → List UInt8 → Nat → List Tok → Res
 | 0, _, _, acc => (acc, 0, 0)
 | _ + 1, [], _, acc => (acc, 0, 0)
 | f + 1, b :: r, a, acc =>
  if blankB b = true then scanF f r (a + 1) acc
  else if b.toNat = 35 then scanF f ((b :: r).drop (stopN notI (b :: r))) (a + stopN notI (b :: r)) acc
  else match signL (b :: r) with
   | none => ([], a, 2)
   | some (k, w, o, n) => if acc.length = 1000 then ([], a, 3) else scanF f ((b :: r).drop n) (a + n) (acc ++ [⟨k, w, o, a⟩])
theorem note_one {b : UInt8} {r : List UInt8} (h : b.toNat = 35) : 1 ≤ stopN notI (b :: r) := stop_more (q := notI) (l := b :: r) (n := 0) (by simp) (by omega) (by show notI b.toNat = true; rw [h]; rfl)
theorem scanF_more : ∀ (f g : Nat) (l : List UInt8) (a : Nat) (acc : List Tok), l.length ≤ f → l.length ≤ g → scanF f l a acc = scanF g l a acc
 | 0, 0, _, _, _, _, _ => rfl
 | 0, g + 1, l, a, acc, h, _ => by
  have : l = [] := List.eq_nil_of_length_eq_zero (by omega)
  subst this; rfl
 | f + 1, 0, l, a, acc, _, h => by
  have : l = [] := List.eq_nil_of_length_eq_zero (by omega)
  subst this; rfl
 | f + 1, g + 1, [], a, acc, _, _ => rfl
 | f + 1, g + 1, b :: r, a, acc, h1, h2 => by
  simp only [List.length_cons] at h1 h2
  simp only [scanF]
  split
  ·exact scanF_more f g r _ _ (by omega) (by omega)
  ·split
   ·next h => have := note_one (r := r) h; exact scanF_more f g _ _ _ (by simp; omega) (by simp; omega)
   ·split
    ·rfl
    ·next k w o n hs =>
     split
     ·rfl
     ·have := (signL_ascii hs).1
      exact scanF_more f g _ _ _ (by simp; omega) (by simp; omega)
def scan (l : List UInt8) (a : Nat) (acc : List Tok) : Res := scanF l.length l a acc
theorem scan_cons (b : UInt8) (r : List UInt8) (a : Nat) (acc : List Tok) : scan (b :: r) a acc =
  if blankB b = true then scan r (a + 1) acc
  else if b.toNat = 35 then scan ((b :: r).drop (stopN notI (b :: r))) (a + stopN notI (b :: r)) acc
  else match signL (b :: r) with
   | none => ([], a, 2)
   | some (k, w, o, n) => if acc.length = 1000 then ([], a, 3) else scan ((b :: r).drop n) (a + n) (acc ++ [⟨k, w, o, a⟩]) := by
 unfold scan
 simp only [List.length_cons, scanF]
 split
 ·rfl
 ·split
  ·next h => have := note_one (r := r) h; exact scanF_more _ _ _ _ _ (by simp; omega) (by simp)
  ·split
   ·rfl
   ·next k w o n hs =>
    split
    ·rfl
    ·have := (signL_ascii hs).1
     exact scanF_more _ _ _ _ _ (by simp; omega) (by simp)
def allT (s : ByteArray) : Res := if 4000 < s.size then ([], 0, 3) else scan s.data.toList 0 []
def resV (r : Res) : AV := .tup [vToks r.1, .int .i64 r.2.1, .int .i64 r.2.2]
theorem ascii_at {s : ByteArray} {a n : Nat} (ha : a ≤ s.size) (h : ascii (s.data.toList.drop a) n) : a + n ≤ s.size ∧ atB s (a + n) := by
 have hl := len_size s
 obtain ⟨h1, h2, h3⟩ := h
 rw [List.length_drop] at h2
 refine ⟨by omega, .inr ⟨by omega, ?_⟩⟩
 have := h3 (n - 1) (by rw [List.length_drop]; omega) (by omega)
 rw [List.getElem_drop] at this
 have e : a + n - 1 = a + (n - 1) := by omega
 simp only [e]; exact this
theorem free_resV (r : Res) : free (resV r) = true := by simp [resV, vToks, free, free.frees, frees_toks]
def restN (s : ByteArray) (a : Nat) (note : Bool) (acc : List Tok) : Res :=
 if note = true then scan (s.data.toList.drop (a + stopN notI (s.data.toList.drop a))) (a + stopN notI (s.data.toList.drop a)) acc else scan (s.data.toList.drop a) a acc
theorem stopN_cons {q : Int → Bool} {b : UInt8} {r : List UInt8} (h : q b.toNat = true) : stopN q (b :: r) = stopN q r + 1 := by unfold stopN; simp [h]
theorem stopN_zero {q : Int → Bool} {b : UInt8} {r : List UInt8} (h : q b.toNat = false) : stopN q (b :: r) = 0 := by unfold stopN; simp [h]
theorem p_rall (s : ByteArray) (hs : s.size ≤ 1000000) : PCalls Tryz.prog 63 [.str s] (resV (allT s)) := by
 have hl := len_size s
 refine pcalls_of rfl (free_resV _) (ACalls.deep (acalls_of mixed J_ref04_All_ok (Nat.le_of_ble_eq_true rfl) ?_)); simp only [J_ref04_All, wk,Nat.reduceEqDiff,reduceCtorEq,↓reduceIte]
 unfold allT
 refine ⟨fun hbig => ?_, fun hbig => ?_⟩
 ·rw [if_pos (by omega)]
  simp only [rdpw, resV, vToks, toksC]
  rfl
 rw [if_neg (by omega)]
 refine W_loop (fun m fr h' => ∃ (a : Nat) (note : Bool) (acc : List Tok), a ≤ s.size ∧ m = s.size - a ∧ acc.length ≤ 1000 ∧ (note = false → atB s a) ∧ scan s.data.toList 0 [] = restN s a note acc ∧ fr = [(0, .str s), (5, .lst (.own 85) acc.length (toksC acc)), (6, .int .i64 a), (7, .bool note)]) s.size ⟨0, false, [], by omega, by omega, by simp, fun _ => .inl rfl, by unfold restN; simp, rfl⟩ ?_
 rintro m fr h' ⟨a, note, acc, ha, rfl, hacc, hnb, hscan, rfl⟩
 simp only [J_ref04_All_j4, wk,Nat.reduceEqDiff,reduceCtorEq,↓reduceIte]
 refine ⟨fun hlt => ⟨⟨by omega, by omega⟩, ?_⟩, fun hge => ?_⟩
 ·have hal : a < s.data.toList.length := by omega
  have hd : s.data.toList.drop a = s.data.toList[a] :: s.data.toList.drop (a + 1) := List.drop_eq_getElem_cons hal
  obtain ⟨b, hb1⟩ : ∃ b, b = s.data.toList[a] := ⟨_, rfl⟩
  rw [← hb1] at hd
  rw [Int.toNat_natCast, byte_at hal, ← hb1]
  -- behind a byte that is passed over
  have next : ∀ (note' : Bool), (note' = false → atB s (a + 1)) → restN s a note acc = restN s (a + 1) note' acc → ∃ m, m < s.size - a ∧ ∃ (a' : Nat) (n' : Bool) (acc' : List Tok), a' ≤ s.size ∧ m = s.size - a' ∧ acc'.length ≤ 1000 ∧ (n' = false → atB s a') ∧ scan s.data.toList 0 [] = restN s a' n' acc' ∧ [(0, AV.str s), (5, .lst (.own 85) acc.length (toksC acc)), (6, .int .i64 (a + 1)), (7, .bool note')] = [(0, .str s), (5, .lst (.own 85) acc'.length (toksC acc')), (6, .int .i64 a'), (7, .bool n')] := fun note' h1 h2 =>
   ⟨s.size - (a + 1), by omega, a + 1, note', acc, by omega, rfl, hacc, h1, hscan.trans h2, by simp⟩
  have hab : b.toNat < 128 → atB s (a + 1) := fun h => .inr ⟨by omega, by simp only [Nat.add_sub_cancel, ← hb1]; exact h⟩
  have r_note : ∀ acc', notI b.toNat = true → restN s a true acc' = restN s (a + 1) true acc' := fun acc' hq => by
   unfold restN
   rw [if_pos rfl, if_pos rfl, hd, stopN_cons hq]
   rw [show a + (stopN notI (s.data.toList.drop (a + 1)) + 1) = a + 1 + stopN notI (s.data.toList.drop (a + 1)) by omega]
  have r_end : ∀ nt : Bool, b.toNat = 10 → restN s a nt acc = restN s (a + 1) false acc := fun nt h => by
   have hz : stopN notI (b :: s.data.toList.drop (a + 1)) = 0 := stopN_zero (by rw [h]; rfl)
   have hs1 : scan (b :: s.data.toList.drop (a + 1)) a acc = scan (s.data.toList.drop (a + 1)) (a + 1) acc := by rw [scan_cons, if_pos (by simp [blankB, h])]
   unfold restN
   cases nt with
   | true => rw [if_pos rfl, if_neg (by simp), hd, hz, Nat.add_zero, hd, hs1]
   | false => rw [if_neg (by simp), if_neg (by simp), hd, hs1]
  have r_blank : blankB b = true → restN s a false acc = restN s (a + 1) false acc := fun h => by
   unfold restN
   rw [if_neg (by simp), if_neg (by simp), hd, scan_cons, if_pos h]
  have r_hash : b.toNat = 35 → restN s a false acc = restN s (a + 1) true acc := fun h => by
   have hq : notI b.toNat = true := by rw [h]; rfl
   unfold restN
   rw [if_neg (by simp), if_pos rfl, hd, scan_cons, if_neg (by simp [blankB, h]), if_pos h, stopN_cons hq, List.drop_succ_cons, List.drop_drop]
   rw [show a + (stopN notI (s.data.toList.drop (a + 1)) + 1) = a + 1 + stopN notI (s.data.toList.drop (a + 1)) by omega]
  refine ⟨fun e10 => ?_, fun e10 => ?_⟩
  ·have h10 : b.toNat = 10 := by omega
   simp only [J_ref04_All_j3, J_ref04_All_j2, e10, wk,Nat.reduceEqDiff,Int.reduceEq,reduceCtorEq,↓reduceIte]
   exact ⟨inR_of (by omega) (by omega), next false (fun _ => hab (by omega)) (r_end note h10)⟩
  ·have hq : notI b.toNat = true := by simp [notI]; omega
   simp only [J_ref04_All_j3, wk,Nat.reduceEqDiff,reduceCtorEq,↓reduceIte]
   refine ⟨fun e35 => ?_, fun e35 => ?_⟩
   ·simp only [J_ref04_All_j2, e35, wk,Nat.reduceEqDiff,reduceCtorEq,↓reduceIte]
    refine ⟨inR_of (by omega) (by omega), next true (fun h => by cases h) ?_⟩
    cases note with
    | true => exact r_note acc hq
    | false => exact r_hash (by omega)
   ·cases note with
    | true =>
     simp only [J_ref04_All_j2, wk,Nat.reduceEqDiff,reduceCtorEq,↓reduceIte]
     exact ⟨inR_of (by omega) (by omega), next true (fun h => by cases h) (r_note acc hq)⟩
    | false =>
     have hba := hnb rfl
     have e10f : ((b.toNat : Int) = 10) = False := by simpa using e10
     by_cases hbl : blankB b = true
     ·have h2 : b.toNat = 32 ∨ b.toNat = 9 := by simp [blankB] at hbl; omega
      have hn := next false (fun _ => hab (by omega)) (r_blank hbl)
      simp only [J_ref04_All_j2, wk,Nat.reduceEqDiff,reduceCtorEq,↓reduceIte]
      refine ⟨fun e32 => ?_, fun e32 => ?_⟩
      ·exact ⟨fun e9 => ⟨fun _ => ⟨inR_of (by omega) (by omega), hn⟩, fun n10 => by omega⟩, fun _ => ⟨inR_of (by omega) (by omega), hn⟩⟩
      ·exact ⟨inR_of (by omega) (by omega), hn⟩
     ·have b1 : ((b.toNat : Int) = 32) = False := by simp [blankB] at hbl ⊢; omega
      have b2 : ((b.toNat : Int) = 9) = False := by simp [blankB] at hbl ⊢; omega
      simp only [J_ref04_All_j2, e10f, b1, b2, wk,Nat.reduceEqDiff,reduceCtorEq,↓reduceIte]
      have qs := p_rsign s a hs (by omega) hba
      unfold signRV at qs
      rw [hd] at qs
      have hrest : scan s.data.toList 0 [] = match signL (b :: s.data.toList.drop (a + 1)) with
        | none => ([], a, 2)
        | some (k, w, o, n) => if acc.length = 1000 then ([], a, 3) else scan ((b :: s.data.toList.drop (a + 1)).drop n) (a + n) (acc ++ [⟨k, w, o, a⟩]) := by
       rw [hscan]
       unfold restN
       rw [if_neg (by simp), hd, scan_cons, if_neg hbl, if_neg (by omega)]
      cases hsg : signL (b :: s.data.toList.drop (a + 1)) with
      | none =>
       rw [hsg] at qs hrest
       refine PCalls.use (qs) ?_; simp only [wk,Nat.reduceEqDiff,Nat.reduceAdd,Nat.reduceLeDiff,Int.reduceLT,Int.reduceNeg,reduceCtorEq,↓reduceIte]
       simp only [hrest, resV, vToks, toksC, rdpw, wk]
       rfl
      | some x =>
       obtain ⟨k, w, o, n⟩ := x
       rw [hsg] at qs hrest
       refine PCalls.use (qs) ?_; simp only [wk,Nat.reduceEqDiff,Nat.reduceAdd,Nat.reduceMul,Nat.reduceLeDiff,reduceCtorEq,↓reduceIte]
       have hasc := signL_ascii hsg
       rw [← hd] at hasc
       obtain ⟨k1, k2⟩ := ascii_at (by omega) hasc
       have hn1 := hasc.1
       refine ⟨fun h => by omega, fun _ => ⟨fun h => ?_, fun h => ?_⟩⟩
       ·simp only [hrest, show acc.length = 1000 by omega, if_true, resV, vToks, toksC, rdpw]
        rfl
       ·refine ⟨⟨by omega, by omega⟩, s.size - (a + n), by omega, a + n, false, acc ++ [⟨k, w, o, a⟩], by omega, rfl, by simp; omega, fun _ => k2, ?_, ?_⟩
        ·rw [hrest]
         simp only
         rw [if_neg (by omega), ← hd, List.drop_drop]
         unfold restN
         rw [if_neg (by simp)]
        ·simp [toksC_sn]
 ·have hn : scan s.data.toList 0 [] = (acc, 0, 0) := by
   rw [hscan]
   unfold restN
   rw [List.drop_of_length_le (by omega), List.drop_of_length_le (by omega)]
   split <;> rfl
  simp only [J_ref04_All_j1, hn, resV, vToks, rdpw, rdps_toks, wk,Nat.reduceEqDiff,reduceCtorEq,↓reduceIte]
  rfl
end Go.Proofs.YtedaffmkpljlnaaGreat
/- Expressions: plain laws: what the reader's stack reads of tokens is what the document's way, by the last sign that binds least, reads; what is written is read; terms as trees, told from the front and from behind; texts; what is read, written, has no more parentheses; what tokens are read as, and where they are wrong. No program in sight. -/
namespace Go.Proofs.YtedaffmkpljlnaaGreat
open Go.RowKit Go.Lib

structure Trm where
  op : Int
  of : Int
  name : ByteArray
def sgn (k : Int) : Trm := ⟨k, 0, ⟨#[]⟩⟩
def leaf (t : Tok) : Trm := ⟨1, t.of, t.name⟩
def bindK (k : Int) : Int := if k = 2 then 1 else if k = 3 then 2 else if k = 4 then 3 else if k = 5 then 4 else 0
def popL (m : Int) (w : List Int) : List Int := w.takeWhile fun k => decide (m ≤ bindK k)
def popR (m : Int) (w : List Int) : List Int := w.dropWhile fun k => decide (m ≤ bindK k)
def sstep (s : List Trm × List Int) (t : Tok) : List Trm × List Int :=
 if t.kind = 1 then (s.1 ++ [leaf t], s.2)
 else if t.kind = 6 then (s.1, 6 :: s.2)
 else if t.kind = 7 then (s.1 ++ (popL 1 s.2).map sgn, (popR 1 s.2).tail)
 else (s.1 ++ (popL (bindK t.kind) s.2).map sgn, t.kind :: popR (bindK t.kind) s.2)
def srun (l : List Tok) (s : List Trm × List Int) : List Trm × List Int := l.foldl sstep s
def readD (l : List Tok) : List Trm := (srun l ([], [])).1 ++ (popL 1 (srun l ([], [])).2).map sgn
def cstep (M : Nat) (b : Bool) (n : Nat) (az : Bool) (t : Tok) : Option (Bool × Nat) :=
 if b = false then
  (if t.kind = 1 ∧ (az = false ∨ t.of = 5) then some (true, n)
  else if t.kind = 6 ∧ az = false then (if n = M then none else some (false, n + 1))
  else none)
 else if t.kind = 7 then (if 0 < n then some (true, n - 1) else none)
 else if 0 < bindK t.kind then some (false, n)
 else none
def ctl (M : Nat) (b : Bool) (n : Nat) (az : Bool) : List Tok → Option (Bool × Nat)
 | [] => some (b, n)
 | t :: l => match cstep M b n az t with
  | none => none
  | some (b', n') => ctl M b' n' (decide (t.kind = 5)) l
def accT (M : Nat) (l : List Tok) : Prop := ctl M false 0 false l = some (true, 0)
theorem bind6 : bindK 6 = 0 := by decide
theorem bind7 : bindK 7 = 0 := by decide
theorem bind1 : bindK 1 = 0 := by decide
theorem bind_pos {k : Int} (h : 0 < bindK k) : k = 2 ∨ k = 3 ∨ k = 4 ∨ k = 5 := by
 unfold bindK at h
 split at h <;> (try split at h) <;> (try split at h) <;> (try split at h) <;> omega
theorem bind_le (k : Int) : bindK k ≤ 4 := by
 unfold bindK
 split <;> (try split) <;> (try split) <;> (try split) <;> omega
theorem bind_ge (k : Int) : 0 ≤ bindK k := by
 unfold bindK
 split <;> (try split) <;> (try split) <;> (try split) <;> omega
theorem bind_ne {k : Int} (h : 0 < bindK k) : k ≠ 1 ∧ k ≠ 6 ∧ k ≠ 7 := by have := bind_pos h; omega
theorem cstep_cases {M : Nat} {b : Bool} {n : Nat} {az : Bool} {t : Tok} {b' : Bool} {n' : Nat} (h : cstep M b n az t = some (b', n')) :
  (b = false ∧ t.kind = 1 ∧ (az = false ∨ t.of = 5) ∧ b' = true ∧ n' = n) ∨ (b = false ∧ t.kind = 6 ∧ az = false ∧ n ≠ M ∧ b' = false ∧ n' = n + 1) ∨
  (b = true ∧ t.kind = 7 ∧ 0 < n ∧ b' = true ∧ n' = n - 1) ∨ (b = true ∧ 0 < bindK t.kind ∧ b' = false ∧ n' = n) := by
 unfold cstep at h
 by_cases hb : b = false
 ·rw [if_pos hb] at h
  by_cases h1 : t.kind = 1 ∧ (az = false ∨ t.of = 5)
  ·rw [if_pos h1] at h
   simp only [Option.some.injEq, Prod.mk.injEq] at h
   exact .inl ⟨hb, h1.1, h1.2, h.1.symm, h.2.symm⟩
  ·rw [if_neg h1] at h
   by_cases h2 : t.kind = 6 ∧ az = false
   ·rw [if_pos h2] at h
    by_cases h3 : n = M
    ·rw [if_pos h3] at h; cases h
    ·rw [if_neg h3] at h
     simp only [Option.some.injEq, Prod.mk.injEq] at h
     exact .inr (.inl ⟨hb, h2.1, h2.2, h3, h.1.symm, h.2.symm⟩)
   ·rw [if_neg h2] at h; cases h
 ·rw [if_neg hb] at h
  have hb : b = true := by simpa using hb
  by_cases h1 : t.kind = 7
  ·rw [if_pos h1] at h
   by_cases h2 : 0 < n
   ·rw [if_pos h2] at h
    simp only [Option.some.injEq, Prod.mk.injEq] at h
    exact .inr (.inr (.inl ⟨hb, h1, h2, h.1.symm, h.2.symm⟩))
   ·rw [if_neg h2] at h; cases h
  ·rw [if_neg h1] at h
   by_cases h2 : 0 < bindK t.kind
   ·rw [if_pos h2] at h
    simp only [Option.some.injEq, Prod.mk.injEq] at h
    exact .inr (.inr (.inr ⟨hb, h2, h.1.symm, h.2.symm⟩))
   ·rw [if_neg h2] at h; cases h
theorem ctl_cons {M : Nat} {b : Bool} {n : Nat} {az : Bool} {t : Tok} {l : List Tok} {r : Bool × Nat} (h : ctl M b n az (t :: l) = some r) : ∃ b' n', cstep M b n az t = some (b', n') ∧ ctl M b' n' (decide (t.kind = 5)) l = some r := by
 simp only [ctl] at h
 cases hc : cstep M b n az t with
 | none => rw [hc] at h; cases h
 | some x => obtain ⟨b', n'⟩ := x; rw [hc] at h; exact ⟨b', n', rfl, h⟩
def lowsOk (m : Int) : Nat → List Tok → Prop
 | _, [] => True
 | n, t :: l => if t.kind = 6 then lowsOk m (n + 1) l else if t.kind = 7 then lowsOk m (n - 1) l else (n = 0 → 0 < bindK t.kind → m ≤ bindK t.kind) ∧ lowsOk m n l
def geOk (m : Int) : List Int → Prop
 | [] => True
 | k :: P => (P.count 6 = 0 → k ≠ 6 → m ≤ bindK k) ∧ geOk m P
theorem geOk_all {m : Int} : ∀ {P : List Int}, geOk m P → P.count 6 = 0 → ∀ k ∈ P, m ≤ bindK k
 | [], _, _, k, hk => by simp at hk
 | a :: P, ⟨h1, h2⟩, hc, k, hk => by
  rw [List.count_cons] at hc
  have hc1 : P.count 6 = 0 := by omega
  have ha : a ≠ 6 := fun e => by subst e; simp at hc
  rcases List.mem_cons.1 hk with rfl | hk
  ·exact h1 hc1 ha
  ·exact geOk_all h2 hc1 k hk
theorem geOk_popR {m q : Int} : ∀ {P : List Int}, geOk m P → geOk m (popR q P)
 | [], _ => trivial
 | a :: P, ⟨h1, h2⟩ => by
  unfold popR
  rw [List.dropWhile_cons]
  split
  ·exact geOk_popR h2
  ·exact ⟨h1, h2⟩
theorem pop_app {q : Int} (hq : 0 < q) : ∀ (P : List Int) (base : List Int), (6 ∈ P ∨ ∀ k ∈ base.head?, bindK k < q) → popL q (P ++ base) = popL q P ∧ popR q (P ++ base) = popR q P ++ base
 | [], base, h => by
  rcases h with h | h
  ·simp at h
  ·cases base with
   | nil => simp [popL, popR]
   | cons a r =>
    have : ¬ q ≤ bindK a := by have := h a (by simp); omega
    simp [popL, popR, this]
 | a :: P, base, h => by
  by_cases ha : q ≤ bindK a
  ·have h' : 6 ∈ P ∨ ∀ k ∈ base.head?, bindK k < q := by
    rcases h with h | h
    ·rcases List.mem_cons.1 h with rfl | h
     ·rw [bind6] at ha; omega
     ·exact .inl h
    ·exact .inr h
   obtain ⟨i1, i2⟩ := pop_app hq P base h'
   simp only [popL, popR] at i1 i2 ⊢
   simp [ha, i1, i2]
  ·simp [popL, popR, ha]
theorem popR_count {q : Int} (hq : 0 < q) : ∀ P : List Int, (popR q P).count 6 = P.count 6
 | [] => rfl
 | a :: P => by
  unfold popR
  rw [List.dropWhile_cons]
  split
  ·next h =>
   have : a ≠ 6 := fun e => by subst e; simp [bind6] at h; omega
   rw [List.count_cons, if_neg (by simpa using this)]
   exact popR_count hq P
  ·rfl
theorem popR_close : ∀ {P : List Int}, 0 < P.count 6 → (∀ k ∈ P, k = 6 ∨ 0 < bindK k) → ∃ R, popR 1 P = 6 :: R ∧ R.count 6 + 1 = P.count 6
 | [], h, _ => by simp at h
 | a :: P, h, hs => by
  unfold popR
  rw [List.dropWhile_cons]
  by_cases ha : a = 6
  ·subst ha
   rw [if_neg (by simp [bind6])]
   exact ⟨P, rfl, by rw [List.count_cons]; simp⟩
  ·have hb : 0 < bindK a := (hs a (by simp)).resolve_left ha
   rw [if_pos (by simp; omega)]
   rw [List.count_cons, if_neg (by simpa using ha)] at h ⊢
   exact popR_close h (fun k hk => hs k (by simp [hk]))
theorem popR_mem {q : Int} {P : List Int} {k : Int} (h : k ∈ popR q P) : k ∈ P := (List.dropWhile_suffix _).subset h
theorem frame {M : Nat} {base : List Int} {m : Int} (hm : 0 < m) (hb : ∀ k ∈ base.head?, bindK k < m) : ∀ (l : List Tok) (b : Bool) (n : Nat) (az : Bool) (r : Bool × Nat) (out A : List Trm) (P : List Int), ctl M b n az l = some r → lowsOk m n l → P.count 6 = n → (∀ k ∈ P, k = 6 ∨ 0 < bindK k) → geOk m P →
  srun l (out ++ A, P ++ base) = (out ++ (srun l (A, P)).1, (srun l (A, P)).2 ++ base) ∧ (srun l (A, P)).2.count 6 = r.2 ∧ (∀ k ∈ (srun l (A, P)).2, k = 6 ∨ 0 < bindK k) ∧ geOk m (srun l (A, P)).2
 | [], b, n, az, r, out, A, P, hc, _, hn, hs, hg => by
  simp only [ctl, Option.some.injEq] at hc
  subst hc
  exact ⟨rfl, hn, hs, hg⟩
 | t :: l, b, n, az, r, out, A, P, hc, hl, hn, hs, hg => by
  obtain ⟨b', n', h1, h2⟩ := ctl_cons hc
  have go : ∀ (A' : List Trm) (P' : List Int), sstep (A, P) t = (A', P') → sstep (out ++ A, P ++ base) t = (out ++ A', P' ++ base) → lowsOk m n' l → P'.count 6 = n' → (∀ k ∈ P', k = 6 ∨ 0 < bindK k) → geOk m P' →
    srun (t :: l) (out ++ A, P ++ base) = (out ++ (srun (t :: l) (A, P)).1, (srun (t :: l) (A, P)).2 ++ base) ∧ (srun (t :: l) (A, P)).2.count 6 = r.2 ∧ (∀ k ∈ (srun (t :: l) (A, P)).2, k = 6 ∨ 0 < bindK k) ∧ geOk m (srun (t :: l) (A, P)).2 := by
   intro A' P' e1 e2 q1 q2 q3 q4
   have := frame hm hb l b' n' _ r out A' P' h2 q1 q2 q3 q4
   simp only [srun, List.foldl_cons, e1, e2] at this ⊢
   exact this
  simp only [lowsOk] at hl
  rcases cstep_cases h1 with ⟨_, k1, _, _, rfl⟩ | ⟨_, k1, _, _, _, rfl⟩ | ⟨_, k1, hpos, _, rfl⟩ | ⟨_, k1, _, rfl⟩
  ·rw [k1, if_neg (by decide), if_neg (by decide)] at hl
   refine go (A ++ [leaf t]) P ?_ ?_ hl.2 hn hs hg
   ·unfold sstep; rw [if_pos k1]
   ·unfold sstep; rw [if_pos k1]; simp
  ·rw [if_pos k1] at hl
   refine go A (6 :: P) ?_ ?_ hl ?_ ?_ ⟨fun _ h => absurd rfl h, hg⟩
   ·unfold sstep; rw [if_neg (by omega), if_pos k1]
   ·unfold sstep; rw [if_neg (by omega), if_pos k1]; rfl
   ·rw [List.count_cons, hn]; simp
   ·intro k hk
    rcases List.mem_cons.1 hk with rfl | hk
    ·exact .inl rfl
    ·exact hs k hk
  ·rw [if_neg (by omega), if_pos k1] at hl
   obtain ⟨R, e1, e2⟩ := popR_close (P := P) (by omega) hs
   have h6 : 6 ∈ P := List.count_pos_iff.1 (by omega)
   obtain ⟨p1, p2⟩ := pop_app (q := 1) (by decide) P base (.inl h6)
   refine go (A ++ (popL 1 P).map sgn) R ?_ ?_ hl (by omega) ?_ ?_
   ·unfold sstep; rw [if_neg (by omega), if_neg (by omega), if_pos k1]; simp [e1]
   ·unfold sstep; rw [if_neg (by omega), if_neg (by omega), if_pos k1, p1, p2]; simp [e1]
   ·intro k hk
    exact hs k (popR_mem (q := 1) (by rw [e1]; simp [hk]))
   ·have := geOk_popR (q := 1) hg
    rw [e1] at this
    exact this.2
  ·obtain ⟨n1, n6, n7⟩ := bind_ne k1
   rw [if_neg n6, if_neg n7] at hl
   have hor : 6 ∈ P ∨ ∀ k ∈ base.head?, bindK k < bindK t.kind := by
    by_cases h0 : P.count 6 = 0
    ·exact .inr fun k hk => by have := hb k hk; have := hl.1 (by omega) k1; omega
    ·exact .inl (List.count_pos_iff.1 (by omega))
   obtain ⟨p1, p2⟩ := pop_app (q := bindK t.kind) k1 P base hor
   refine go (A ++ (popL (bindK t.kind) P).map sgn) (t.kind :: popR (bindK t.kind) P) ?_ ?_ hl.2 ?_ ?_ ⟨fun h0 _ => ?_, geOk_popR hg⟩
   ·unfold sstep; rw [if_neg n1, if_neg n6, if_neg n7]
   ·unfold sstep; rw [if_neg n1, if_neg n6, if_neg n7, p1, p2]; simp
   ·rw [List.count_cons, popR_count k1, if_neg (by simpa using n6)]; omega
   ·intro k hk
    rcases List.mem_cons.1 hk with rfl | hk
    ·exact .inr k1
    ·exact hs k (popR_mem hk)
   ·rw [popR_count k1] at h0
    exact hl.1 (by omega) k1

theorem popL_all {q : Int} : ∀ {P : List Int}, (∀ k ∈ P, q ≤ bindK k) → popL q P = P ∧ popR q P = []
 | [], _ => ⟨rfl, rfl⟩
 | a :: P, h => by
  have ha := h a (by simp)
  obtain ⟨i1, i2⟩ := popL_all (P := P) (fun k hk => h k (by simp [hk]))
  simp only [popL, popR] at i1 i2 ⊢
  simp [ha, i1, i2]
theorem lowsOk_one {n : Nat} : ∀ (l : List Tok), lowsOk 1 n l := by
 intro l
 induction l generalizing n with
 | nil => trivial
 | cons t l ih =>
  simp only [lowsOk]
  split
  ·exact ih
  ·split
   ·exact ih
   ·exact ⟨fun _ h => by omega, ih⟩
theorem readD_state {M : Nat} {l : List Tok} {m : Int} (hm : 0 < m) (ha : accT M l) (hl : lowsOk m 0 l) : (∀ k ∈ (srun l ([], [])).2, m ≤ bindK k) ∧ readD l = (srun l ([], [])).1 ++ (srun l ([], [])).2.map sgn := by
 have h := frame (base := []) (m := m) hm (by simp) l false 0 false (true, 0) [] [] [] ha hl rfl (by simp) trivial
 obtain ⟨_, h2, h3, h4⟩ := h
 have h5 := geOk_all h4 h2
 refine ⟨h5, ?_⟩
 unfold readD
 rw [(popL_all (q := 1) (fun k hk => by have := h5 k hk; omega)).1]
theorem srun_app (a b : List Tok) (s : List Trm × List Int) : srun (a ++ b) s = srun b (srun a s) := List.foldl_append
theorem readD_sign {M : Nat} {l1 l2 : List Tok} {s : Tok} (h1 : accT M l1) (h2 : accT M l2) (hs : 0 < bindK s.kind) (hl1 : lowsOk (bindK s.kind) 0 l1) (hl2 : lowsOk (bindK s.kind + 1) 0 l2) : readD (l1 ++ s :: l2) = readD l1 ++ (readD l2 ++ [sgn s.kind]) := by
 obtain ⟨a1, a2⟩ := readD_state hs h1 hl1
 obtain ⟨b1, b2⟩ := readD_state (m := bindK s.kind + 1) (by omega) h2 hl2
 obtain ⟨n1, n6, n7⟩ := bind_ne hs
 have e1 : sstep (srun l1 ([], [])) s = (readD l1, [s.kind]) := by
  unfold sstep
  rw [if_neg n1, if_neg n6, if_neg n7, (popL_all a1).1, (popL_all a1).2, a2]
 have e2 := (frame (base := [s.kind]) (m := bindK s.kind + 1) (by omega) (by intro k hk; simp at hk; subst hk; omega) l2 false 0 false (true, 0) (readD l1) [] [] h2 hl2 rfl (by simp) trivial).1
 have e3 : srun (l1 ++ s :: l2) ([], []) = (readD l1 ++ (srun l2 ([], [])).1, (srun l2 ([], [])).2 ++ [s.kind]) := by
  rw [srun_app]
  show srun l2 (sstep (srun l1 ([], [])) s) = _
  rw [e1]
  simpa using e2
 unfold readD at b2 ⊢
 rw [e3]
 have : ∀ k ∈ (srun l2 ([], [])).2 ++ [s.kind], (1 : Int) ≤ bindK k := by
  intro k hk
  rcases List.mem_append.1 hk with hk | hk
  ·have := b1 k hk; omega
  ·simp at hk; subst hk; omega
 rw [(popL_all this).1, b2]
 simp [readD]
theorem readD_open {M : Nat} {m : List Tok} {o c : Tok} (ho : o.kind = 6) (hc : c.kind = 7) (h : accT M m) : readD (o :: (m ++ [c])) = readD m := by
 obtain ⟨a1, a2⟩ := readD_state (m := 1) (by decide) h (lowsOk_one m)
 have e1 : sstep ([], []) o = ([], [6]) := by
  unfold sstep; rw [if_neg (by omega), if_pos ho]
 have e2 := (frame (base := [6]) (m := 1) (by decide) (by intro k hk; simp at hk; subst hk; decide) m false 0 false (true, 0) [] [] [] h (lowsOk_one m) rfl (by simp) trivial).1
 have e3 : srun (o :: (m ++ [c])) ([], []) = sstep (srun m ([], [6])) c := by
  show srun (m ++ [c]) (sstep ([], []) o) = _
  rw [e1, srun_app]; rfl
 simp only [List.nil_append] at e2
 have e4 : sstep (srun m ([], [6])) c = (readD m, []) := by
  rw [e2]
  unfold sstep
  rw [if_neg (by omega), if_neg (by omega), if_pos hc]
  obtain ⟨p1, p2⟩ := pop_app (q := 1) (by decide) (srun m ([], [])).2 [6] (.inr (by intro k hk; simp at hk; subst hk; decide))
  simp only [p1, p2, (popL_all a1).1, (popL_all a1).2, a2]
  simp
 unfold readD at e4 ⊢
 rw [e3, e4]
 simp [popL]
theorem readD_one (t : Tok) (h : t.kind = 1) : readD [t] = [leaf t] := by
 simp [readD, srun, sstep, h, popL]
theorem ctl_as {M : Nat} {b : Bool} {n : Nat} {l : List Tok} {r : Bool × Nat} (h : ctl M b n true l = some r) : ctl M b n false l = some r := by
 cases l with
 | nil => exact h
 | cons t l =>
  obtain ⟨b', n', h1, h2⟩ := ctl_cons h
  have : cstep M b n false t = some (b', n') := by
   rcases cstep_cases h1 with ⟨rfl, k1, _, rfl, rfl⟩ | ⟨_, _, k, _⟩ | ⟨rfl, k1, k2, rfl, rfl⟩ | ⟨rfl, k1, rfl, rfl⟩
   ·unfold cstep; rw [if_pos rfl, if_pos ⟨k1, .inl rfl⟩]
   ·cases k
   ·unfold cstep; rw [if_neg (by simp), if_pos k1, if_pos k2]
   ·unfold cstep; rw [if_neg (by simp), if_neg (bind_ne k1).2.2, if_pos k1]
  simp only [ctl, this]
  exact h2

def bestF : Nat → Int → Int → Int → List Tok → Int × Int
 | _, _, a, low, [] => (a, low)
 | i, o, a, low, t :: l =>
  let o' := if t.kind = 6 then o + 1 else if t.kind = 7 then o - 1 else o
  if o' = 0 ∧ 0 < bindK t.kind ∧ bindK t.kind ≤ low then bestF (i + 1) o' i (bindK t.kind) l else bestF (i + 1) o' a low l
theorem best_spec {M : Nat} : ∀ (l : List Tok) (b : Bool) (n : Nat) (az : Bool) (r : Bool × Nat) (i : Nat) (a low : Int), ctl M b n az l = some r →
  (bestF i n a low l = (a, low) ∧ lowsOk (low + 1) n l) ∨
  ∃ (l1 l2 : List Tok) (s : Tok), l = l1 ++ s :: l2 ∧ bestF i n a low l = (((i + l1.length : Nat) : Int), bindK s.kind) ∧ 0 < bindK s.kind ∧ bindK s.kind ≤ low ∧ ctl M b n az l1 = some (true, 0) ∧ ctl M false 0 (decide (s.kind = 5)) l2 = some r ∧ lowsOk (bindK s.kind) n l1 ∧ lowsOk (bindK s.kind + 1) 0 l2
 | [], b, n, az, r, i, a, low, _ => .inl ⟨rfl, trivial⟩
 | t :: l, b, n, az, r, i, a, low, hc => by
  obtain ⟨b', n', h1, h2⟩ := ctl_cons hc
  have up : ∀ l1, ctl M b n az (t :: l1) = ctl M b' n' (decide (t.kind = 5)) l1 := fun l1 => by simp only [ctl, h1]
  have ho : (if t.kind = 6 then (n : Int) + 1 else if t.kind = 7 then (n : Int) - 1 else n) = (n' : Int) := by
   rcases cstep_cases h1 with ⟨_, k, _, _, rfl⟩ | ⟨_, k, _, _, _, rfl⟩ | ⟨_, k, hp, _, rfl⟩ | ⟨_, k, _, rfl⟩
   ·rw [if_neg (by omega), if_neg (by omega)]
   ·rw [if_pos k]; omega
   ·rw [if_neg (by omega), if_pos k]; omega
   ·rw [if_neg (bind_ne k).2.1, if_neg (bind_ne k).2.2]
  have lo : ∀ (m : Int) (l1 : List Tok), (n' = 0 → 0 < bindK t.kind → m ≤ bindK t.kind) → lowsOk m n' l1 → lowsOk m n (t :: l1) := by
   intro m l1 hm hl
   simp only [lowsOk]
   rcases cstep_cases h1 with ⟨_, k, _, _, rfl⟩ | ⟨_, k, _, _, _, rfl⟩ | ⟨_, k, hp, _, rfl⟩ | ⟨_, k, _, rfl⟩
   ·rw [if_neg (by omega), if_neg (by omega)]; exact ⟨hm, hl⟩
   ·rw [if_pos k]; exact hl
   ·rw [if_neg (by omega), if_pos k]; exact hl
   ·rw [if_neg (bind_ne k).2.1, if_neg (bind_ne k).2.2]; exact ⟨hm, hl⟩
  simp only [bestF, ho]
  by_cases ht : (n' : Int) = 0 ∧ 0 < bindK t.kind ∧ bindK t.kind ≤ low
  ·rw [if_pos ht]
   have hn0 : n' = 0 := by omega
   have hb' : b' = false ∧ b = true ∧ n = n' := by
    rcases cstep_cases h1 with ⟨_, k, _⟩ | ⟨_, k, _⟩ | ⟨_, k, _⟩ | ⟨k0, k, k1, k2⟩
    ·exact absurd k (bind_ne ht.2.1).1
    ·exact absurd k (bind_ne ht.2.1).2.1
    ·exact absurd k (bind_ne ht.2.1).2.2
    ·exact ⟨k1, k0, k2.symm⟩
   obtain ⟨rfl, rfl, hnn⟩ := hb'
   rcases best_spec l false n' _ r (i + 1) (i : Int) (bindK t.kind) h2 with ⟨e1, e2⟩ | ⟨l1, l2, s, e1, e2, e3, e4, e5, e6, e7, e8⟩
   ·refine .inr ⟨[], l, t, rfl, by rw [e1]; simp, ht.2.1, ht.2.2, ?_, ?_, trivial, ?_⟩
    ·simp only [ctl]; rw [hnn, hn0]
    ·rw [hn0] at h2; exact h2
    ·rw [hn0] at e2; exact e2
   ·refine .inr ⟨t :: l1, l2, s, by rw [e1]; rfl, by rw [e2]; simp only [List.length_cons]; congr 1; omega, e3, by omega, by rw [up]; exact e5, e6, lo _ _ (fun _ _ => e4) e7, e8⟩
  ·rw [if_neg ht]
   rcases best_spec l b' n' _ r (i + 1) a low h2 with ⟨e1, e2⟩ | ⟨l1, l2, s, e1, e2, e3, e4, e5, e6, e7, e8⟩
   ·exact .inl ⟨e1, lo _ _ (fun h0 hp => by omega) e2⟩
   ·exact .inr ⟨t :: l1, l2, s, by rw [e1]; rfl, by rw [e2]; simp only [List.length_cons]; congr 1; omega, e3, e4, by rw [up]; exact e5, e6, lo _ _ (fun h0 hp => by omega) e7, e8⟩
theorem ctl_close {M : Nat} : ∀ (l : List Tok) (b : Bool) (k : Nat) (az : Bool), k + 1 ≤ M → ctl M b (k + 1) az l = some (true, 0) → lowsOk 10 (k + 1) l → ∃ (m : List Tok) (c : Tok), l = m ++ [c] ∧ c.kind = 7 ∧ ctl M b k az m = some (true, 0)
 | [], b, k, az, _, h, _ => by simp [ctl] at h
 | t :: l, b, k, az, hk, h, hl => by
  obtain ⟨b', n', h1, h2⟩ := ctl_cons h
  simp only [lowsOk] at hl
  rcases cstep_cases h1 with ⟨rfl, k1, k2, rfl, rfl⟩ | ⟨rfl, k1, rfl, k3, rfl, rfl⟩ | ⟨rfl, k1, hp, rfl, rfl⟩ | ⟨rfl, k1, rfl, rfl⟩
  ·rw [if_neg (by omega), if_neg (by omega)] at hl
   obtain ⟨m, c, e1, e2, e3⟩ := ctl_close l true k _ hk h2 hl.2
   refine ⟨t :: m, c, by rw [e1]; rfl, e2, ?_⟩
   have : cstep M false k az t = some (true, k) := by unfold cstep; rw [if_pos rfl, if_pos ⟨k1, k2⟩]
   simp only [ctl, this]; exact e3
  ·rw [if_pos k1] at hl
   obtain ⟨m, c, e1, e2, e3⟩ := ctl_close l false (k + 1) _ (by omega) h2 hl
   refine ⟨t :: m, c, by rw [e1]; rfl, e2, ?_⟩
   have : cstep M false k false t = some (false, k + 1) := by unfold cstep; rw [if_pos rfl, if_neg (by omega), if_pos ⟨k1, rfl⟩, if_neg (by omega)]
   simp only [ctl, this]; exact e3
  ·rw [if_neg (by omega), if_pos k1] at hl
   simp only [Nat.add_sub_cancel] at h2 hl
   cases n' with
   | zero =>
    cases l with
    | nil => exact ⟨[], t, rfl, k1, rfl⟩
    | cons u l2 =>
     exfalso
     obtain ⟨b2, n2, q1, q2⟩ := ctl_cons h2
     rcases cstep_cases q1 with ⟨q, _⟩ | ⟨q, _⟩ | ⟨_, _, q, _⟩ | ⟨_, q, _⟩
     ·cases q
     ·cases q
     ·omega
     ·simp only [lowsOk] at hl
      rw [if_neg (bind_ne q).2.1, if_neg (bind_ne q).2.2] at hl
      have := hl.1 (by first | exact rfl | trivial) q
      have := bind_le u.kind
      omega
   | succ k' =>
    obtain ⟨m, c, e1, e2, e3⟩ := ctl_close l true k' _ (by omega) h2 hl
    refine ⟨t :: m, c, by rw [e1]; rfl, e2, ?_⟩
    have : cstep M true (k' + 1) az t = some (true, k') := by unfold cstep; rw [if_neg (by simp), if_pos k1, if_pos (by omega)]; rfl
    simp only [ctl, this]; exact e3
  ·rw [if_neg (bind_ne k1).2.1, if_neg (bind_ne k1).2.2] at hl
   obtain ⟨m, c, e1, e2, e3⟩ := ctl_close l false k _ hk h2 hl.2
   refine ⟨t :: m, c, by rw [e1]; rfl, e2, ?_⟩
   have : cstep M true k az t = some (false, k) := by unfold cstep; rw [if_neg (by simp), if_neg (bind_ne k1).2.2, if_pos k1]
   simp only [ctl, this]; exact e3
inductive Xp where
  | atm (t : Trm)
  | op (k : Int) (a b : Xp)
namespace Xp
def post : Xp → List Trm
 | .atm t => [t]
 | .op k a b => a.post ++ (b.post ++ [sgn k])
def lev : Xp → Int
 | .atm _ => 5
 | .op k _ _ => bindK k
def deep : Xp → Int
 | .atm _ => 1
 | .op _ a b => (if a.deep < b.deep then b.deep else a.deep) + 1
def okE (wr : Trm → Bool) : Xp → Prop
 | .atm t => t.op = 1 ∧ wr t = true
 | .op k a b => 0 < bindK k ∧ (k = 5 → ∃ t, b = .atm t ∧ t.of = 5) ∧ a.okE wr ∧ b.okE wr
end Xp
namespace Xp
end Xp
def Xp.role : Xp → Bool
 | .atm t => decide (t.of = 5)
 | .op _ _ _ => false
theorem role_iff (e : Xp) : e.role = true ↔ ∃ t, e = .atm t ∧ t.of = 5 := by
 cases e with
 | atm t => simp [Xp.role]
 | op k a b => simp [Xp.role]
def stepX (wr : Trm → Bool) (t : Trm) (st : List Xp) : Option (List Xp) :=
 if t.op = 1 then (if wr t = true then some (.atm t :: st) else none)
 else if 0 < bindK t.op ∧ t.of = 0 ∧ t.name = ⟨#[]⟩ then (match st with
  | b :: a :: r => if t.op = 5 ∧ b.role = false then none else some (.op t.op a b :: r)
  | _ => none)
 else none
def runX (wr : Trm → Bool) : List Trm → List Xp → Option (List Xp)
 | [], st => some st
 | t :: l, st => match stepX wr t st with
  | none => none
  | some st' => runX wr l st'
theorem runX_post {wr : Trm → Bool} : ∀ (e : Xp) (l : List Trm) (st : List Xp), e.okE wr → runX wr (e.post ++ l) st = runX wr l (e :: st)
 | .atm t, l, st, ⟨h1, h2⟩ => by
  simp only [Xp.post, List.cons_append, List.nil_append, runX, stepX]
  rw [if_pos h1, if_pos h2]
 | .op k a b, l, st, ⟨hk, h5, oa, ob⟩ => by
  simp only [Xp.post, List.append_assoc]
  rw [runX_post a _ _ oa, runX_post b _ _ ob]
  simp only [List.cons_append, List.nil_append, runX, stepX]
  rw [if_neg (show ¬ (sgn k).op = 1 from (bind_ne hk).1), if_pos (show 0 < bindK (sgn k).op ∧ (sgn k).of = 0 ∧ (sgn k).name = ⟨#[]⟩ from ⟨hk, rfl, rfl⟩)]
  have : ¬ ((sgn k).op = 5 ∧ b.role = false) := fun ⟨h, hr⟩ => by
   have := (role_iff b).2 (h5 h)
   rw [this] at hr; cases hr
  try simp only
  rw [if_neg this]
  try rfl
def stp (st : List Xp) : List Trm := st.reverse.flatMap Xp.post
theorem stp_cons (e : Xp) (st : List Xp) : stp (e :: st) = stp st ++ e.post := by simp [stp]
theorem sgn_eta {t : Trm} (h1 : t.of = 0) (h2 : t.name = ⟨#[]⟩) : sgn t.op = t := by
 cases t; simp only at h1 h2; subst h1; subst h2; rfl
theorem runX_ok {wr : Trm → Bool} : ∀ (l : List Trm) (st st' : List Xp), runX wr l st = some st' → (∀ e ∈ st, e.okE wr) → (∀ e ∈ st', e.okE wr) ∧ stp st' = stp st ++ l
 | [], st, st', h, ho => by
  simp only [runX, Option.some.injEq] at h
  subst h
  exact ⟨ho, by simp⟩
 | t :: l, st, st', h, ho => by
  simp only [runX] at h
  cases hs : stepX wr t st with
  | none => rw [hs] at h; cases h
  | some s1 =>
   rw [hs] at h
   simp only [stepX] at hs
   by_cases h1 : t.op = 1
   ·rw [if_pos h1] at hs
    by_cases h2 : wr t = true
    ·rw [if_pos h2] at hs
     simp only [Option.some.injEq] at hs
     subst hs
     obtain ⟨q1, q2⟩ := runX_ok l _ _ h (fun e he => by
      rcases List.mem_cons.1 he with rfl | he
      ·exact ⟨h1, h2⟩
      ·exact ho e he)
     exact ⟨q1, by rw [q2, stp_cons]; simp [Xp.post]⟩
    ·rw [if_neg h2] at hs; cases hs
   ·rw [if_neg h1] at hs
    by_cases h2 : 0 < bindK t.op ∧ t.of = 0 ∧ t.name = ⟨#[]⟩
    ·rw [if_pos h2] at hs
     cases st with
     | nil => cases hs
     | cons b st =>
      cases st with
      | nil => cases hs
      | cons a r =>
       simp only at hs
       by_cases h3 : t.op = 5 ∧ b.role = false
       ·rw [if_pos h3] at hs; cases hs
       ·rw [if_neg h3] at hs
        simp only [Option.some.injEq] at hs
        subst hs
        obtain ⟨q1, q2⟩ := runX_ok l _ _ h (fun e he => by
         rcases List.mem_cons.1 he with rfl | he
         ·refine ⟨h2.1, fun h5 => ?_, ho a (by simp), ho b (by simp)⟩
          refine (role_iff b).1 ?_
          cases hr : b.role with
          | true => rfl
          | false => exact absurd ⟨h5, hr⟩ h3
         ·exact ho e (by simp [he]))
        refine ⟨q1, ?_⟩
        rw [q2, stp_cons, stp_cons, stp_cons]
        simp only [Xp.post, sgn_eta h2.2.1 h2.2.2]
        simp
    ·rw [if_neg h2] at hs; cases hs
def treeX (wr : Trm → Bool) (x : List Trm) : Option Xp := match runX wr x [] with
 | some [e] => some e
 | _ => none
theorem treeX_iff {wr : Trm → Bool} {x : List Trm} {e : Xp} : treeX wr x = some e ↔ e.okE wr ∧ x = e.post := by
 constructor
 ·intro h
  unfold treeX at h
  split at h
  ·next e' hr =>
   simp only [Option.some.injEq] at h
   subst h
   obtain ⟨q1, q2⟩ := runX_ok x [] _ hr (by simp)
   exact ⟨q1 _ (by simp), by rw [stp_cons] at q2; simpa [stp] using q2.symm⟩
  ·cases h
 ·rintro ⟨h, rfl⟩
  have := runX_post e [] [] h
  rw [List.append_nil] at this
  unfold treeX
  rw [this]
  rfl
def lastX (wr : Trm → Bool) : Nat → List Trm → Option (Xp × List Trm)
 | 0, _ => none
 | _ + 1, [] => none
 | f + 1, t :: r =>
  if t.op = 1 then (if wr t = true then some (.atm t, r) else none)
  else if 0 < bindK t.op ∧ t.of = 0 ∧ t.name = ⟨#[]⟩ then (match lastX wr f r with
   | none => none
   | some (b, r1) => if t.op = 5 ∧ b.role = false then none else match lastX wr f r1 with
    | none => none
    | some (a, r2) => some (.op t.op a b, r2))
  else none
theorem lastX_ok {wr : Trm → Bool} : ∀ (f : Nat) (x r : List Trm) (e : Xp), lastX wr f x = some (e, r) → e.okE wr ∧ x = e.post.reverse ++ r
 | 0, x, r, e, h => by simp [lastX] at h
 | f + 1, [], r, e, h => by simp [lastX] at h
 | f + 1, t :: x, r, e, h => by
  simp only [lastX] at h
  by_cases h1 : t.op = 1
  ·rw [if_pos h1] at h
   by_cases h2 : wr t = true
   ·rw [if_pos h2] at h
    simp only [Option.some.injEq, Prod.mk.injEq] at h
    obtain ⟨rfl, rfl⟩ := h
    exact ⟨⟨h1, h2⟩, rfl⟩
   ·rw [if_neg h2] at h; cases h
  ·rw [if_neg h1] at h
   by_cases h2 : 0 < bindK t.op ∧ t.of = 0 ∧ t.name = ⟨#[]⟩
   ·rw [if_pos h2] at h
    cases hb : lastX wr f x with
    | none => rw [hb] at h; cases h
    | some y =>
     obtain ⟨b, r1⟩ := y
     rw [hb] at h
     simp only at h
     by_cases h3 : t.op = 5 ∧ b.role = false
     ·rw [if_pos h3] at h; cases h
     ·rw [if_neg h3] at h
      cases ha : lastX wr f r1 with
      | none => rw [ha] at h; cases h
      | some z =>
       obtain ⟨a, r2⟩ := z
       rw [ha] at h
       simp only [Option.some.injEq, Prod.mk.injEq] at h
       obtain ⟨rfl, rfl⟩ := h
       obtain ⟨q1, q2⟩ := lastX_ok f _ _ _ hb
       obtain ⟨q3, q4⟩ := lastX_ok f _ _ _ ha
       refine ⟨⟨h2.1, fun h5 => ?_, q3, q1⟩, ?_⟩
       ·refine (role_iff b).1 ?_
        cases hr : b.role with
        | true => rfl
        | false => exact absurd ⟨h5, hr⟩ h3
       ·rw [q2, q4]
        simp only [Xp.post, sgn_eta h2.2.1 h2.2.2]
        simp
   ·rw [if_neg h2] at h; cases h
theorem lastX_post {wr : Trm → Bool} : ∀ (e : Xp) (f : Nat) (r : List Trm), e.okE wr → e.post.length ≤ f → lastX wr f (e.post.reverse ++ r) = some (e, r)
 | .atm t, f, r, ⟨h1, h2⟩, hf => by
  obtain ⟨f, rfl⟩ : ∃ g, f = g + 1 := ⟨f - 1, by simp [Xp.post] at hf; omega⟩
  simp only [Xp.post, List.reverse_cons, List.reverse_nil, List.nil_append, List.cons_append, lastX]
  rw [if_pos h1, if_pos h2]
 | .op k a b, f, r, ⟨hk, h5, oa, ob⟩, hf => by
  simp only [Xp.post, List.length_append, List.length_cons, List.length_nil] at hf
  obtain ⟨f, rfl⟩ : ∃ g, f = g + 1 := ⟨f - 1, by omega⟩
  have e1 : (Xp.op k a b).post.reverse ++ r = sgn k :: (b.post.reverse ++ (a.post.reverse ++ r)) := by simp [Xp.post]
  rw [e1]
  simp only [lastX]
  rw [if_neg (show ¬ (sgn k).op = 1 from (bind_ne hk).1), if_pos (show 0 < bindK (sgn k).op ∧ (sgn k).of = 0 ∧ (sgn k).name = ⟨#[]⟩ from ⟨hk, rfl, rfl⟩), lastX_post b f _ ob (by omega)]
  have : ¬ ((sgn k).op = 5 ∧ b.role = false) := fun ⟨h, hr⟩ => by
   have := (role_iff b).2 (h5 h)
   rw [this] at hr; cases hr
  simp only
  rw [if_neg this, lastX_post a f _ oa (by omega)]
  rfl
theorem lastX_tree {wr : Trm → Bool} (x : List Trm) : treeX wr x = match lastX wr x.length x.reverse with
  | some (e, []) => some e
  | _ => none := by
 cases ht : treeX wr x with
 | some e =>
  obtain ⟨h1, rfl⟩ := treeX_iff.1 ht
  have := lastX_post e e.post.length [] h1 (Nat.le_refl _)
  rw [List.append_nil] at this
  rw [this]
 | none =>
  cases hl : lastX wr x.length x.reverse with
  | none => rfl
  | some y =>
   obtain ⟨e, r⟩ := y
   cases r with
   | cons _ _ => rfl
   | nil =>
    exfalso
    obtain ⟨h1, h2⟩ := lastX_ok _ _ _ _ hl
    rw [List.append_nil] at h2
    have := treeX_iff.2 ⟨h1, List.reverse_inj.1 h2⟩
    rw [ht] at this; cases this
abbrev Prt := Int × Int × Int
inductive Reps (x : List Trm) (l : List Prt) : Nat → Xp → Prop where
  | atm (i : Nat) (t : Trm) (p : Prt) : x[i]? = some t → l[i]? = some p → p.2.2 = 1 → Reps x l i (.atm t)
  | op (i j m : Nat) (k : Int) (a b : Xp) : x[i]? = some (sgn k) → l[i]? = some ((j : Int), (m : Int), (Xp.op k a b).deep) → j < i → m < i → Reps x l j a → Reps x l m b → Reps x l i (.op k a b)
theorem Reps.deep {x : List Trm} {l : List Prt} {i : Nat} {e : Xp} (h : Reps x l i e) : ∃ p, l[i]? = some p ∧ p.2.2 = e.deep := by
 cases h with
 | atm t p h1 h2 h3 => exact ⟨_, by assumption, by assumption⟩
 | op j m k a b h1 h2 h3 h4 h5 h6 => exact ⟨_, by assumption, rfl⟩
theorem Reps.set {x : List Trm} {l : List Prt} {q : Nat} {p : Prt} : ∀ {i : Nat} {e : Xp}, Reps x l i e → i < q → Reps x (l.set q p) i e
 | _, _, .atm i t p' h1 h2 h3, hi => .atm i t p' h1 (by rw [List.getElem?_set_ne (by omega)]; exact h2) h3
 | _, _, .op i j m k a b h1 h2 hj hm ha hb, hi => .op i j m k a b h1 (by rw [List.getElem?_set_ne (by omega)]; exact h2) hj hm (Reps.set ha (by omega)) (Reps.set hb (by omega))
theorem runX_snoc {wr : Trm → Bool} {t : Trm} : ∀ {l : List Trm} {st : List Xp}, runX wr (l ++ [t]) st = match runX wr l st with
  | none => none
  | some s => stepX wr t s
 | [], st => by
  simp only [List.nil_append, runX]
  cases stepX wr t st <;> rfl
 | u :: l, st => by
  simp only [List.cons_append, runX]
  cases stepX wr u st with
  | none => rfl
  | some s => exact runX_snoc
theorem deep_pos : ∀ e : Xp, 1 ≤ e.deep
 | .atm _ => Int.le_refl _
 | .op _ a b => by
  have := deep_pos a
  have := deep_pos b
  simp only [Xp.deep]
  split <;> omega
theorem deep_le : ∀ e : Xp, e.deep ≤ e.post.length
 | .atm _ => by simp [Xp.deep, Xp.post]
 | .op _ a b => by
  have := deep_le a
  have := deep_le b
  simp only [Xp.deep, Xp.post, List.length_append, List.length_cons, List.length_nil]
  split <;> omega
def isPar (t : Tok) : Bool := decide (t.kind = 6) || decide (t.kind = 7)
def others (l : List Tok) : List (Int × ByteArray × Int) := (l.filter fun t => !isPar t).map fun t => (t.kind, t.name, t.of)
def ctlE (M : Nat) : Nat → Bool → Nat → Bool → List Tok → (Nat × Int) ⊕ (Bool × Nat)
 | _, b, n, _, [] => .inr (b, n)
 | i, b, n, az, t :: l => match cstep M b n az t with
  | none => .inl (i, if b = false ∧ t.kind = 6 ∧ az = false then 3 else 2)
  | some (b', n') => ctlE M (i + 1) b' n' (decide (t.kind = 5)) l
theorem ctlE_ok {M : Nat} : ∀ (l : List Tok) (i : Nat) (b : Bool) (n : Nat) (az : Bool) (r : Bool × Nat), ctlE M i b n az l = .inr r ↔ ctl M b n az l = some r
 | [], i, b, n, az, r => by simp [ctlE, ctl]
 | t :: l, i, b, n, az, r => by
  simp only [ctlE, ctl]
  cases cstep M b n az t with
  | none => simp
  | some x => exact ctlE_ok l _ _ _ _ _
theorem ctlE_lt {M : Nat} : ∀ (l : List Tok) (i : Nat) (b : Bool) (n : Nat) (az : Bool) (j : Nat) (e : Int), ctlE M i b n az l = .inl (j, e) → i ≤ j ∧ j < i + l.length ∧ (e = 2 ∨ e = 3)
 | [], i, b, n, az, j, e, h => by simp [ctlE] at h
 | t :: l, i, b, n, az, j, e, h => by
  simp only [ctlE] at h
  rw [List.length_cons]
  cases hc : cstep M b n az t with
  | none =>
   rw [hc] at h
   simp only [Sum.inl.injEq, Prod.mk.injEq] at h
   obtain ⟨rfl, rfl⟩ := h
   refine ⟨Nat.le_refl _, by omega, ?_⟩
   split <;> simp
  | some x =>
   obtain ⟨b', n'⟩ := x
   rw [hc] at h
   have := ctlE_lt l _ _ _ _ _ _ h
   omega
def readR (wd : Tok → Bool) (l : List Tok) : List Trm × Nat × Int :=
 match l.findIdx? (fun t => !wd t) with
 | some i => ([], i, 2)
 | none => match ctlE 100 0 false 0 false l with
  | .inl (i, e) => ([], i, e)
  | .inr (b, n) => if b = false ∨ 0 < n then ([], l.length, 2) else if 200 < (readD l).length then ([], l.length, 3) else (readD l, 0, 0)
theorem readR_ok {wd : Tok → Bool} {l : List Tok} (h : (readR wd l).2.2 = 0) : (∀ t ∈ l, wd t = true) ∧ accT 100 l ∧ (readD l).length ≤ 200 ∧ readR wd l = (readD l, 0, 0) := by
 unfold readR at h ⊢
 cases hf : l.findIdx? (fun t => !wd t) with
 | some i => rw [hf] at h; cases h
 | none =>
  rw [hf] at h
  simp only at h ⊢
  have hw : ∀ t ∈ l, wd t = true := fun t ht => by
   have := List.findIdx?_eq_none_iff.1 hf t ht
   simpa using this
  cases hc : ctlE 100 0 false 0 false l with
  | inl x =>
   obtain ⟨i, e⟩ := x
   rw [hc] at h
   have := (ctlE_lt _ _ _ _ _ _ _ hc).2.2
   simp only at h
   omega
  | inr x =>
   obtain ⟨b, n⟩ := x
   rw [hc] at h
   simp only at h ⊢
   by_cases h1 : b = false ∨ 0 < n
   ·rw [if_pos h1] at h; cases h
   ·rw [if_neg h1] at h ⊢
    by_cases h2 : 200 < (readD l).length
    ·rw [if_pos h2] at h; cases h
    ·rw [if_neg h2]
     simp only [not_or, Bool.not_eq_false, Nat.not_lt, Nat.le_zero] at h1
     obtain ⟨rfl, rfl⟩ := h1
     exact ⟨hw, (ctlE_ok _ _ _ _ _ _).1 hc, by omega, rfl⟩
theorem readR_acc {wd : Tok → Bool} {l : List Tok} (hw : ∀ t ∈ l, wd t = true) : readR wd l = match ctlE 100 0 false 0 false l with
  | .inl (i, e) => ([], i, e)
  | .inr (b, n) => if b = false ∨ 0 < n then ([], l.length, 2) else if 200 < (readD l).length then ([], l.length, 3) else (readD l, 0, 0) := by
 unfold readR
 rw [List.findIdx?_eq_none_iff.2 (fun t ht => by simp [hw t ht])]
end Go.Proofs.YtedaffmkpljlnaaGreat
/- Expressions: the reader, token by token: it takes just what may stand there (plain). -/
namespace Go.Proofs.YtedaffmkpljlnaaGreat
open Go.RowKit Go.Lib

structure Rdr where
  out : List Trm
  w : List Int
  opn : Nat
  beh : Bool
def takeR (r : Rdr) (t : Tok) : Int ⊕ Rdr :=
 if r.beh = false then
  if t.kind = 1 then (if r.w.headD 0 = 5 ∧ t.of ≠ 5 then .inl 2 else .inr ⟨r.out ++ [leaf t], r.w, r.opn, true⟩)
  else if t.kind = 6 ∧ r.w.headD 0 ≠ 5 then (if r.opn = 100 then .inl 3 else .inr ⟨r.out, 6 :: r.w, r.opn + 1, false⟩)
  else .inl 2
 else if 0 < bindK t.kind then .inr ⟨r.out ++ (popL (bindK t.kind) r.w).map sgn, t.kind :: popR (bindK t.kind) r.w, r.opn, false⟩
 else if t.kind = 7 then (if r.opn = 0 then .inl 2 else .inr ⟨r.out ++ (popL 1 r.w).map sgn, (popR 1 r.w).tail, r.opn - 1, true⟩)
 else .inl 2
def rinv (az : Bool) (r : Rdr) : Prop := r.beh = false → (az = true ↔ r.w.headD 0 = 5)
theorem takeR_eq {az : Bool} {r : Rdr} {t : Tok} (h : rinv az r) : takeR r t = match cstep 100 r.beh r.opn az t with
  | none => .inl (if r.beh = false ∧ t.kind = 6 ∧ az = false then 3 else 2)
  | some (b', n') => .inr ⟨(sstep (r.out, r.w) t).1, (sstep (r.out, r.w) t).2, n', b'⟩ := by
 obtain ⟨out, w, n, b⟩ := r
 unfold takeR cstep sstep
 simp only at h ⊢
 cases b with
 | false =>
  have h := h rfl
  simp only at h
  by_cases k1 : t.kind = 1
  ·have k6 : ¬ t.kind = 6 := by omega
   by_cases ho : t.of = 5 <;> by_cases hw : w.headD 0 = 5 <;> cases az <;> simp_all
  ·by_cases k6 : t.kind = 6
   ·by_cases hw : w.headD 0 = 5 <;> by_cases hn : n = 100 <;> cases az <;> simp_all
   ·by_cases hw : w.headD 0 = 5 <;> cases az <;> simp_all
 | true =>
  by_cases kb : 0 < bindK t.kind
  ·obtain ⟨n1, n6, n7⟩ := bind_ne kb
   simp [kb, n1, n6, n7]
  ·by_cases k7 : t.kind = 7
   ·by_cases hn : n = 0
    ·simp [k7, hn, bind7]
    ·simp [k7, hn, bind7, Nat.pos_of_ne_zero hn]
   ·simp [kb, k7]
theorem rinv_step {az : Bool} {r : Rdr} {t : Tok} {b' : Bool} {n' : Nat} (h : cstep 100 r.beh r.opn az t = some (b', n')) : rinv (decide (t.kind = 5)) ⟨(sstep (r.out, r.w) t).1, (sstep (r.out, r.w) t).2, n', b'⟩ := by
 intro hb
 simp only at hb
 rcases cstep_cases h with ⟨_, k, _, rfl, _⟩ | ⟨_, k, _, _, rfl, _⟩ | ⟨_, k, _, rfl, _⟩ | ⟨_, k, rfl, _⟩
 ·cases hb
 ·simp [sstep, k]
 ·cases hb
 ·obtain ⟨n1, n6, n7⟩ := bind_ne k
  simp [sstep, n1, n6, n7]
def runR : Nat → Rdr → List Tok → (Nat × Int) ⊕ Rdr
 | _, r, [] => .inr r
 | i, r, t :: l => match takeR r t with
  | .inl e => .inl (i, e)
  | .inr r' => runR (i + 1) r' l
theorem runR_eq : ∀ (l : List Tok) (i : Nat) (az : Bool) (r : Rdr), rinv az r → runR i r l = match ctlE 100 i r.beh r.opn az l with
  | .inl x => .inl x
  | .inr (b, n) => .inr ⟨(srun l (r.out, r.w)).1, (srun l (r.out, r.w)).2, n, b⟩
 | [], i, az, r, h => rfl
 | t :: l, i, az, r, h => by
  simp only [runR, ctlE, takeR_eq h]
  cases hc : cstep 100 r.beh r.opn az t with
  | none => rfl
  | some x =>
   obtain ⟨b', n'⟩ := x
   simp only
   rw [runR_eq l (i + 1) _ _ (rinv_step hc)]
   rfl
def rcnt (r : Rdr) : Prop := r.w.count 6 = r.opn ∧ ∀ k ∈ r.w, k = 6 ∨ 0 < bindK k
theorem rcnt_take {r r' : Rdr} {t : Tok} (h : rcnt r) (ht : takeR r t = .inr r') : rcnt r' := by
 obtain ⟨out, w, n, b⟩ := r
 obtain ⟨h1, h2⟩ := h
 simp only at h1 h2
 unfold takeR at ht
 simp only at ht
 split at ht
 ·split at ht
  ·split at ht
   ·cases ht
   ·simp only [Sum.inr.injEq] at ht
    subst ht
    exact ⟨h1, h2⟩
  ·split at ht
   ·split at ht
    ·cases ht
    ·simp only [Sum.inr.injEq] at ht
     subst ht
     refine ⟨by simp [h1], fun k hk => ?_⟩
     rcases List.mem_cons.1 hk with rfl | hk
     ·exact .inl rfl
     ·exact h2 k hk
   ·cases ht
 ·split at ht
  ·next kb =>
   simp only [Sum.inr.injEq] at ht
   subst ht
   refine ⟨?_, fun k hk => ?_⟩
   ·show List.count 6 (t.kind :: popR (bindK t.kind) w) = n
    rw [List.count_cons, popR_count kb, if_neg (by simpa using (bind_ne kb).2.1)]; omega
   ·rcases List.mem_cons.1 hk with rfl | hk
    ·exact .inr kb
    ·exact h2 k (popR_mem hk)
  ·split at ht
   ·split at ht
    ·cases ht
    ·next hn =>
     simp only [Sum.inr.injEq] at ht
     subst ht
     obtain ⟨R, e1, e2⟩ := popR_close (P := w) (by omega) h2
     refine ⟨?_, fun k hk => ?_⟩
     ·show List.count 6 (popR 1 w).tail = n - 1
      rw [e1, List.tail_cons]; omega
     ·have hk : k ∈ (popR 1 w).tail := hk
      exact h2 k (popR_mem (q := 1) (List.mem_of_mem_tail hk))
   ·cases ht
end Go.Proofs.YtedaffmkpljlnaaGreat
namespace Go.Proofs.YtedaffmkpljlnaaGreat
open Go.RowKit
def J_ref05_May : AFn :=
 ⟨11,[.t 2],Zq [Zo 2 (.mv (.c (.bool false)))] (.keep [0] (Zq [Zm 6 0,Zo 7 (.call (.f 46) [.t 6]),Zm 5 7,Zo 8 (.ext 0 (.t 5)),Zo 9 (.ext 1 (.t 5)),Zo 3 (.new [(.int .i64 0),(.str ⟨#[]⟩),(.int .i64 0),(.int .i64 0)] []),⟨none,none,.stores 4 (.t 3) (.t 8),none⟩,Zm 4 9] (.keep [4] (Zq [Zm 10 4,Zm 2 10]
 .ret))))⟩
theorem J_ref05_May_ok : chkFn Tryz.prog 23 J_ref05_May = true := by kernel_rfl
def J_expr_May : AFn :=
 ⟨11,[.t 2],Zq [Zo 2 (.mv (.c (.bool false)))] (.keep [0] (Zq [Zm 6 0,Zo 7 (.call (.f 51) [.t 6]),Zm 5 7,Zo 8 (.ext 0 (.t 5)),Zo 9 (.ext 1 (.t 5)),Zm 3 8,Zm 4 9] (.keep [4] (Zq [Zm 10 4,Zm 2 10]
 .ret))))⟩
theorem J_expr_May_ok : chkFn Tryz.prog 28 J_expr_May = true := by kernel_rfl
def J_expr_Parse : AFn :=
 ⟨45,[.t 2,.t 3,.t 4],Zq [Zo 2 (.mv (.c (.lst .clip 0 []))),Zo 3 (.mv (Zi 0)),Zo 4 (.mv (Zi 0))] (.keep [0] (Zq [Zm 11 0,Zo 12 (.call (.f 61) [.t 11]),Zm 10 12,Zo 13 (.ext 0 (.t 10)),Zo 14 (.ext 1 (.t 10)),Zo 15 (.ext 2 (.t 10)),Zm 5 13,Zm 6 14,Zm 7 15] (.keep [0,5,6,7] (.seq (Zq [Zm 16 7,Zo 17 (.bin .neq (.t 16) (Zi 0))] (.keep [0,5,6,7,17] (.cond (.t 17) (Zq [Zm 18 6,
 Zm 19 7,Zo 2 (.mv (.c (.lst .clip 0 []))),Zm 3 18,Zm 4 19]
 .ret)
 .skip))) (.keep [0,5] (Zq [Zm 21 5,Zo 22 (.call (.f 62) [.t 21]),Zm 20 22,Zo 23 (.ext 0 (.t 20)),Zo 24 (.ext 1 (.t 20)),Zo 25 (.ext 2 (.t 20)),Zm 8 23,Zm 9 24,Zm 7 25] (.keep [0,5,7,8,9] (.seq (Zq [Zm 26 7,Zo 27 (.bin .eql (.t 26) (Zi 0))] (.keep [0,5,7,8,9,27] (.cond (.t 27) (Zq [Zm 28 8,Zm 2 28,Zo 3 (.mv (Zi 0)),Zo 4 (.mv (Zi 0))]
 .ret)
 .skip))) (.keep [0,5,7,9] (.seq (Zq [Zm 29 9,Zm 30 5,Zo 31 (.lenl (.t 30)),Zo 32 (.bin .lss (.t 29) (.t 31))] (.keep [0,5,7,9,32] (.cond (.t 32) (.seq (.draw [2,3,4] [Zm 33 5,Zm 34 9,Zo 35 (.idxa 4 (.t 33) (.t 34)),Zo 36 (.fld 3 (.t 35)),Zo 37 (.load none (.t 36)),Zm 38 7,Zo 2 (.mv (.c (.lst .clip 0 []))),Zm 3 37,Zm 4 38])
 .ret)
 .skip))) (.keep [0,7] (.seq (Zq [Zm 39 7,Zo 40 (.bin .eql (.t 39) (Zi 3))] (.keep [0,7,40] (.cond (.t 40) (Zq [Zm 41 7,Zo 2 (.mv (.c (.lst .clip 0 []))),Zo 3 (.mv (Zi 0)),Zm 4 41]
 .ret)
 .skip))) (.keep [0,7] (Zq [Zm 42 0,Zo 43 (.lens (.t 42)),Zm 44 7,Zo 2 (.mv (.c (.lst .clip 0 []))),Zm 3 43,Zm 4 44]
 .ret))))))))))))))⟩
theorem J_expr_Parse_ok : chkFn Tryz.prog 33 J_expr_Parse = true := by kernel_rfl
def J_ref05_Parse : AFn :=
 ⟨47,[.t 2,.t 3,.t 4],Zq [Zo 2 (.mv (.c (.lst .clip 0 []))),Zo 3 (.mv (Zi 0)),Zo 4 (.mv (Zi 0))] (.keep [0] (Zq [Zm 12 0,Zo 13 (.call (.f 63) [.t 12]),Zm 11 13,Zo 14 (.ext 0 (.t 11)),Zo 15 (.ext 1 (.t 11)),Zo 16 (.ext 2 (.t 11)),Zm 5 14,Zm 6 15,Zm 7 16] (.keep [0,5,6,7] (.seq (Zq [Zm 17 7,Zo 18 (.bin .neq (.t 17) (Zi 0))] (.keep [0,5,6,7,18] (.cond (.t 18) (Zq [Zm 19 6,
 Zm 20 7,Zo 2 (.mv (.c (.lst .clip 0 []))),Zm 3 19,Zm 4 20]
 .ret)
 .skip))) (.keep [0,5] (Zq [Zm 22 5,Zo 23 (.call (.f 64) [.t 22]),Zm 21 23,Zo 24 (.ext 0 (.t 21)),Zo 25 (.ext 1 (.t 21)),Zo 26 (.ext 2 (.t 21)),Zm 8 24,Zm 9 25,Zm 10 26] (.keep [0,5,8,9,10] (.seq (Zq [Zm 27 10,Zo 28 (.bin .eql (.t 27) (Zi 0))] (.keep [0,5,8,9,10,28] (.cond (.t 28) (Zq [Zm 29 8,Zm 30 10,Zm 2 29,Zo 3 (.mv (Zi 0)),Zm 4 30]
 .ret)
 .skip))) (.keep [0,5,9,10] (.seq (Zq [Zm 31 9,Zm 32 5,Zo 33 (.lenl (.t 32)),Zo 34 (.bin .lss (.t 31) (.t 33))] (.keep [0,5,9,10,34] (.cond (.t 34) (.seq (.draw [2,3,4] [Zm 35 5,Zm 36 9,Zo 37 (.idxa 4 (.t 35) (.t 36)),Zo 38 (.fld 3 (.t 37)),Zo 39 (.load none (.t 38)),Zm 40 10,Zo 2 (.mv (.c (.lst .clip 0 []))),Zm 3 39,Zm 4 40])
 .ret)
 .skip))) (.keep [0,10] (.seq (Zq [Zm 41 10,Zo 42 (.bin .eql (.t 41) (Zi 3))] (.keep [0,10,42] (.cond (.t 42) (Zq [Zm 43 10,Zo 2 (.mv (.c (.lst .clip 0 []))),Zo 3 (.mv (Zi 0)),Zm 4 43]
 .ret)
 .skip))) (.keep [0,10] (Zq [Zm 44 0,Zo 45 (.lens (.t 44)),Zm 46 10,Zo 2 (.mv (.c (.lst .clip 0 []))),Zm 3 45,Zm 4 46]
 .ret))))))))))))))⟩
theorem J_ref05_Parse_ok : chkFn Tryz.prog 34 J_ref05_Parse = true := by kernel_rfl
def J_ref05_whole : AFn :=
 ⟨22,[.c 2 (some 4),.t 3],Zq [Zo 2 (.new [(.int .i64 0),(.str ⟨#[]⟩),(.int .i64 0),(.int .i64 0)] []),Zo 3 (.mv (.c (.bool false)))] (.keep [0,2] (.seq (Zq [Zm 6 0,Zo 7 (.lenl (.t 6)),Zo 8 (.bin .gtr (.t 7) (Zi 200))] (.keep [0,2,8] (.cond (.t 8) (Zq [Zo 9 (.build [(.int .i64 0),(.str ⟨#[]⟩),(.int .i64 0),(.int .i64 0)] []),⟨none,none,.store 4 (.t 2) (.t 9),none⟩,Zo 3 (.mv (.c (.bool false)))]
 .ret)
 .skip))) (.keep [0,2] (Zq [Zm 11 0,Zo 12 (.call (.f 82) [.t 11]),Zm 10 12,Zo 13 (.ext 0 (.t 10)),Zo 14 (.ext 1 (.t 10)),Zo 4 (.new [(.int .i64 0),(.str ⟨#[]⟩),(.int .i64 0),(.int .i64 0)] []),⟨none,none,.stores 4 (.t 4) (.t 13),none⟩,Zm 5 14] (.keep [2,4,5] (.seq (.draw [2,3] [Zo 15 (.lds (some 4) (.t 4)),
 Zm 16 5,Zm 17 16,Zt 17 18 (.fld 0 (.t 4)),Zt 17 19 (.lds none (.t 18)),Zt 17 20 (.bin .eql (.t 19) (Zi 0)),Zo 21 (.pick (.t 17) (.t 20) (.c (.bool false))),⟨none,none,.store 4 (.t 2) (.t 15),none⟩,Zm 3 21])
 .ret))))))⟩
theorem J_ref05_whole_ok : chkFn Tryz.prog 46 J_ref05_whole = true := by kernel_rfl
def J_expr_parts_j1 : ACode :=
 .keep [4,5] (.seq (.nms 5 (.ops [Zm 118 4,Zm 119 5,Zo 120 (.k (.len (.t 119))),Zo 121 (.bin .eql (.t 120) (Zi 1)),Zm 2 118,Zm 3 121]))
 .ret)
def J_expr_parts_j2 : ACode :=
 .keep [0,4,5,22,23,24] (.ops [Zo 117 (.bin .add (.t 24) (Zi 1)),Zm 24 117])
def J_expr_parts_j3 : ACode :=
 Zq [Zo 25 (.bin .lss (.t 24) (.t 23))] (.keep [0,4,5,22,23,24,25] (.seq (.cond (.t 25)
 .skip
 (.exit 0)) (.keep [0,4,5,22,23,24] (.seq (.block 1 (Zq [Zm 26 24,Zo 27 (.idxa 3 (.t 22) (.t 24)),Zo 28 (.load (some 3) (.t 27)),Zo 7 (.new [(.int .i64 0),(.int .i64 0),(.str ⟨#[]⟩)] []),Zm 6 26,⟨none,none,.stores 3 (.t 7) (.t 28),none⟩] (.keep [0,4,5,6,7,22,23,24] (.seq (Zq [Zo 29 (.fld 0 (.t 7)),Zo 30 (.load none (.t 29)),
 Zo 31 (.bin .eql (.t 30) (Zi 1))] (.keep [0,4,5,6,7,22,23,24,31] (.cond (.t 31) (.seq (Zq [Zo 32 (.load (some 3) (.t 7)),Zo 33 (.call (.f 85) [.t 32]),Zo 34 (.bin .eql (.t 33) (.c (.str ⟨#[]⟩)))] (.keep [0,4,5,6,22,23,24,34] (.cond (.t 34) (Zq [Zo 2 (.mv (.c (.lst .clip 0 []))),Zo 3 (.mv (.c (.bool false)))]
 .ret)
 .skip))) (.keep [0,4,5,6,22,23,24] (Zq [Zm 35 4,Zm 36 6,Zo 37 (.idxa 3 (.t 35) (.t 36)),Zo 38 (.fld 2 (.t 37)),⟨none,none,.store 1 (.t 38) (Zi 1),none⟩] (.keep [0,4,5,6,22,23,24] (Zq [Zo 39 (.k (.mv 5)),Zm 40 6,Zo 41 (.bsl 3 1 1 [(.int .i64 0)] [(0,1,(.t 40))]),Zo 42 (.k (.ap 3 8 39 (.t 41))),Zo 5 (.k (.mv 42))] (.exit 1))))))
 .skip))) (.keep [0,4,5,6,7,22,23,24] (.seq (.nms 5 (.ops [Zm 43 5,Zo 44 (.k (.len (.t 43))),Zm 8 44])) (.keep [0,4,5,6,7,8,22,23,24] (.seq (Zq [Zo 45 (.fld 0 (.t 7)),Zo 46 (.load none (.t 45)),Zo 47 (.call (.f 86) [.t 46]),Zo 48 (.bin .eql (.t 47) (Zi 0)),Zm 49 48,Zf 49 50 (.fld 1 (.t 7)),Zf 49 51 (.load none (.t 50)),
 Zf 49 52 (.bin .neq (.t 51) (Zi 0)),Zo 53 (.pick (.t 49) (.c (.bool true)) (.t 52)),Zm 54 53,Zf 54 55 (.fld 2 (.t 7)),Zf 54 56 (.load none (.t 55)),Zf 54 57 (.bin .neq (.t 56) (.c (.str ⟨#[]⟩))),Zo 58 (.pick (.t 54) (.c (.bool true)) (.t 57)),Zm 59 58,Zf 59 60 (.mv (.t 8)),Zf 59 61 (.bin .lss (.t 60) (Zi 2)),
 Zo 62 (.pick (.t 59) (.c (.bool true)) (.t 61))] (.keep [0,4,5,6,7,8,22,23,24,62] (.cond (.t 62) (Zq [Zo 2 (.mv (.c (.lst .clip 0 []))),Zo 3 (.mv (.c (.bool false)))]
 .ret)
 .skip))) (.keep [0,4,5,6,7,8,22,23,24] (.seq (.nms 5 (.draw [0,4,5,6,7,8,9,10,22,23,24] [Zm 63 5,Zm 64 8,Zo 65 (.bin .sub (.t 64) (Zi 2)),Zo 66 (.k (.ix (.t 63) (.t 65))),Zo 67 (.k (.pk 5 (.t 66))),Zm 68 5,Zm 69 8,Zo 70 (.bin .sub (.t 69) (Zi 1)),Zo 71 (.k (.ix (.t 68) (.t 70))),Zo 72 (.k (.pk 5 (.t 71))),
 Zm 9 67,Zm 10 72])) (.keep [0,4,5,6,7,8,9,10,22,23,24] (.seq (Zq [Zo 73 (.fld 0 (.t 7)),Zo 74 (.load none (.t 73)),Zo 75 (.bin .eql (.t 74) (Zi 5)),Zm 76 75,Zt 76 77 (.mv (.t 0)),Zt 76 78 (.mv (.t 10)),Zt 76 79 (.idxa 3 (.t 77) (.t 78)),Zt 76 80 (.fld 0 (.t 79)),Zt 76 81 (.load none (.t 80)),Zt 76 82 (.bin .neq (.t 81) (Zi 1)),
 Zt 76 83 (.mv (.t 82)),Zf 83 84 (.mv (.t 0)),Zf 83 85 (.mv (.t 10)),Zf 83 86 (.idxa 3 (.t 84) (.t 85)),Zf 83 87 (.fld 1 (.t 86)),Zf 83 88 (.load none (.t 87)),Zf 83 89 (.bin .neq (.t 88) (Zi 5)),Zt 76 90 (.pick (.t 83) (.c (.bool true)) (.t 89)),Zo 91 (.pick (.t 76) (.t 90) (.c (.bool false)))] (.keep [0,4,5,6,8,9,10,22,23,24,91] (.cond (.t 91) (Zq [Zo 2 (.mv (.c (.lst .clip 0 []))),
 Zo 3 (.mv (.c (.bool false)))]
 .ret)
 .skip))) (.keep [0,4,5,6,8,9,10,22,23,24] (.seq (.draw [0,4,5,6,8,22,23,24] [Zm 92 4,Zm 93 6,Zm 94 9,Zm 95 10,Zm 96 4,Zm 97 9,Zo 98 (.idxa 3 (.t 96) (.t 97)),Zo 99 (.fld 2 (.t 98)),Zo 100 (.load none (.t 99)),Zm 101 4,Zm 102 10,Zo 103 (.idxa 3 (.t 101) (.t 102)),Zo 104 (.fld 2 (.t 103)),Zo 105 (.load none (.t 104)),
 Zo 106 (.mx (.t 100) (.t 105)),Zo 107 (.bin .add (Zi 1) (.t 106)),Zo 108 (.build [(.int .i64 0),(.int .i64 0),(.int .i64 0)] [(0,1,(.t 94)),(1,1,(.t 95)),(2,1,(.t 107))]),Zo 109 (.idxa 3 (.t 92) (.t 93)),⟨none,none,.store 3 (.t 109) (.t 108),none⟩]) (.keep [0,4,5,6,8,22,23,24] (.ops [Zo 110 (.k (.mv 5)),
 Zm 111 8,Zo 112 (.bin .sub (.t 111) (Zi 2)),Zo 113 (.k (.cut 110 (.t 112))),Zm 114 6,Zo 115 (.bsl 3 1 1 [(.int .i64 0)] [(0,1,(.t 114))]),Zo 116 (.k (.ap 3 8 113 (.t 115))),Zo 5 (.k (.mv 116))])))))))))))))))) (J_expr_parts_j2)))))
def J_expr_parts : AFn :=
 ⟨122,[.t 2,.t 3],Zq [Zo 2 (.mv (.c (.lst .clip 0 []))),Zo 3 (.mv (.c (.bool false)))] (.keep [0] (.seq (Zq [Zm 11 0,Zo 12 (.lenl (.t 11)),Zo 13 (.bin .lss (.t 12) (Zi 1)),Zm 14 13,Zf 14 15 (.mv (.t 0)),Zf 14 16 (.lenl (.t 15)),Zf 14 17 (.bin .gtr (.t 16) (Zi 200)),Zo 18 (.pick (.t 14) (.c (.bool true)) (.t 17))] (.keep [0,18] (.cond (.t 18) (Zq [Zo 2 (.mv (.c (.lst .clip 0 []))),
 Zo 3 (.mv (.c (.bool false)))]
 .ret)
 .skip))) (.keep [0] (Zq [Zm 19 0,Zo 20 (.lenl (.t 19)),Zo 21 (.mkn 133 3 24 [(.int .i64 0),(.int .i64 0),(.int .i64 0)] (.t 20)),Zm 4 21] (.keep [0,4] (Zq [Zo 5 (.k (.mk 3 (.c (.lst .clip 0 []))))] (.keep [0,4,5] (.seq (Zq [Zm 22 0,Zo 23 (.lenl (.t 22)),Zo 24 (.mv (Zi 0))] (.keep [0,4,5,22,23,24] (.block 0 (.loop [0,4,5,22,23,24] (J_expr_parts_j3))))) (J_expr_parts_j1)))))))))⟩
theorem J_expr_parts_ok : chkFn Tryz.prog 51 J_expr_parts = true := by kernel_rfl
def J_expr_Read_j1 : ACode :=
 .keep [0,7] (.seq (Zq [Zo 37 (.fld 3 (.t 7)),Zo 38 (.load none (.t 37)),Zo 39 (.not (.t 38)),Zm 40 39,Zf 40 41 (.fld 2 (.t 7)),Zf 40 42 (.load none (.t 41)),Zf 40 43 (.bin .gtr (.t 42) (Zi 0)),Zo 44 (.pick (.t 40) (.c (.bool true)) (.t 43))] (.keep [0,7,44] (.cond (.t 44) (Zq [Zm 45 0,Zo 46 (.lenl (.t 45)),Zo 2 (.mv (.c (.lst .clip 0 []))),Zm 3 46,Zo 4 (.mv (Zi 2))]
 .ret)
 .skip))) (.keep [0,7] (Zq [Zo 47 (.call (.f 100) [.t 7,(Zi 1)])] (.keep [0,7] (.seq (Zq [Zo 48 (.fld 0 (.t 7)),Zo 49 (.load none (.t 48)),Zo 50 (.lenl (.t 49)),Zo 51 (.bin .gtr (.t 50) (Zi 200))] (.keep [0,7,51] (.cond (.t 51) (Zq [Zm 52 0,Zo 53 (.lenl (.t 52)),Zo 2 (.mv (.c (.lst .clip 0 []))),Zm 3 53,Zo 4 (.mv (Zi 3))]
 .ret)
 .skip))) (.keep [7] (Zq [Zo 54 (.fld 0 (.t 7)),Zo 55 (.load none (.t 54)),Zm 2 55,Zo 3 (.mv (Zi 0)),Zo 4 (.mv (Zi 0))]
 .ret)))))))
def J_expr_Read_j2 : ACode :=
 Zq [Zo 26 (.bin .lss (.t 25) (.t 24))] (.keep [0,7,23,24,25,26] (.seq (.cond (.t 26)
 .skip
 (.exit 2)) (.keep [0,7,23,24,25] (.seq (.block 3 (Zq [Zm 27 25,Zo 28 (.idxa 4 (.t 23) (.t 25)),Zo 29 (.load (some 4) (.t 28)),Zo 9 (.new [(.int .i64 0),(.str ⟨#[]⟩),(.int .i64 0),(.int .i64 0)] []),Zm 8 27,⟨none,none,.stores 4 (.t 9) (.t 29),none⟩] (.keep [0,7,8,9,23,24,25] (Zq [Zo 30 (.load (some 4) (.t 9)),
 Zo 31 (.call (.f 99) [.t 7,.t 30]),Zm 10 31] (.keep [0,7,8,10,23,24,25] (Zq [Zm 32 10,Zo 33 (.bin .neq (.t 32) (Zi 0))] (.keep [0,7,8,10,23,24,25,33] (.cond (.t 33) (Zq [Zm 34 8,Zm 35 10,Zo 2 (.mv (.c (.lst .clip 0 []))),Zm 3 34,Zm 4 35]
 .ret)
 .skip)))))))) (.keep [0,7,23,24,25] (.ops [Zo 36 (.bin .add (.t 25) (Zi 1)),Zm 25 36]))))))
def J_expr_Read_j3 : ACode :=
 .keep [0] (Zq [Zo 7 (.k (.new [(.lst .clip 0 []),(.lst .clip 0 []),(.int .i64 0),(.bool false)] [(0,52,3)] [(1,3)]))] (.keep [0,7] (.seq (Zq [Zm 23 0,Zo 24 (.lenl (.t 23)),Zo 25 (.mv (Zi 0))] (.keep [0,7,23,24,25] (.block 2 (.loop [0,7,23,24,25] (J_expr_Read_j2))))) (J_expr_Read_j1))))
def J_expr_Read_j4 : ACode :=
 Zq [Zo 14 (.bin .lss (.t 13) (.t 12))] (.keep [0,11,12,13,14] (.seq (.cond (.t 14)
 .skip
 (.exit 0)) (.keep [0,11,12,13] (.seq (.block 1 (Zq [Zm 15 13,Zo 16 (.idxa 4 (.t 11) (.t 13)),Zo 17 (.load (some 4) (.t 16)),Zo 6 (.new [(.int .i64 0),(.str ⟨#[]⟩),(.int .i64 0),(.int .i64 0)] []),Zm 5 15,⟨none,none,.stores 4 (.t 6) (.t 17),none⟩] (.keep [0,5,6,11,12,13] (Zq [Zo 18 (.load (some 4) (.t 6)),
 Zo 19 (.call (.f 69) [.t 18]),Zo 20 (.bin .eql (.t 19) (.c (.str ⟨#[]⟩)))] (.keep [0,5,11,12,13,20] (.cond (.t 20) (Zq [Zm 21 5,Zo 2 (.mv (.c (.lst .clip 0 []))),Zm 3 21,Zo 4 (.mv (Zi 2))]
 .ret)
 .skip)))))) (.keep [0,11,12,13] (.ops [Zo 22 (.bin .add (.t 13) (Zi 1)),Zm 13 22]))))))
def J_expr_Read : AFn :=
 ⟨56,[.t 2,.t 3,.t 4],Zq [Zo 2 (.mv (.c (.lst .clip 0 []))),Zo 3 (.mv (Zi 0)),Zo 4 (.mv (Zi 0))] (.keep [0] (.seq (Zq [Zm 11 0,Zo 12 (.lenl (.t 11)),Zo 13 (.mv (Zi 0))] (.keep [0,11,12,13] (.block 0 (.loop [0,11,12,13] (J_expr_Read_j4))))) (J_expr_Read_j3)))⟩
theorem J_expr_Read_ok : chkFn Tryz.prog 62 J_expr_Read = true := by kernel_rfl
def J_ref05_Read : AFn :=
 ⟨25,[.t 2,.t 3,.t 4],Zq [Zo 2 (.mv (.c (.lst .clip 0 []))),Zo 3 (.mv (Zi 0)),Zo 4 (.mv (Zi 0))] (.keep [0] (Zq [Zm 9 0,Zo 10 (.call (.f 102) [.t 9]),Zm 8 10,Zo 11 (.ext 0 (.t 8)),Zo 12 (.ext 1 (.t 8)),Zm 5 11,Zm 6 12] (.keep [0,5,6] (.seq (Zq [Zm 13 6,Zo 14 (.bin .neq (.t 13) (Zi 0))] (.keep [0,5,6,14] (.cond (.t 14) (Zq [Zm 15 5,Zm 16 6,Zo 2 (.mv (.c (.lst .clip 0 []))),Zm 3 15,Zm 4 16]
 .ret)
 .skip))) (.keep [0] (Zq [Zm 17 0,Zo 18 (.call (.f 103) [.t 17]),Zm 7 18] (.keep [0,7] (.seq (Zq [Zm 19 7,Zo 20 (.lenl (.t 19)),Zo 21 (.bin .gtr (.t 20) (Zi 200))] (.keep [0,7,21] (.cond (.t 21) (Zq [Zm 22 0,Zo 23 (.lenl (.t 22)),Zo 2 (.mv (.c (.lst .clip 0 []))),Zm 3 23,Zo 4 (.mv (Zi 3))]
 .ret)
 .skip))) (.keep [7] (Zq [Zm 24 7,Zm 2 24,Zo 3 (.mv (Zi 0)),Zo 4 (.mv (Zi 0))]
 .ret))))))))))⟩
theorem J_ref05_Read_ok : chkFn Tryz.prog 64 J_ref05_Read = true := by kernel_rfl
def J_ref05_Last_j1 : ACode :=
 .keep [2,6,7,10,12,13,14] (Zq [Zo 125 (.fld 0 (.t 10)),Zo 126 (.load none (.t 125)),Zm 127 12,Zo 128 (.bin .add (.t 127) (.c (.str ⟨#[32]⟩))),Zm 129 6,Zo 130 (.bin .add (.t 128) (.t 129)),Zo 131 (.bin .add (.t 130) (.c (.str ⟨#[32]⟩))),Zm 132 13,Zo 133 (.bin .add (.t 131) (.t 132)),Zm 134 7,Zm 135 14,
 Zo 136 (.bin .add (.t 135) (Zi 1)),Zo 137 (.build [(.int .i64 0),(.str ⟨#[]⟩),(.int .i64 0),(.int .i64 0)] [(0,1,(.t 126)),(1,1,(.t 133)),(2,1,(.t 134)),(3,1,(.t 136))]),⟨none,none,.store 4 (.t 2) (.t 137),none⟩,Zo 3 (.mv (.c (.bool true)))]
 .ret)
def J_ref05_Last_j2 : ACode :=
 .keep [2,6,7,8,10,12,13] (Zq [Zo 117 (.fld 3 (.t 10)),Zo 118 (.load none (.t 117)),Zm 14 118] (.keep [2,6,7,8,10,12,13,14] (.seq (Zq [Zo 119 (.fld 3 (.t 8)),Zo 120 (.load none (.t 119)),Zm 121 14,Zo 122 (.bin .gtr (.t 120) (.t 121))] (.keep [2,6,7,8,10,12,13,14,122] (.cond (.t 122) (.ops [Zo 123 (.fld 3 (.t 8)),Zo 124 (.load none (.t 123)),Zm 14 124])
 .skip))) (J_ref05_Last_j1))))
def J_ref05_Last_j3 : ACode :=
 .keep [2,6,7,8,10,12] (Zq [Zo 108 (.fld 1 (.t 8)),Zo 109 (.load none (.t 108)),Zm 13 109] (.keep [2,6,7,8,10,12,13] (.seq (Zq [Zo 110 (.fld 2 (.t 8)),Zo 111 (.load none (.t 110)),Zm 112 7,Zo 113 (.bin .leq (.t 111) (.t 112))] (.keep [2,6,7,8,10,12,13,113] (.cond (.t 113) (.ops [Zm 114 13,Zo 115 (.bin .add (.c (.str ⟨#[40,32]⟩)) (.t 114)),
 Zo 116 (.bin .add (.t 115) (.c (.str ⟨#[32,41]⟩))),Zm 13 116])
 .skip))) (J_ref05_Last_j2))))
def J_ref05_Last : AFn :=
 ⟨138,[.c 2 (some 4),.t 3],Zq [Zo 2 (.new [(.int .i64 0),(.str ⟨#[]⟩),(.int .i64 0),(.int .i64 0)] []),Zo 3 (.mv (.c (.bool false)))] (.keep [0,2] (Zq [Zo 15 (.build [(.int .i64 0),(.str ⟨#[]⟩),(.int .i64 0),(.int .i64 0)] []),Zo 4 (.new [(.int .i64 0),(.str ⟨#[]⟩),(.int .i64 0),(.int .i64 0)] []),⟨none,none,.stores 4 (.t 4) (.t 15),none⟩] (.keep [0,2,4] (.seq (Zq [Zm 16 0,
 Zo 17 (.lenl (.t 16)),Zo 18 (.bin .eql (.t 17) (Zi 0))] (.keep [0,2,4,18] (.cond (.t 18) (Zq [Zo 19 (.load (some 4) (.t 4)),⟨none,none,.store 4 (.t 2) (.t 19),none⟩,Zo 3 (.mv (.c (.bool false)))]
 .ret)
 .skip))) (.keep [0,2,4] (Zq [Zm 20 0,Zm 21 0,Zo 22 (.lenl (.t 21)),Zo 23 (.bin .sub (.t 22) (Zi 1)),Zo 24 (.idxa 3 (.t 20) (.t 23)),Zo 25 (.load (some 3) (.t 24)),Zo 5 (.new [(.int .i64 0),(.int .i64 0),(.str ⟨#[]⟩)] []),⟨none,none,.stores 3 (.t 5) (.t 25),none⟩] (.keep [0,2,4,5] (Zq [Zo 26 (.fld 0 (.t 5)),
 Zo 27 (.load none (.t 26)),Zo 28 (.fld 2 (.t 5)),Zo 29 (.load none (.t 28)),Zo 30 (.fld 1 (.t 5)),Zo 31 (.load none (.t 30)),Zo 32 (.build [(.int .i64 0),(.str ⟨#[]⟩),(.int .i64 0),(.int .i64 0)] [(0,1,(.t 27)),(1,1,(.t 29)),(2,1,(.t 31))]),Zo 33 (.call (.f 41) [.t 32]),Zm 6 33] (.keep [0,2,4,5,6] (.seq (Zq [Zm 34 6,
 Zo 35 (.bin .eql (.t 34) (.c (.str ⟨#[]⟩)))] (.keep [0,2,4,5,6,35] (.cond (.t 35) (Zq [Zo 36 (.load (some 4) (.t 4)),⟨none,none,.store 4 (.t 2) (.t 36),none⟩,Zo 3 (.mv (.c (.bool false)))]
 .ret)
 .skip))) (.keep [0,2,4,5,6] (.seq (Zq [Zo 37 (.fld 0 (.t 5)),Zo 38 (.load none (.t 37)),Zo 39 (.bin .eql (.t 38) (Zi 1))] (.keep [0,2,4,5,6,39] (.cond (.t 39) (Zq [Zm 40 0,Zo 41 (.lenl (.t 40)),Zo 42 (.bin .sub (.t 41) (Zi 1)),Zm 43 6,Zo 44 (.build [(.int .i64 0),(.str ⟨#[]⟩),(.int .i64 0),(.int .i64 0)] [(0,1,(.t 42)),(1,1,(.t 43)),(2,1,(Zi 5)),(3,1,(Zi 1))]),⟨none,none,.store 4 (.t 2) (.t 44),none⟩,
 Zo 3 (.mv (.c (.bool true)))]
 .ret)
 .skip))) (.keep [0,2,4,5,6] (Zq [Zo 45 (.fld 0 (.t 5)),Zo 46 (.load none (.t 45)),Zo 47 (.call (.f 112) [.t 46]),Zm 7 47] (.keep [0,2,4,5,6,7] (.seq (Zq [Zm 48 7,Zo 49 (.bin .eql (.t 48) (Zi 0))] (.keep [0,2,4,5,6,7,49] (.cond (.t 49) (Zq [Zo 50 (.load (some 4) (.t 4)),⟨none,none,.store 4 (.t 2) (.t 50),none⟩,Zo 3 (.mv (.c (.bool false)))]
 .ret)
 .skip))) (.keep [0,2,4,5,6,7] (Zq [Zm 52 0,Zm 53 0,Zo 54 (.lenl (.t 53)),Zo 55 (.bin .sub (.t 54) (Zi 1)),Zo 56 (.slcl 3 (.t 52) none (some (.t 55)) none),Zo 57 (.call (.f 82) [.t 56]),Zm 51 57,Zo 58 (.ext 0 (.t 51)),Zo 59 (.ext 1 (.t 51)),Zo 8 (.new [(.int .i64 0),(.str ⟨#[]⟩),(.int .i64 0),(.int .i64 0)] []),⟨none,none,.stores 4 (.t 8) (.t 58),none⟩,
 Zm 9 59] (.keep [0,2,4,5,6,7,8,9] (.seq (Zq [Zm 60 9,Zo 61 (.not (.t 60)),Zm 62 61,Zf 62 63 (.fld 0 (.t 5)),Zf 62 64 (.load none (.t 63)),Zf 62 65 (.bin .eql (.t 64) (Zi 5)),Zf 62 66 (.mv (.t 65)),Zt 66 67 (.mv (.t 0)),Zt 66 68 (.mv (.t 0)),Zt 66 69 (.lenl (.t 68)),Zt 66 70 (.bin .sub (.t 69) (Zi 2)),
 Zt 66 71 (.idxa 3 (.t 67) (.t 70)),Zt 66 72 (.fld 0 (.t 71)),Zt 66 73 (.load none (.t 72)),Zt 66 74 (.bin .neq (.t 73) (Zi 1)),Zt 66 75 (.mv (.t 74)),Zf 75 76 (.mv (.t 0)),Zf 75 77 (.mv (.t 0)),Zf 75 78 (.lenl (.t 77)),Zf 75 79 (.bin .sub (.t 78) (Zi 2)),Zf 75 80 (.idxa 3 (.t 76) (.t 79)),Zf 75 81 (.fld 1 (.t 80)),
 Zf 75 82 (.load none (.t 81)),Zf 75 83 (.bin .neq (.t 82) (Zi 5)),Zt 66 84 (.pick (.t 75) (.c (.bool true)) (.t 83)),Zf 62 85 (.pick (.t 66) (.t 84) (.c (.bool false))),Zo 86 (.pick (.t 62) (.c (.bool true)) (.t 85))] (.keep [0,2,4,6,7,8,86] (.cond (.t 86) (Zq [Zo 87 (.load (some 4) (.t 4)),⟨none,none,.store 4 (.t 2) (.t 87),none⟩,Zo 3 (.mv (.c (.bool false)))]
 .ret)
 .skip))) (.keep [0,2,4,6,7,8] (Zq [Zm 89 0,Zo 90 (.fld 0 (.t 8)),Zo 91 (.load none (.t 90)),Zo 92 (.slcl 3 (.t 89) none (some (.t 91)) none),Zo 93 (.call (.f 82) [.t 92]),Zm 88 93,Zo 94 (.ext 0 (.t 88)),Zo 95 (.ext 1 (.t 88)),Zo 10 (.new [(.int .i64 0),(.str ⟨#[]⟩),(.int .i64 0),(.int .i64 0)] []),⟨none,none,.stores 4 (.t 10) (.t 94),none⟩,
 Zm 11 95] (.keep [2,4,6,7,8,10,11] (.seq (Zq [Zm 96 11,Zo 97 (.not (.t 96))] (.keep [2,4,6,7,8,10,97] (.cond (.t 97) (Zq [Zo 98 (.load (some 4) (.t 4)),⟨none,none,.store 4 (.t 2) (.t 98),none⟩,Zo 3 (.mv (.c (.bool false)))]
 .ret)
 .skip))) (.keep [2,6,7,8,10] (Zq [Zo 99 (.fld 1 (.t 10)),Zo 100 (.load none (.t 99)),Zm 12 100] (.keep [2,6,7,8,10,12] (.seq (Zq [Zo 101 (.fld 2 (.t 10)),Zo 102 (.load none (.t 101)),Zm 103 7,Zo 104 (.bin .lss (.t 102) (.t 103))] (.keep [2,6,7,8,10,12,104] (.cond (.t 104) (.ops [Zm 105 12,Zo 106 (.bin .add (.c (.str ⟨#[40,32]⟩)) (.t 105)),
 Zo 107 (.bin .add (.t 106) (.c (.str ⟨#[32,41]⟩))),Zm 12 107])
 .skip))) (J_ref05_Last_j3)))))))))))))))))))))))))))))⟩
theorem J_ref05_Last_ok : chkFn Tryz.prog 82 J_ref05_Last = true := by kernel_rfl
def J_expr_written : AFn :=
 ⟨11,[.t 2],Zq [Zo 1 (.box (.t 0) []),Zo 2 (.mv (.c (.str ⟨#[]⟩)))] (.keep [1] (Zq [Zo 3 (.fld 0 (.t 1)),Zo 4 (.load none (.t 3)),Zo 5 (.fld 1 (.t 1)),Zo 6 (.load none (.t 5)),Zo 7 (.fld 2 (.t 1)),Zo 8 (.load none (.t 7)),Zo 9 (.build [(.int .i64 0),(.str ⟨#[]⟩),(.int .i64 0),(.int .i64 0)] [(0,1,(.t 4)),(2,1,(.t 6)),(1,1,(.t 8))]),Zo 10 (.call (.f 69) [.t 9]),Zm 2 10]
 .ret))⟩
theorem J_expr_written_ok : chkFn Tryz.prog 85 J_expr_written = true := by kernel_rfl
def J_expr_bind : AFn :=
 ⟨14,[.t 2],Zq [Zo 2 (.mv (Zi 0))] (.keep [0] (.seq (Zq [Zm 3 0] (.keep [3] (.block 0 (Zq [Zo 5 (.bin .eql (.t 3) (Zi 2)),Zm 4 5] (.keep [3,4] (.cond (.t 4) (Zq [Zo 2 (.mv (Zi 1))]
 .ret) (Zq [Zo 7 (.bin .eql (.t 3) (Zi 3)),Zm 6 7] (.keep [3,6] (.cond (.t 6) (Zq [Zo 2 (.mv (Zi 2))]
 .ret) (Zq [Zo 9 (.bin .eql (.t 3) (Zi 4)),Zm 8 9] (.keep [3,8] (.cond (.t 8) (Zq [Zo 2 (.mv (Zi 3))]
 .ret) (Zq [Zo 11 (.bin .eql (.t 3) (Zi 5)),Zm 10 11] (.keep [3,10] (.cond (.t 10) (Zq [Zo 2 (.mv (Zi 4))]
 .ret) (Zq [Zo 13 (.bin .eql (.t 3) (Zi 1)),Zm 12 13] (.keep [12] (.cond (.t 12) (Zq [Zo 2 (.mv (Zi 5))]
 .ret)
 .skip)))))))))))))))))) (.keep [] (Zq [Zo 2 (.mv (Zi 0))]
 .ret))))⟩
theorem J_expr_bind_ok : chkFn Tryz.prog 86 J_expr_bind = true := by kernel_rfl
def J_expr_reader_take_j1 : ACode :=
 .keep [] (Zq [Zo 4 (.mv (Zi 0))]
 .ret)
def J_expr_reader_take_j2 : ACode :=
 .keep [0,3,14,15] (.cond (.t 15) (Zq [Zm 20 0,Zo 21 (.fld 0 (.t 3)),Zo 22 (.load none (.t 21)),Zo 23 (.call (.f 86) [.t 22]),Zo 24 (.call (.f 100) [.t 20,.t 23])] (.keep [0,3] (.seq (.draw [0] [Zm 25 0,Zm 26 0,Zo 27 (.nilck (.t 26)),Zo 28 (.fld 1 (.t 27)),⟨some 29,none,.k (.ld (.t 28)),(some (.s 0,[3]))⟩,
 Zo 30 (.fld 0 (.t 3)),⟨some 31,none,.load none (.t 30),(some (.s 3,[0]))⟩,Zo 32 (.bsl 3 1 1 [(.int .i64 0)] [(0,1,(.t 31))]),Zo 33 (.k (.ap 3 8 29 (.t 32))),Zo 34 (.nilck (.t 25)),Zo 35 (.fld 1 (.t 34)),⟨none,none,.k (.st (.t 35) 33),none⟩]) (.keep [0] (.ops [Zm 36 0,Zo 37 (.nilck (.t 36)),Zo 38 (.fld 3 (.t 37)),⟨none,none,.store 1 (.t 38) (.c (.bool false)),none⟩]))))) (Zq [Zo 40 (.bin .eql (.t 14) (Zi 7)),
 Zm 39 40] (.keep [0,39] (.cond (.t 39) (.seq (Zq [Zm 41 0,Zo 42 (.nilck (.t 41)),Zo 43 (.fld 2 (.t 42)),Zo 44 (.load none (.t 43)),Zo 45 (.bin .eql (.t 44) (Zi 0))] (.keep [0,45] (.cond (.t 45) (Zq [Zo 4 (.mv (Zi 2))]
 .ret)
 .skip))) (.keep [0] (Zq [Zm 46 0,Zo 47 (.call (.f 100) [.t 46,(Zi 1)])] (.keep [0] (.seq (.nmo 0 1 (.draw [0] [Zm 48 0,Zm 49 0,Zo 50 (.nilck (.t 49)),Zo 51 (.fld 1 (.t 50)),Zo 52 (.load none (.t 51)),Zm 53 0,Zo 54 (.nilck (.t 53)),Zo 55 (.fld 1 (.t 54)),Zo 56 (.load none (.t 55)),Zo 57 (.k (.len (.t 56))),
 Zo 58 (.bin .sub (.t 57) (Zi 1)),Zo 59 (.k (.sl (.t 52) (.t 58))),Zo 60 (.nilck (.t 48)),Zo 61 (.fld 1 (.t 60)),⟨none,none,.k (.pop (.t 61) (.t 59)),none⟩])) (.keep [0] (.ops [Zm 62 0,Zo 63 (.nilck (.t 62)),Zo 64 (.fld 2 (.t 63)),Zo 65 (.load none (.t 64)),Zo 66 (.bin .sub (.t 65) (Zi 1)),Zo 67 (.nilck (.t 62)),
 Zo 68 (.fld 2 (.t 67)),⟨none,none,.store 1 (.t 68) (.t 66),none⟩]))))))) (Zq [Zo 4 (.mv (Zi 2))]
 .ret)))))
def J_expr_reader_take : AFn :=
 ⟨69,[.t 4],Zq [Zo 3 (.box (.t 1) []),Zo 4 (.mv (Zi 0))] (.keep [0,3] (.seq (Zq [Zm 5 0,Zo 6 (.nilck (.t 5)),Zo 7 (.fld 3 (.t 6)),Zo 8 (.load none (.t 7)),Zo 9 (.not (.t 8))] (.keep [0,3,9] (.cond (.t 9) (Zq [Zm 10 0,Zo 11 (.load (some 4) (.t 3)),Zo 12 (.call (.f 121) [.t 10,.t 11]),Zm 4 12]
 .ret)
 .skip))) (.keep [0,3] (.seq (Zq [Zo 13 (.fld 0 (.t 3)),Zo 14 (.load none (.t 13))] (.keep [0,3,14] (.block 0 (.seq (Zq [Zo 16 (.bin .eql (.t 14) (Zi 2)),Zm 15 16] (.keep [0,3,14,15] (.cond (.t 15)
 .skip
 (Zq [Zo 17 (.bin .eql (.t 14) (Zi 3)),Zm 15 17] (.keep [0,3,14,15] (.cond (.t 15)
 .skip
 (Zq [Zo 18 (.bin .eql (.t 14) (Zi 4)),Zm 15 18] (.keep [0,3,14,15] (.cond (.t 15)
 .skip
 (.ops [Zo 19 (.bin .eql (.t 14) (Zi 5)),Zm 15 19])))))))))) (J_expr_reader_take_j2))))) (J_expr_reader_take_j1)))))⟩
theorem J_expr_reader_take_ok : chkFn Tryz.prog 99 J_expr_reader_take = true := by kernel_rfl
def J_expr_reader_lay_j1 : ACode :=
 .seq (Zq [Zm 4 0,Zo 5 (.call (.f 122) [.t 4]),Zo 6 (.call (.f 86) [.t 5]),Zm 7 1,Zo 8 (.bin .geq (.t 6) (.t 7))] (.keep [0,1,8] (.cond (.t 8)
 .skip
 (.exit 0)))) (.keep [0,1] (.block 1 (.seq (.draw [0,1] [Zm 9 0,Zm 10 0,Zo 11 (.nilck (.t 10)),Zo 12 (.fld 0 (.t 11)),Zo 13 (.loado (.t 12)),Zm 14 0,Zo 15 (.callr (.f 122) [.t 14]),Zo 16 (.build [(.int .i64 0),(.int .i64 0),(.str ⟨#[]⟩)] [(0,1,(.t 15))]),Zo 17 (.bsl 52 3 1 [(.int .i64 0),(.int .i64 0),(.str ⟨#[]⟩)] [(0,3,(.t 16))]),
 Zo 18 (.appo 52 3 32 13 (.t 17)),Zo 19 (.nilck (.t 9)),Zo 20 (.fld 0 (.t 19)),⟨none,none,.storeo (.t 20) 18,none⟩]) (.keep [0,1] (.nmo 0 1 (.draw [0,1] [Zm 21 0,Zm 22 0,Zo 23 (.nilck (.t 22)),Zo 24 (.fld 1 (.t 23)),Zo 25 (.load none (.t 24)),Zm 26 0,Zo 27 (.nilck (.t 26)),Zo 28 (.fld 1 (.t 27)),Zo 29 (.load none (.t 28)),
 Zo 30 (.k (.len (.t 29))),Zo 31 (.bin .sub (.t 30) (Zi 1)),Zo 32 (.k (.sl (.t 25) (.t 31))),Zo 33 (.nilck (.t 21)),Zo 34 (.fld 1 (.t 33)),⟨none,none,.k (.pop (.t 34) (.t 32)),none⟩]))))))
def J_expr_reader_lay : AFn :=
 ⟨35,[],.block 0 (.loop [0,1] (J_expr_reader_lay_j1))⟩
theorem J_expr_reader_lay_ok : chkFn Tryz.prog 100 J_expr_reader_lay = true := by kernel_rfl
def J_ref05_check_j1 : ACode :=
 .keep [0,5,6] (.seq (Zq [Zm 100 5,Zo 101 (.not (.t 100)),Zm 102 101,Zf 102 103 (.mv (.t 6)),Zf 102 104 (.bin .gtr (.t 103) (Zi 0)),Zo 105 (.pick (.t 102) (.c (.bool true)) (.t 104))] (.keep [0,105] (.cond (.t 105) (Zq [Zm 106 0,Zo 107 (.lenl (.t 106)),Zm 2 107,Zo 3 (.mv (Zi 2))]
 .ret)
 .skip))) (.keep [] (Zq [Zo 2 (.mv (Zi 0)),Zo 3 (.mv (Zi 0))]
 .ret)))
def J_ref05_check_j2 : ACode :=
 .keep [0,5,6,7] (.ops [Zm 27 7,Zo 28 (.bin .add (.t 27) (Zi 1)),Zm 7 28])
def J_ref05_check_j3 : ACode :=
 .seq (Zq [Zm 23 7,Zm 24 0,Zo 25 (.lenl (.t 24)),Zo 26 (.bin .lss (.t 23) (.t 25))] (.keep [0,5,6,7,26] (.cond (.t 26)
 .skip
 (.exit 2)))) (.keep [0,5,6,7] (.seq (.block 3 (Zq [Zm 29 0,Zm 30 7,Zo 31 (.idxa 4 (.t 29) (.t 30)),Zo 32 (.load (some 4) (.t 31)),Zo 8 (.new [(.int .i64 0),(.str ⟨#[]⟩),(.int .i64 0),(.int .i64 0)] []),⟨none,none,.stores 4 (.t 8) (.t 32),none⟩] (.keep [0,5,6,7,8] (Zq [Zm 33 7,Zo 34 (.bin .gtr (.t 33) (Zi 0)),
 Zm 35 34,Zt 35 36 (.mv (.t 0)),Zt 35 37 (.mv (.t 7)),Zt 35 38 (.bin .sub (.t 37) (Zi 1)),Zt 35 39 (.idxa 4 (.t 36) (.t 38)),Zt 35 40 (.fld 0 (.t 39)),Zt 35 41 (.load none (.t 40)),Zt 35 42 (.bin .eql (.t 41) (Zi 5)),Zo 43 (.pick (.t 35) (.t 42) (.c (.bool false))),Zm 9 43] (.keep [0,5,6,7,8,9] (.block 4 (Zq [Zm 46 5,
 Zo 47 (.not (.t 46)),Zm 48 47,Zt 48 49 (.fld 0 (.t 8)),Zt 48 50 (.load none (.t 49)),Zt 48 51 (.bin .eql (.t 50) (Zi 1)),Zo 52 (.pick (.t 48) (.t 51) (.c (.bool false))),Zm 53 52,Zt 53 54 (.mv (.t 9)),Zt 53 55 (.not (.t 54)),Zt 53 56 (.mv (.t 55)),Zf 56 57 (.fld 2 (.t 8)),Zf 56 58 (.load none (.t 57)),
 Zf 56 59 (.bin .eql (.t 58) (Zi 5)),Zt 53 60 (.pick (.t 56) (.c (.bool true)) (.t 59)),Zo 61 (.pick (.t 53) (.t 60) (.c (.bool false))),Zm 45 61] (.keep [0,5,6,7,8,9,45] (.cond (.t 45) (.ops [Zo 5 (.mv (.c (.bool true)))]) (Zq [Zm 63 5,Zo 64 (.not (.t 63)),Zm 65 64,Zt 65 66 (.fld 0 (.t 8)),Zt 65 67 (.load none (.t 66)),
 Zt 65 68 (.bin .eql (.t 67) (Zi 6)),Zo 69 (.pick (.t 65) (.t 68) (.c (.bool false))),Zm 70 69,Zt 70 71 (.mv (.t 9)),Zt 70 72 (.not (.t 71)),Zo 73 (.pick (.t 70) (.t 72) (.c (.bool false))),Zm 62 73] (.keep [0,5,6,7,8,62] (.cond (.t 62) (.seq (Zq [Zm 74 6,Zo 75 (.bin .eql (.t 74) (Zi 100))] (.keep [0,5,6,7,75] (.cond (.t 75) (Zq [Zm 76 7,Zm 2 76,Zo 3 (.mv (Zi 3))]
 .ret)
 .skip))) (.keep [0,5,6,7] (.ops [Zm 77 6,Zo 78 (.bin .add (.t 77) (Zi 1)),Zm 6 78]))) (Zq [Zm 80 5,Zm 81 80,Zt 81 82 (.fld 0 (.t 8)),Zt 81 83 (.load none (.t 82)),Zt 81 84 (.bin .eql (.t 83) (Zi 7)),Zo 85 (.pick (.t 81) (.t 84) (.c (.bool false))),Zm 86 85,Zt 86 87 (.mv (.t 6)),Zt 86 88 (.bin .gtr (.t 87) (Zi 0)),
 Zo 89 (.pick (.t 86) (.t 88) (.c (.bool false))),Zm 79 89] (.keep [0,5,6,7,8,79] (.cond (.t 79) (.ops [Zm 90 6,Zo 91 (.bin .sub (.t 90) (Zi 1)),Zm 6 91]) (Zq [Zm 93 5,Zm 94 93,Zt 94 95 (.fld 0 (.t 8)),Zt 94 96 (.load none (.t 95)),Zt 94 97 (.call (.f 112) [.t 96]),Zt 94 98 (.bin .gtr (.t 97) (Zi 0)),
 Zo 99 (.pick (.t 94) (.t 98) (.c (.bool false))),Zm 92 99] (.keep [0,6,7,92] (.cond (.t 92) (.ops [Zo 5 (.mv (.c (.bool false)))]) (Zq [Zm 44 7,Zm 2 44,Zo 3 (.mv (Zi 2))]
 .ret))))))))))))))))))) (J_ref05_check_j2)))
def J_ref05_check_j4 : ACode :=
 .keep [0] (Zq [Zo 5 (.mv (.c (.bool false)))] (.keep [0,5] (Zq [Zo 6 (.mv (Zi 0))] (.keep [0,5,6] (.seq (Zq [Zo 7 (.mv (Zi 0))] (.keep [0,5,6,7] (.block 2 (.loop [0,5,6,7] (J_ref05_check_j3))))) (J_ref05_check_j1))))))
def J_ref05_check_j5 : ACode :=
 .seq (Zq [Zm 10 4,Zm 11 0,Zo 12 (.lenl (.t 11)),Zo 13 (.bin .lss (.t 10) (.t 12))] (.keep [0,4,13] (.cond (.t 13)
 .skip
 (.exit 0)))) (.keep [0,4] (.seq (.block 1 (Zq [Zm 16 0,Zm 17 4,Zo 18 (.idxa 4 (.t 16) (.t 17)),Zo 19 (.load (some 4) (.t 18)),Zo 20 (.call (.f 41) [.t 19]),Zo 21 (.bin .eql (.t 20) (.c (.str ⟨#[]⟩)))] (.keep [0,4,21] (.cond (.t 21) (Zq [Zm 22 4,Zm 2 22,Zo 3 (.mv (Zi 2))]
 .ret)
 .skip)))) (.keep [0,4] (.ops [Zm 14 4,Zo 15 (.bin .add (.t 14) (Zi 1)),Zm 4 15]))))
def J_ref05_check : AFn :=
 ⟨108,[.t 2,.t 3],Zq [Zo 2 (.mv (Zi 0)),Zo 3 (.mv (Zi 0))] (.keep [0] (.seq (Zq [Zo 4 (.mv (Zi 0))] (.keep [0,4] (.block 0 (.loop [0,4] (J_ref05_check_j5))))) (J_ref05_check_j4)))⟩
theorem J_ref05_check_ok : chkFn Tryz.prog 102 J_ref05_check = true := by kernel_rfl
def J_ref05_terms_j1 : ACode :=
 .keep [0,3] (.seq (Zq [Zm 63 3,Zo 64 (.bin .lss (.t 63) (Zi 0))] (.keep [0,3,64] (.cond (.t 64) (Zq [Zm 65 0,Zm 66 0,Zo 67 (.lenl (.t 66)),Zo 68 (.bin .sub (.t 67) (Zi 1)),Zo 69 (.slcl 4 (.t 65) (some (Zi 1)) (some (.t 68)) none),Zo 70 (.call (.f 103) [.t 69]),Zm 2 70]
 .ret)
 .skip))) (.keep [0,3] (Zq [Zo 71 (.bsl 52 3 0 [] []),Zm 72 0,Zm 73 3,Zo 74 (.slcl 4 (.t 72) none (some (.t 73)) none),Zo 75 (.call (.f 103) [.t 74]),Zo 76 (.appo 52 3 32 71 (.t 75)),Zo 8 (.mvo 76)] (.keep [0,3,8] (Zq [Zo 77 (.mvo 8),Zm 78 0,Zm 79 3,Zo 80 (.bin .add (.t 79) (Zi 1)),Zo 81 (.slcl 4 (.t 78) (some (.t 80)) none none),
 Zo 82 (.call (.f 103) [.t 81]),Zo 83 (.appo 52 3 32 77 (.t 82)),Zo 8 (.mvo 83)] (.keep [0,3,8] (Zq [Zo 84 (.mvo 8),Zm 85 0,Zm 86 3,Zo 87 (.idxa 4 (.t 85) (.t 86)),Zo 88 (.fld 0 (.t 87)),Zo 89 (.load none (.t 88)),Zo 90 (.build [(.int .i64 0),(.int .i64 0),(.str ⟨#[]⟩)] [(0,1,(.t 89))]),Zo 91 (.bsl 52 3 1 [(.int .i64 0),(.int .i64 0),(.str ⟨#[]⟩)] [(0,3,(.t 90))]),
 Zo 92 (.appo 52 3 32 84 (.t 91)),Zo 2 (.mvo 92)]
 .ret)))))))
def J_ref05_terms_j2 : ACode :=
 .keep [0,3,4,5,6] (.ops [Zm 26 6,Zo 27 (.bin .add (.t 26) (Zi 1)),Zm 6 27])
def J_ref05_terms_j3 : ACode :=
 .keep [0,3,4,5,6] (Zq [Zm 44 0,Zm 45 6,Zo 46 (.idxa 4 (.t 44) (.t 45)),Zo 47 (.fld 0 (.t 46)),Zo 48 (.load none (.t 47)),Zo 49 (.call (.f 112) [.t 48]),Zm 7 49] (.keep [0,3,4,5,6,7] (Zq [Zm 50 5,Zo 51 (.bin .eql (.t 50) (Zi 0)),Zm 52 51,Zt 52 53 (.mv (.t 7)),Zt 52 54 (.bin .gtr (.t 53) (Zi 0)),Zo 55 (.pick (.t 52) (.t 54) (.c (.bool false))),
 Zm 56 55,Zt 56 57 (.mv (.t 7)),Zt 56 58 (.mv (.t 4)),Zt 56 59 (.bin .leq (.t 57) (.t 58)),Zo 60 (.pick (.t 56) (.t 59) (.c (.bool false)))] (.keep [0,3,4,5,6,7,60] (.cond (.t 60) (Zq [Zm 61 7,Zm 4 61] (.keep [0,4,5,6] (.ops [Zm 62 6,Zm 3 62])))
 .skip)))))
def J_ref05_terms_j4 : ACode :=
 .keep [0,3,4,5,6] (.seq (Zq [Zm 36 0,Zm 37 6,Zo 38 (.idxa 4 (.t 36) (.t 37)),Zo 39 (.fld 0 (.t 38)),Zo 40 (.load none (.t 39)),Zo 41 (.bin .eql (.t 40) (Zi 7))] (.keep [0,3,4,5,6,41] (.cond (.t 41) (.ops [Zm 42 5,Zo 43 (.bin .sub (.t 42) (Zi 1)),Zm 5 43])
 .skip))) (J_ref05_terms_j3))
def J_ref05_terms_j5 : ACode :=
 .seq (Zq [Zm 22 6,Zm 23 0,Zo 24 (.lenl (.t 23)),Zo 25 (.bin .lss (.t 22) (.t 24))] (.keep [0,3,4,5,6,25] (.cond (.t 25)
 .skip
 (.exit 0)))) (.keep [0,3,4,5,6] (.seq (.block 1 (.seq (Zq [Zm 28 0,Zm 29 6,Zo 30 (.idxa 4 (.t 28) (.t 29)),Zo 31 (.fld 0 (.t 30)),Zo 32 (.load none (.t 31)),Zo 33 (.bin .eql (.t 32) (Zi 6))] (.keep [0,3,4,5,6,33] (.cond (.t 33) (.ops [Zm 34 5,Zo 35 (.bin .add (.t 34) (Zi 1)),Zm 5 35])
 .skip))) (J_ref05_terms_j4))) (J_ref05_terms_j2)))
def J_ref05_terms : AFn :=
 ⟨93,[.t 2],Zq [Zo 2 (.mv (.c (.lst .clip 0 [])))] (.keep [0] (.seq (Zq [Zm 9 0,Zo 10 (.lenl (.t 9)),Zo 11 (.bin .eql (.t 10) (Zi 1))] (.keep [0,11] (.cond (.t 11) (.seq (.draw [2] [Zm 12 0,Zo 13 (.idxa 4 (.t 12) (Zi 0)),Zo 14 (.fld 2 (.t 13)),Zo 15 (.load none (.t 14)),Zm 16 0,Zo 17 (.idxa 4 (.t 16) (Zi 0)),
 Zo 18 (.fld 1 (.t 17)),Zo 19 (.load none (.t 18)),Zo 20 (.build [(.int .i64 0),(.int .i64 0),(.str ⟨#[]⟩)] [(0,1,(Zi 1)),(1,1,(.t 15)),(2,1,(.t 19))]),Zo 21 (.bsl 52 3 1 [(.int .i64 0),(.int .i64 0),(.str ⟨#[]⟩)] [(0,3,(.t 20))]),Zo 2 (.mvo 21)])
 .ret)
 .skip))) (.keep [0] (Zq [Zo 3 (.mv (.c (.int .i64 (-1))))] (.keep [0,3] (Zq [Zo 4 (.mv (Zi 9))] (.keep [0,3,4] (Zq [Zo 5 (.mv (Zi 0))] (.keep [0,3,4,5] (.seq (Zq [Zo 6 (.mv (Zi 0))] (.keep [0,3,4,5,6] (.block 0 (.loop [0,3,4,5,6] (J_ref05_terms_j5))))) (J_ref05_terms_j1)))))))))))⟩
theorem J_ref05_terms_ok : chkFn Tryz.prog 103 J_ref05_terms = true := by kernel_rfl
def J_ref05_Binds : AFn :=
 ⟨12,[.t 2],Zq [Zo 2 (.mv (Zi 0))] (.keep [0] (.seq (Zq [Zm 3 0] (.keep [3] (.block 0 (Zq [Zo 5 (.bin .eql (.t 3) (Zi 2)),Zm 4 5] (.keep [3,4] (.cond (.t 4) (Zq [Zo 2 (.mv (Zi 1))]
 .ret) (Zq [Zo 7 (.bin .eql (.t 3) (Zi 3)),Zm 6 7] (.keep [3,6] (.cond (.t 6) (Zq [Zo 2 (.mv (Zi 2))]
 .ret) (Zq [Zo 9 (.bin .eql (.t 3) (Zi 4)),Zm 8 9] (.keep [3,8] (.cond (.t 8) (Zq [Zo 2 (.mv (Zi 3))]
 .ret) (Zq [Zo 11 (.bin .eql (.t 3) (Zi 5)),Zm 10 11] (.keep [10] (.cond (.t 10) (Zq [Zo 2 (.mv (Zi 4))]
 .ret)
 .skip))))))))))))))) (.keep [] (Zq [Zo 2 (.mv (Zi 0))]
 .ret))))⟩
theorem J_ref05_Binds_ok : chkFn Tryz.prog 112 J_ref05_Binds = true := by kernel_rfl
def J_expr_reader_part_j1 : ACode :=
 .keep [] (Zq [Zo 4 (.mv (Zi 0))]
 .ret)
def J_expr_reader_part : AFn :=
 ⟨64,[.t 4],Zq [Zo 3 (.box (.t 1) []),Zo 4 (.mv (Zi 0))] (.keep [0,3] (.seq (.block 0 (Zq [Zo 6 (.fld 0 (.t 3)),Zo 7 (.load none (.t 6)),Zo 8 (.bin .eql (.t 7) (Zi 1)),Zm 5 8] (.keep [0,3,5] (.cond (.t 5) (.seq (Zq [Zm 9 0,Zo 10 (.call (.f 122) [.t 9]),Zo 11 (.bin .eql (.t 10) (Zi 5)),Zm 12 11,Zt 12 13 (.fld 2 (.t 3)),
 Zt 12 14 (.load none (.t 13)),Zt 12 15 (.bin .neq (.t 14) (Zi 5)),Zo 16 (.pick (.t 12) (.t 15) (.c (.bool false)))] (.keep [0,3,16] (.cond (.t 16) (Zq [Zo 4 (.mv (Zi 2))]
 .ret)
 .skip))) (.keep [0,3] (.seq (.draw [0] [Zm 17 0,Zm 18 0,Zo 19 (.nilck (.t 18)),Zo 20 (.fld 0 (.t 19)),⟨some 21,none,.loado (.t 20),(some (.s 0,[3]))⟩,Zo 22 (.fld 2 (.t 3)),⟨some 23,none,.load none (.t 22),(some (.s 3,[0]))⟩,Zo 24 (.fld 1 (.t 3)),⟨some 25,none,.load none (.t 24),(some (.s 3,[0]))⟩,Zo 26 (.build [(.int .i64 0),(.int .i64 0),(.str ⟨#[]⟩)] [(0,1,(Zi 1)),(1,1,(.t 23)),(2,1,(.t 25))]),
 Zo 27 (.bsl 52 3 1 [(.int .i64 0),(.int .i64 0),(.str ⟨#[]⟩)] [(0,3,(.t 26))]),Zo 28 (.appo 52 3 32 21 (.t 27)),Zo 29 (.nilck (.t 17)),Zo 30 (.fld 0 (.t 29)),⟨none,none,.storeo (.t 30) 28,none⟩]) (.keep [0] (.ops [Zm 31 0,Zo 32 (.nilck (.t 31)),Zo 33 (.fld 3 (.t 32)),⟨none,none,.store 1 (.t 33) (.c (.bool true)),none⟩]))))) (Zq [Zo 35 (.fld 0 (.t 3)),
 Zo 36 (.load none (.t 35)),Zo 37 (.bin .eql (.t 36) (Zi 6)),Zm 38 37,Zt 38 39 (.mv (.t 0)),Zt 38 40 (.call (.f 122) [.t 39]),Zt 38 41 (.bin .neq (.t 40) (Zi 5)),Zo 42 (.pick (.t 38) (.t 41) (.c (.bool false))),Zm 34 42] (.keep [0,34] (.cond (.t 34) (.seq (Zq [Zm 43 0,Zo 44 (.nilck (.t 43)),Zo 45 (.fld 2 (.t 44)),
 Zo 46 (.load none (.t 45)),Zo 47 (.bin .eql (.t 46) (Zi 100))] (.keep [0,47] (.cond (.t 47) (Zq [Zo 4 (.mv (Zi 3))]
 .ret)
 .skip))) (.keep [0] (Zq [Zm 48 0,Zm 49 0,Zo 50 (.nilck (.t 49)),Zo 51 (.fld 1 (.t 50)),Zo 52 (.k (.ld (.t 51))),Zo 53 (.bsl 3 1 1 [(.int .i64 0)] [(0,1,(Zi 6))]),Zo 54 (.k (.ap 3 8 52 (.t 53))),Zo 55 (.nilck (.t 48)),Zo 56 (.fld 1 (.t 55)),⟨none,none,.k (.st (.t 56) 54),none⟩] (.keep [0] (.ops [Zm 57 0,
 Zo 58 (.nilck (.t 57)),Zo 59 (.fld 2 (.t 58)),Zo 60 (.load none (.t 59)),Zo 61 (.bin .add (.t 60) (Zi 1)),Zo 62 (.nilck (.t 57)),Zo 63 (.fld 2 (.t 62)),⟨none,none,.store 1 (.t 63) (.t 61),none⟩]))))) (Zq [Zo 4 (.mv (Zi 2))]
 .ret)))))))) (J_expr_reader_part_j1)))⟩
theorem J_expr_reader_part_ok : chkFn Tryz.prog 121 J_expr_reader_part = true := by kernel_rfl
def J_expr_reader_top : AFn :=
 ⟨21,[.t 2],Zq [Zo 2 (.mv (Zi 0))] (.keep [0] (.seq (.seq (.nmo 0 1 (.ops [Zm 3 0,Zo 4 (.nilck (.t 3)),Zo 5 (.fld 1 (.t 4)),Zo 6 (.load none (.t 5)),Zo 7 (.k (.len (.t 6))),Zo 8 (.bin .eql (.t 7) (Zi 0))])) (.keep [0,8] (.cond (.t 8) (Zq [Zo 2 (.mv (Zi 0))]
 .ret)
 .skip))) (.keep [0] (.seq (.nmo 0 1 (.draw [2] [Zm 9 0,Zo 10 (.nilck (.t 9)),Zo 11 (.fld 1 (.t 10)),Zo 12 (.load none (.t 11)),Zm 13 0,Zo 14 (.nilck (.t 13)),Zo 15 (.fld 1 (.t 14)),Zo 16 (.load none (.t 15)),Zo 17 (.k (.len (.t 16))),Zo 18 (.bin .sub (.t 17) (Zi 1)),Zo 19 (.k (.ix (.t 12) (.t 18))),Zo 20 (.k (.po (.t 11) (.t 19))),Zm 2 20]))
 .ret))))⟩
theorem J_expr_reader_top_ok : chkFn Tryz.prog 122 J_expr_reader_top = true := by kernel_rfl
end Go.Proofs.YtedaffmkpljlnaaGreat
/- The abstract layer: laws of the walk for rows that grow and shrink, and for calls that only look. -/
namespace Go.Proofs.YtedaffmkpljlnaaGreat
open Go.RowKit Go.Lib

theorem wop_k (P : Program) (d : Option Nat) (o : KOp) (fr : Fr) (h : Hp) (K : Fr → Hp → Prop) : wop P d (.k o) fr h K = (kF o fr h (fun a h' => K (put d a (ktk o fr)) h')) := id rfl
theorem eff_k (P : Program) (o : KOp) (fr : Fr) (h : Hp) (R : AV → Hp → Prop) : eff P (.k o) fr h R = (kF o fr h R) := id rfl
theorem tk_k (o : KOp) (fr : Fr) : tk (.k o) fr = (ktk o fr) := id rfl
theorem effF_kld (P : Program) (b : FB) (x : Opd) (fr : Fr) (h : Hp) (R : AV → Hp → Prop) : effF P b (.k (.ld x)) fr h R = (sameId (ev fr x) (fbId b fr h) ∧ kF (.ld x) fr h R) := id rfl
theorem wop_callr (P : Program) (d : Option Nat) (f : Opd) (args : List Opd) (fr : Fr) (h : Hp) (K : Fr → Hp → Prop) : wop P d (.callr f args) fr h K = (match ev fr f, evs fr args with
  | some (.fn f' caps), some l => ACalls P f' (l ++ caps) h (kcall d fr K)
  | _, _ => False) := id rfl
theorem eff_callr (P : Program) (f : Opd) (args : List Opd) (fr : Fr) (h : Hp) (R : AV → Hp → Prop) : eff P (.callr f args) fr h R = (match ev fr f, evs fr args with
  | some (.fn f' caps), some l => ∃ v, (∀ h0 : Hp, SameU h0 h → ACalls P f' (l ++ caps) h0 (fun a h' => a = v ∧ h' = h0)) ∧ R v h
  | _, _ => False) := id rfl
theorem tk_callr (f : Opd) (args : List Opd) (fr : Fr) : tk (.callr f args) fr = (fr) := id rfl
theorem kF_mk (e : Nat) (x : Opd) (fr : Fr) (h : Hp) (R : AV → Hp → Prop) : kF (.mk e x) fr h R = (match ev fr x with
  | some (.lst .clip 0 []) => R (.stk e none []) h
  | _ => False) := id rfl
theorem kF_mv (k : Nat) (fr : Fr) (h : Hp) (R : AV → Hp → Prop) : kF (.mv k) fr h R = (match lk fr k with
  | some (.stk e o l) => R (.stk e o l) h
  | _ => False) := id rfl
theorem kF_ld (x : Opd) (fr : Fr) (h : Hp) (R : AV → Hp → Prop) : kF (.ld x) fr h R = (match ev fr x with
  | some (.ptr id off) => (match h[id]? with
   | some (some (false, c)) => (match c[off]? with
    | some (.stk e o l) => R (.stk e o l) (h.set id (some (false, c.set off .opq)))
    | _ => False)
   | _ => False)
  | _ => False) := id rfl
theorem kF_st (a : Opd) (k : Nat) (fr : Fr) (h : Hp) (R : AV → Hp → Prop) : kF (.st a k) fr h R = (match ev fr a, lk fr k with
  | some (.ptr id off), some (.stk e o l) => (match h[id]? with
   | some (some (false, c)) => off < c.length ∧ R .nilp (h.set id (some (false, c.set off (.stk e o l))))
   | _ => False)
  | _, _ => False) := id rfl
theorem kF_ap (e b k : Nat) (y : Opd) (fr : Fr) (h : Hp) (R : AV → Hp → Prop) : kF (.ap e b k y) fr h R = (match lk fr k, ev fr y with
  | some (.stk e' _ l), some (.lst _ 1 [.int .i64 x]) => (e' = e ∧ l.length + 1 ≤ 9223372036854775807 ∧ (l.length + 1) * b ≤ 140737488355328) ∧ R (.stk e none (l ++ [x])) h
  | _, _ => False) := id rfl
theorem kF_cut (k : Nat) (j : Opd) (fr : Fr) (h : Hp) (R : AV → Hp → Prop) : kF (.cut k j) fr h R = (match lk fr k, ev fr j with
  | some (.stk e _ l), some (.int _ m) => (0 ≤ m ∧ m ≤ l.length) ∧ R (.stk e none (l.take m.toNat)) h
  | _, _ => False) := id rfl
theorem kF_pop (a x : Opd) (fr : Fr) (h : Hp) (R : AV → Hp → Prop) : kF (.pop a x) fr h R = (match ev fr a, ev fr x with
  | some (.ptr id off), some (.raw v n) => (match h[id]? with
   | some (some (false, c)) => (match c[off]? with
    | some (.stk e (some u) l) => (n ≤ l.length ∧ v = cutV u n) ∧ R .nilp (h.set id (some (false, c.set off (.stk e (some v) (l.take n)))))
    | _ => False)
   | _ => False)
  | _, _ => False) := id rfl
theorem kF_pk (k : Nat) (x : Opd) (fr : Fr) (h : Hp) (R : AV → Hp → Prop) : kF (.pk k x) fr h R = (match lk fr k, ev fr x with
  | some (.stk _ (some u) l), some (.rawp v i) => (v = u ∧ i < l.length) ∧ R (.int .i64 (l.getD i 0)) h
  | _, _ => False) := id rfl
theorem kF_po (a x : Opd) (fr : Fr) (h : Hp) (R : AV → Hp → Prop) : kF (.po a x) fr h R = (match ev fr a, ev fr x with
  | some (.ptr id off), some (.rawp v i) => (match h[id]? with
   | some (some (false, c)) => (match c[off]? with
    | some (.stk _ (some u) l) => (v = u ∧ i < l.length) ∧ R (.int .i64 (l.getD i 0)) h
    | _ => False)
   | _ => False)
  | _, _ => False) := id rfl
theorem kF_len (x : Opd) (fr : Fr) (h : Hp) (R : AV → Hp → Prop) : kF (.len x) fr h R = (match ev fr x with
  | some (.raw _ n) => R (.int .i64 n) h
  | _ => False) := id rfl
theorem kF_sl (x j : Opd) (fr : Fr) (h : Hp) (R : AV → Hp → Prop) : kF (.sl x j) fr h R = (match ev fr x, ev fr j with
  | some (.raw v n), some (.int _ m) => (0 ≤ m ∧ m ≤ n) ∧ R (.raw (cutV v m.toNat) m.toNat) h
  | _, _ => False) := id rfl
theorem kF_ix (x i : Opd) (fr : Fr) (h : Hp) (R : AV → Hp → Prop) : kF (.ix x i) fr h R = (match ev fr x, ev fr i with
  | some (.raw v n), some (.int _ i) => (0 ≤ i ∧ i < n) ∧ R (.rawp v i.toNat) h
  | _, _ => False) := id rfl
theorem kF_new (l : List AV) (u : List (Nat × Nat × Nat)) (ks : List (Nat × Nat)) (fr : Fr) (h : Hp) (R : AV → Hp → Prop) : kF (.new l u ks) fr h R = (upgK u l (fun l' => ksetK ks l' (fun l'' => R (.ptr h.length 0) (h ++ [some (false, l'')])))) := id rfl
theorem ksetK_nil (l : List AV) (K : List AV → Prop) : ksetK [] l K = (K l) := id rfl
theorem ksetK_cons (i e : Nat) (r : List (Nat × Nat)) (l : List AV) (K : List AV → Prop) : ksetK ((i, e) :: r) l K = (match l[i]? with
  | some (.lst .clip 0 []) => ksetK r (l.set i (.stk e none [])) K
  | _ => False) := id rfl
theorem ktk_mk (e : Nat) (x : Opd) (fr : Fr) : ktk (.mk e x) fr = (fr) := id rfl
theorem ktk_mv (k : Nat) (fr : Fr) : ktk (.mv k) fr = (degr k fr) := id rfl
theorem ktk_ld (x : Opd) (fr : Fr) : ktk (.ld x) fr = (fr) := id rfl
theorem ktk_st (a : Opd) (k : Nat) (fr : Fr) : ktk (.st a k) fr = (degr k fr) := id rfl
theorem ktk_ap (e b k : Nat) (y : Opd) (fr : Fr) : ktk (.ap e b k y) fr = (degr k fr) := id rfl
theorem ktk_cut (k : Nat) (j : Opd) (fr : Fr) : ktk (.cut k j) fr = (degr k fr) := id rfl
theorem ktk_pop (a x : Opd) (fr : Fr) : ktk (.pop a x) fr = (fr) := id rfl
theorem ktk_pk (k : Nat) (x : Opd) (fr : Fr) : ktk (.pk k x) fr = (fr) := id rfl
theorem ktk_po (a x : Opd) (fr : Fr) : ktk (.po a x) fr = (fr) := id rfl
theorem ktk_len (x : Opd) (fr : Fr) : ktk (.len x) fr = (fr) := id rfl
theorem ktk_sl (x j : Opd) (fr : Fr) : ktk (.sl x j) fr = (fr) := id rfl
theorem ktk_ix (x i : Opd) (fr : Fr) : ktk (.ix x i) fr = (fr) := id rfl
theorem ktk_new (l : List AV) (u : List (Nat × Nat × Nat)) (ks : List (Nat × Nat)) (fr : Fr) : ktk (.new l u ks) fr = (fr) := id rfl
theorem W_nms (P : Program) (k : Nat) (a : ACode) (fr : Fr) (h : Hp) (Q : Exit → Fr → Hp → Prop) : W P (.nms k a) fr h Q = (match lk fr k with
  | some (.stk e none l) => ∀ v, W P a ((k, .stk e (some v) l) :: fr) h Q
  | _ => W P a fr h Q) := id rfl
theorem W_nmo (P : Program) (k off : Nat) (a : ACode) (fr : Fr) (h : Hp) (Q : Exit → Fr → Hp → Prop) : W P (.nmo k off a) fr h Q = (match lk fr k with
  | some (.ptr id _) => (match h[id]? with
   | some (some (false, c)) => (match c[off]? with
    | some (.stk e none l) => ∀ v, W P a fr (h.set id (some (false, c.set off (.stk e (some v) l)))) Q
    | _ => W P a fr h Q)
   | _ => W P a fr h Q)
  | _ => W P a fr h Q) := id rfl
theorem deg_stks (e : TypeId) (v : Value) (l : List Int) : deg (.stk e (some v) l) = (.raw v l.length) := id rfl
theorem deg_stkn (e : TypeId) (l : List Int) : deg (.stk e none l) = (.opq) := id rfl
theorem deg_raw (v : Value) (n : Nat) : deg (.raw v n) = (.raw v n) := id rfl
theorem isTup_raw (v : Value) (n : Nat) : isTup (.raw v n) = (false) := id rfl
theorem cellsOf_raw (v : Value) (n : Nat) : cellsOf (.raw v n) = ([.raw v n]) := id rfl
theorem deg_rawp (v : Value) (n : Nat) : deg (.rawp v n) = (.rawp v n) := id rfl
theorem isTup_rawp (v : Value) (n : Nat) : isTup (.rawp v n) = (false) := id rfl
theorem cellsOf_rawp (v : Value) (n : Nat) : cellsOf (.rawp v n) = ([.rawp v n]) := id rfl
theorem Sim.unname {P : Program} {g : Gh} {h : Hp} {w : World} {id off : Nat} {c : List AV} {e : TypeId} {u : Value} {l : List Int} (hl : h[id]? = some (some (false, c))) (hc : c[off]? = some (.stk e none l)) (hs : Sim P g (h.set id (some (false, c.set off (.stk e (some u) l)))) w) : Sim P g h w := by
 have hidlt : id < h.length := (List.getElem?_eq_some_iff.1 hl).1
 have hofflt : off < c.length := (List.getElem?_eq_some_iff.1 hc).1
 have hat : (h.set id (some (false, c.set off (.stk e (some u) l))))[id]? = some (some (false, c.set off (.stk e (some u) l))) := by simp [hidlt]
 refine ⟨hs.prot, ?_, hs.inj, fun i b hb => by have := hs.dom i b hb; rw [List.length_set] at this; exact this, hs.flt, hs.olt, fun i hi => hs.hole i ?_, hs.fro⟩
 ·intro id' s l' hl'
  by_cases e1 : id' = id
  ·subst e1
   rw [hl] at hl'
   simp only [Option.some.injEq, Prod.mk.injEq] at hl'
   obtain ⟨rfl, rfl⟩ := hl'
   obtain ⟨b, arr, e', p1, p2, p3, p4, p5, p6, p7, p8, p9⟩ := hs.obj id' false _ hat
   have hx : (c.set off (.stk e (some u) l))[off]? = some (.stk e (some u) l) := by simp [hofflt]
   obtain ⟨v, hv, hr⟩ := p3.get off _ hx
   obtain ⟨a, cc, rfl, q1, q2, q3⟩ := stk_slice hr
   have hcc : (c.set off (.stk e (some u) l)).set off (.stk e none l) = c := by
    rw [List.set_set]
    apply List.ext_getElem?
    intro j
    rw [List.getElem?_set]
    split
    ·next ej => subst ej; first | rw [hc] | rw [if_pos hofflt, hc]
    ·rfl
   have hrl := p3.setR off hv (.stk a cc e none l q1 q2 (fun v h => by cases h))
   rw [hcc] at hrl
   refine ⟨b, arr, e', p1, p2, hrl, p4, fun i x y hx2 hy => ?_, p6, (fun h => by cases h), p8, p9⟩
   by_cases ei : i = off
   ·subst ei
    rw [hc] at hy
    simp only [Option.some.injEq] at hy
    subst hy
    have hq := p5 i x _ hx2 hx
    exact hq
   ·exact p5 i x y hx2 (by rw [List.getElem?_set_ne (fun e => ei e.symm)]; exact hy)
  ·exact hs.obj id' s l' (by rw [List.getElem?_set_ne (fun e => e1 e.symm)]; exact hl')
 ·rw [List.getElem?_set_ne (fun e => by subst e; rw [hl] at hi; cases hi)]
  exact hi
theorem ACalls.unname {P : Program} {f : FuncId} {args : List AV} {h : Hp} {R : AV → Prop} {id off : Nat} {c : List AV} {e : TypeId} {l : List Int} (hl : h[id]? = some (some (false, c))) (hc : c[off]? = some (.stk e none l))
  (hA : ACalls P f args h (fun a h' => (∃ u, h' = h.set id (some (false, c.set off (.stk e (some u) l)))) ∧ R a)) : ACalls P f args h (fun a h' => R a ∧ h' = h) :=
 ⟨hA.1, fun g w vargs h1 h2 h3 h4 => (hA.2 g w vargs h1 h2 h3 h4).mono fun _ _ ⟨x, a, h', g', q1, q2, q3, q4, q5, q6, ⟨u, q7⟩, q8⟩ => ⟨x, a, h, g', q1, q2, Sim.unname hl hc (by rw [← q7]; exact q3), q4, q5, q6, q8, rfl⟩⟩
theorem wkr : type_of% (And.intro (And.intro (And.intro (And.intro (And.intro (@wop_k) (@eff_k)) (And.intro (@tk_k) (And.intro (@effF_kld) (@wop_callr)))) (And.intro (And.intro (@eff_callr) (And.intro (@tk_callr) (@kF_mk))) (And.intro (@kF_mv) (And.intro (@kF_ld) (@kF_st))))) (And.intro (And.intro (And.intro (@kF_ap) (@kF_cut)) (And.intro (@kF_pop) (And.intro (@kF_pk) (@kF_po)))) (And.intro (And.intro (@kF_len) (And.intro (@kF_sl) (@kF_ix))) (And.intro (@kF_new) (And.intro (@ksetK_nil) (@ksetK_cons)))))) (And.intro (And.intro (And.intro (And.intro (@ktk_mk) (@ktk_mv)) (And.intro (@ktk_ld) (And.intro (@ktk_st) (@ktk_ap)))) (And.intro (And.intro (@ktk_cut) (And.intro (@ktk_pop) (@ktk_pk))) (And.intro (@ktk_po) (And.intro (@ktk_len) (@ktk_sl))))) (And.intro (And.intro (And.intro (@ktk_ix) (And.intro (@ktk_new) (@W_nms))) (And.intro (@W_nmo) (And.intro (@deg_stks) (@deg_stkn)))) (And.intro (And.intro (@deg_raw) (And.intro (@isTup_raw) (@cellsOf_raw))) (And.intro (@deg_rawp) (And.intro (@isTup_rawp) (@cellsOf_rawp))))))) :=
 And.intro (And.intro (And.intro (And.intro (And.intro (@wop_k) (@eff_k)) (And.intro (@tk_k) (And.intro (@effF_kld) (@wop_callr)))) (And.intro (And.intro (@eff_callr) (And.intro (@tk_callr) (@kF_mk))) (And.intro (@kF_mv) (And.intro (@kF_ld) (@kF_st))))) (And.intro (And.intro (And.intro (@kF_ap) (@kF_cut)) (And.intro (@kF_pop) (And.intro (@kF_pk) (@kF_po)))) (And.intro (And.intro (@kF_len) (And.intro (@kF_sl) (@kF_ix))) (And.intro (@kF_new) (And.intro (@ksetK_nil) (@ksetK_cons)))))) (And.intro (And.intro (And.intro (And.intro (@ktk_mk) (@ktk_mv)) (And.intro (@ktk_ld) (And.intro (@ktk_st) (@ktk_ap)))) (And.intro (And.intro (@ktk_cut) (And.intro (@ktk_pop) (@ktk_pk))) (And.intro (@ktk_po) (And.intro (@ktk_len) (@ktk_sl))))) (And.intro (And.intro (And.intro (@ktk_ix) (And.intro (@ktk_new) (@W_nms))) (And.intro (@W_nmo) (And.intro (@deg_stks) (@deg_stkn)))) (And.intro (And.intro (@deg_raw) (And.intro (@isTup_raw) (@cellsOf_raw))) (And.intro (@deg_rawp) (And.intro (@isTup_rawp) (@cellsOf_rawp))))))
def mayL (l : List UInt8) : Bool := decide (1 ≤ l.length) && (decide (l.length ≤ 24) && (lttI ((l.headD 0).toNat) && l.all fun b => innI b.toNat))
def mayN (s : ByteArray) : Bool := mayL s.data.toList
theorem mayL_bad {l : List UInt8} {i : Nat} (h : i < l.length) (hb : innI (l[i]).toNat = false) : mayL l = false := by
 have : l.all (fun b => innI b.toNat) = false := by
  rw [List.all_eq_false]; exact ⟨_, List.getElem_mem h, fun h2 => by rw [hb] at h2; cases h2⟩
 unfold mayL
 rw [this]; simp
theorem headD_get {l : List UInt8} (h : 0 < l.length) : l.headD 0 = l[0] := by
 cases l with
 | nil => simp at h
 | cons b r => rfl
theorem p_amay (s : ByteArray) (hs : s.size ≤ 9223372036854775807) : PCalls Tryz.prog 84 [.str s] (.bool (mayN s)) := by
 have hl := len_size s
 have no : mayN s = false → AV.bool false = .bool (mayN s) := fun h => by rw [h]
 refine pcalls_of (by first | rfl | simp [free, free.frees, frees_str, frees_u8, frees_u16]) (by first | rfl | simp [free, free.frees, frees_str, frees_u8, frees_u16]) (acalls_of mixed J_atom_May_ok (Nat.le_of_ble_eq_true rfl) ?_); simp only [J_atom_May, wk,Nat.reduceEqDiff,reduceCtorEq,↓reduceIte]
 refine ⟨fun h1 => ⟨fun h2 => no ?_, fun h2 => ?_⟩, fun h1 => no ?_⟩
 ·have : ¬ s.data.toList.length ≤ 24 := by omega
  unfold mayN mayL; rw [decide_eq_false this]; simp only [Bool.false_and, Bool.and_false]
 rotate_left
 ·have : ¬ 1 ≤ s.data.toList.length := by omega
  unfold mayN mayL; rw [decide_eq_false this]; simp only [Bool.false_and]
 refine W_loop (fun m fr h' => ∃ n : Nat, n ≤ s.data.toList.length ∧ m = s.data.toList.length - n ∧ fr = [(0, .str s), (3, .int .i64 n)] ∧ (∀ b ∈ s.data.toList.take n, innI b.toNat = true) ∧ (0 < n → lttI ((s.data.toList.headD 0).toNat) = true)) s.data.toList.length ⟨0, by omega, by omega, rfl, by simp, by simp⟩ ?_
 rintro m fr h' ⟨n, hn, rfl, rfl, hall, hhd⟩
 simp only [J_atom_May_j3, wk,ne_eq,eq_self,Nat.reduceEqDiff,reduceCtorEq,↓reduceIte]
 refine ⟨fun hlt => ⟨⟨by omega, by omega⟩, ?_⟩, fun hge => ?_⟩
 ·have hnl : n < s.data.toList.length := by omega
  rw [Int.toNat_natCast, byte_at hnl]
  obtain ⟨b, hb⟩ : ∃ b, b = s.data.toList[n] := ⟨_, rfl⟩
  rw [← hb]
  have hnx : innI b.toNat = true → (n = 0 → lttI b.toNat = true) → inR ((n : Int) + 1) ∧ ∃ m, m < s.data.toList.length - n ∧ ∃ n' : Nat, n' ≤ s.data.toList.length ∧ m = s.data.toList.length - n' ∧ [(0, AV.str s), (3, .int .i64 ((n : Int) + 1))] = [(0, .str s), (3, .int .i64 n')] ∧ (∀ b ∈ s.data.toList.take n', innI b.toNat = true) ∧ (0 < n' → lttI ((s.data.toList.headD 0).toNat) = true) := fun hi hz =>
   ⟨inR_of (by omega) (by omega), s.data.toList.length - (n + 1), by omega, n + 1, by omega, rfl, by simp, fun c hc => by
    rw [List.take_succ_eq_append_getElem hnl] at hc
    rcases List.mem_append.1 hc with hc | hc
    ·exact hall c hc
    ·simp at hc; subst hc; rw [hb] at hi; simpa using hi, fun _ => by
    rcases Nat.eq_zero_or_pos n with h0 | h0
    ·subst h0; rw [headD_get (by omega), ← hb]; exact hz rfl
    ·exact hhd h0⟩
  have hbad : innI b.toNat = false → mayN s = false := fun h => mayL_bad hnl (by rw [← hb]; exact h)
  have hbad0 : n = 0 → lttI b.toNat = false → mayN s = false := fun h0 h => by
   subst h0
   unfold mayN mayL
   rw [headD_get (by omega), ← hb, h]
   simp only [Bool.false_and, Bool.and_false]
  repeat' (first | (with_reducible refine And.intro ?_ ?_) | intro _)
  all_goals first
   | (simp only [J_atom_May_j2, wk,reduceCtorEq,↓reduceIte]; exact hnx (by simp [innI, digI, lttI]; omega) (by intro _; simp [lttI]; omega))
   | exact no (hbad (by simp [innI, digI, lttI]; omega))
   | exact no (hbad0 (by omega) (by simp [lttI]; omega))
 ·rw [List.take_of_length_le (by omega)] at hall
  simp only [J_atom_May_j1, wk,↓reduceIte]
  congr 1
  symm
  unfold mayN mayL
  have h3 := hhd (by omega)
  have h4 : s.data.toList.all (fun b => innI b.toNat) = true := List.all_eq_true.2 hall
  simp only [h3, h4, Bool.and_true, Bool.and_eq_true, decide_eq_true_eq]
  omega
theorem p_rmay01 (s : ByteArray) (hs : s.size ≤ 9223372036854775807) : PCalls Tryz.prog 77 [.str s] (.bool (mayN s)) := by
 have hl := len_size s
 have no : mayN s = false → AV.bool false = .bool (mayN s) := fun h => by rw [h]
 refine pcalls_of (by first | rfl | simp [free, free.frees, frees_str, frees_u8, frees_u16]) (by first | rfl | simp [free, free.frees, frees_str, frees_u8, frees_u16]) (acalls_of mixed J_ref01_May_ok (Nat.le_of_ble_eq_true rfl) ?_); simp only [J_ref01_May, wk,Nat.reduceEqDiff,reduceCtorEq,↓reduceIte]
 refine ⟨fun h1 => ⟨fun h2 => no ?_, fun h2 => ?_⟩, fun h1 => no ?_⟩
 ·have : ¬ s.data.toList.length ≤ 24 := by omega
  unfold mayN mayL; rw [decide_eq_false this]; simp only [Bool.false_and, Bool.and_false]
 rotate_left
 ·have : ¬ 1 ≤ s.data.toList.length := by omega
  unfold mayN mayL; rw [decide_eq_false this]; simp only [Bool.false_and]
 refine W_loop (fun m fr h' => ∃ n : Nat, n ≤ s.data.toList.length ∧ m = s.data.toList.length - n ∧ fr = [(0, .str s), (3, .int .i64 n)] ∧ (∀ b ∈ s.data.toList.take n, innI b.toNat = true) ∧ (0 < n → lttI ((s.data.toList.headD 0).toNat) = true)) s.data.toList.length ⟨0, by omega, by omega, rfl, by simp, by simp⟩ ?_
 rintro m fr h' ⟨n, hn, rfl, rfl, hall, hhd⟩
 simp only [J_ref01_May_j2, wk,ne_eq,eq_self,Nat.reduceEqDiff,reduceCtorEq,↓reduceIte]
 refine ⟨fun hlt => ⟨⟨by omega, by omega⟩, ?_⟩, fun hge => ?_⟩
 ·have hnl : n < s.data.toList.length := by omega
  rw [Int.toNat_natCast, byte_at hnl]
  obtain ⟨b, hb⟩ : ∃ b, b = s.data.toList[n] := ⟨_, rfl⟩
  rw [← hb]
  have hnx : innI b.toNat = true → (n = 0 → lttI b.toNat = true) → inR ((n : Int) + 1) ∧ ∃ m, m < s.data.toList.length - n ∧ ∃ n' : Nat, n' ≤ s.data.toList.length ∧ m = s.data.toList.length - n' ∧ [(0, AV.str s), (3, .int .i64 ((n : Int) + 1))] = [(0, .str s), (3, .int .i64 n')] ∧ (∀ b ∈ s.data.toList.take n', innI b.toNat = true) ∧ (0 < n' → lttI ((s.data.toList.headD 0).toNat) = true) := fun hi hz =>
   ⟨inR_of (by omega) (by omega), s.data.toList.length - (n + 1), by omega, n + 1, by omega, rfl, by simp, fun c hc => by
    rw [List.take_succ_eq_append_getElem hnl] at hc
    rcases List.mem_append.1 hc with hc | hc
    ·exact hall c hc
    ·simp at hc; subst hc; rw [hb] at hi; simpa using hi, fun _ => by
    rcases Nat.eq_zero_or_pos n with h0 | h0
    ·subst h0; rw [headD_get (by omega), ← hb]; exact hz rfl
    ·exact hhd h0⟩
  have hbad : innI b.toNat = false → mayN s = false := fun h => mayL_bad hnl (by rw [← hb]; exact h)
  have hbad0 : n = 0 → lttI b.toNat = false → mayN s = false := fun h0 h => by
   subst h0
   unfold mayN mayL
   rw [headD_get (by omega), ← hb, h]
   simp only [Bool.false_and, Bool.and_false]
  repeat' (first | (with_reducible refine And.intro ?_ ?_) | intro _)
  all_goals first
   | exact no (hbad (by simp [innI, digI, lttI]; omega))
   | exact no (hbad0 (by omega) (by simp [lttI]; omega))
   | exact (hnx (by simp [innI, digI, lttI]; omega) (by intro _; simp [lttI]; omega)).1
   | exact (hnx (by simp [innI, digI, lttI]; omega) (by intro _; simp [lttI]; omega)).2
 ·rw [List.take_of_length_le (by omega)] at hall
  simp only [J_ref01_May_j1, wk,↓reduceIte]
  congr 1
  symm
  unfold mayN mayL
  have h3 := hhd (by omega)
  have h4 : s.data.toList.all (fun b => innI b.toNat) = true := List.all_eq_true.2 hall
  simp only [h3, h4, Bool.and_true, Bool.and_eq_true, decide_eq_true_eq]
  omega
def signsS : ByteArray := ⟨#[61, 44, 59, 60, 62, 33, 63, 42]⟩
theorem find_sign : ∀ n : Fin 256, decide (0 ≤ indexByte signsS.data.toList (UInt8.ofNat n)) = sigB n := by decide +kernel
theorem p_ibyte (s : ByteArray) (c : Int) : PCalls Tryz.prog 156 [.str s, .int .u8 c] (.int .i64 (indexByte s.data.toList c.toNat.toUInt8)) := by
 refine pcalls_of (by first | rfl | simp [free, free.frees, frees_str, frees_u8, frees_u16]) (by first | rfl | simp [free, free.frees, frees_str, frees_u8, frees_u16]) (acalls_of mixed J_internal_stringslite_IndexByte_ok (Nat.le_of_ble_eq_true rfl) ?_); simp only [J_internal_stringslite_IndexByte, wk,Nat.reduceEqDiff,Nat.reduceAdd,reduceCtorEq,↓reduceIte]
theorem p_sibyte (s : ByteArray) (c : Int) : PCalls Tryz.prog 152 [.str s, .int .u8 c] (.int .i64 (indexByte s.data.toList c.toNat.toUInt8)) := by
 refine pcalls_of (by first | rfl | simp [free, free.frees, frees_str, frees_u8, frees_u16]) (by first | rfl | simp [free, free.frees, frees_str, frees_u8, frees_u16]) (acalls_of mixed J_strings_IndexByte_ok (Nat.le_of_ble_eq_true rfl) ?_); simp only [J_strings_IndexByte, wk,Nat.reduceEqDiff,Nat.reduceAdd,reduceCtorEq,↓reduceIte]
 refine PCalls.use (p_ibyte s c) ?_; simp only [wk,↓reduceIte]
theorem p_lindex (s x : ByteArray) (hx : x.size = 1) : PCalls Tryz.prog 146 [.str s, .str x] (.int .i64 (indexByte s.data.toList (byteAt x 0).toUInt8)) := by
 obtain ⟨b, rfl⟩ := one_byte hx
 have e0 : byteAt ⟨#[b]⟩ 0 = b.toNat := rfl
 refine pcalls_of (by first | rfl | simp [free, free.frees, frees_str, frees_u8, frees_u16]) (by first | rfl | simp [free, free.frees, frees_str, frees_u8, frees_u16]) (acalls_of mixed J_internal_stringslite_Index_ok (Nat.le_of_ble_eq_true rfl) ?_); simp only [J_internal_stringslite_Index, wk,Nat.reduceEqDiff,Nat.reduceAdd,Int.reduceLE,Int.reduceNeg,reduceCtorEq,↓reduceIte]
 rw [e0]
 have e1 : ((⟨#[b]⟩ : ByteArray).size : Int) = 1 := rfl
 have q := p_ibyte s b.toNat
 rw [Int.toNat_natCast] at q
 refine ⟨fun _ => ⟨fun h => ?_, fun h => ⟨fun _ => ⟨by omega, PCalls.use q ?_⟩, fun h => absurd e1 h⟩⟩, fun h => by omega⟩
 ·rw [← h]
  have : b.toNat.toUInt8 = b := by simp
  simp [indexByte, this]
 ·simp only [wk,↓reduceIte]
theorem p_sindex (s x : ByteArray) (hx : x.size = 1) : PCalls Tryz.prog 129 [.str s, .str x] (.int .i64 (indexByte s.data.toList (byteAt x 0).toUInt8)) := by
 refine pcalls_of (by first | rfl | simp [free, free.frees, frees_str, frees_u8, frees_u16]) (by first | rfl | simp [free, free.frees, frees_str, frees_u8, frees_u16]) (acalls_of mixed J_strings_Index_ok (Nat.le_of_ble_eq_true rfl) ?_); simp only [J_strings_Index, wk,Nat.reduceEqDiff,Nat.reduceAdd,reduceCtorEq,↓reduceIte]
 refine PCalls.use (p_lindex s x hx) ?_; simp only [wk,↓reduceIte]
theorem sign_find (n : Nat) (h : n < 256) : decide (0 ≤ indexByte signsS.data.toList n.toUInt8) = sigB n := by
 have := find_sign ⟨n, h⟩
 simpa using this
theorem p_contains1 (x : ByteArray) (hx : x.size = 1) : PCalls Tryz.prog 108 [.str signsS, .str x] (.bool (sigB (byteAt x 0))) := by
 obtain ⟨b, rfl⟩ := one_byte hx
 have e0 : byteAt ⟨#[b]⟩ 0 = b.toNat := rfl
 have hf := sign_find b.toNat b.toNat_lt
 refine pcalls_of (by first | rfl | simp [free, free.frees, frees_str, frees_u8, frees_u16]) (by first | rfl | simp [free, free.frees, frees_str, frees_u8, frees_u16]) (acalls_of mixed J_strings_Contains_ok (Nat.le_of_ble_eq_true rfl) ?_); simp only [J_strings_Contains, wk,Nat.reduceEqDiff,Nat.reduceAdd,reduceCtorEq,↓reduceIte]
 refine PCalls.use (p_sindex signsS ⟨#[b]⟩ hx) ?_; simp only [wk,↓reduceIte]
 rw [e0, ← hf]
theorem p_validRune (r : Int) : PCalls Tryz.prog 153 [.int .i32 r] (.bool ((decide (0 ≤ r) && decide (r < 55296)) || (decide (57343 < r) && decide (r ≤ 1114111)))) := by
 refine pcalls_of (by first | rfl | simp [free, free.frees, frees_str, frees_u8, frees_u16]) (by first | rfl | simp [free, free.frees, frees_str, frees_u8, frees_u16]) (acalls_of mixed J_unicode_utf8_ValidRune_ok (Nat.le_of_ble_eq_true rfl) ?_); simp only [J_unicode_utf8_ValidRune, wk,Nat.reduceEqDiff,reduceCtorEq,↓reduceIte]
 repeat' (first | (with_reducible refine And.intro ?_ ?_) | intro _)
 all_goals (congr 1; simp_all; try omega)
theorem ibyte_no {c : UInt8} (hc : 128 ≤ c.toNat) : ∀ {l : List UInt8}, (∀ b ∈ l, b.toNat < 128) → indexByte l c = -1
 | [], _ => rfl
 | b :: l, h => by
  have h1 := h b (by simp)
  have h2 := ibyte_no hc (l := l) (fun x hx => h x (by simp [hx]))
  have h3 : (b == c) = false := by
   rw [beq_eq_false_iff_ne]; intro e; subst e; omega
  simp [indexByte, h2, h3]
theorem enc_hi {r : Int} (h0 : 128 ≤ r) (h1 : r ≤ 1114111) (hv : Utf8.valid r = true) : 2 ≤ (Utf8.encode r).size ∧ (Utf8.encode r).size ≤ 4 ∧ 128 ≤ byteAt (Utf8.encode r) ((Utf8.encode r).size - 1) ∧ byteAt (Utf8.encode r) ((Utf8.encode r).size - 1) < 256 := by
 have e : (if Utf8.valid r = true then r.toNat else Utf8.runeError) = r.toNat := if_pos hv
 have h80 : ∀ n : Nat, 128 ≤ (UInt8.ofNat (128 + n % 64)).toNat ∧ (UInt8.ofNat (128 + n % 64)).toNat < 256 := fun n => by
  rw [UInt8.toNat_ofNat']; omega
 unfold Utf8.encode
 simp only [e]
 rw [if_neg (by omega)]
 split
 ·exact ⟨Nat.le_of_ble_eq_true rfl, Nat.le_of_ble_eq_true rfl, h80 _⟩
 ·split
  ·exact ⟨Nat.le_of_ble_eq_true rfl, Nat.le_of_ble_eq_true rfl, h80 _⟩
  ·exact ⟨Nat.le_of_ble_eq_true rfl, Nat.le_of_ble_eq_true rfl, h80 _⟩
theorem signs_lo : ∀ b ∈ signsS.data.toList, b.toNat < 128 := by decide
theorem p_indexRune (r : Int) (h0 : 0 ≤ r) (h1 : r ≤ 1114111) (hv : 128 ≤ r → Utf8.valid r = true) : PCalls Tryz.prog 142 [.str signsS, .int .i32 r] (.int .i64 (if r < 128 then indexByte signsS.data.toList r.toNat.toUInt8 else -1)) := by
 refine pcalls_of (by first | rfl | simp [free, free.frees, frees_str, frees_u8, frees_u16]) (by first | rfl | simp [free, free.frees, frees_str, frees_u8, frees_u16]) (acalls_of mixed J_strings_IndexRune_ok (Nat.le_of_ble_eq_true rfl) ?_); simp only [J_strings_IndexRune, wk,Nat.reduceEqDiff,Nat.reduceAdd,Int.reduceNeg,reduceCtorEq,↓reduceIte]
 refine ⟨fun _ => ⟨fun hlt => ?_, fun hge => ⟨fun h65 => ?_, fun h65 => ?_⟩⟩, fun hn => absurd h0 hn⟩
 ·have hw : IntKind.u8.wrap r = r := by rw [IntKind.wrap_u8]; omega
  rw [hw]
  refine PCalls.use (p_sibyte signsS r) ?_; simp only [wk,Int.reduceNeg,↓reduceIte]
  rw [if_pos hlt]
 ·rw [if_neg hge]
  refine W_loop (fun m fr h' => ∃ p : Nat, p ≤ signsS.data.toList.length ∧ m = signsS.data.toList.length - p ∧ fr = [(175, .itr signsS p)]) 8 ⟨0, by omega, by decide, rfl⟩ ?_
  rintro m fr h' ⟨p, hp, rfl, rfl⟩
  have hl := len_size signsS
  simp only [J_strings_IndexRune_j2, wk,Nat.reduceEqDiff,Int.reduceNeg,↓reduceIte]
  refine ⟨fun hlt => ?_, fun hge2 => ?_⟩
  ·have hpl : p < signsS.data.toList.length := by omega
   have hlo := signs_lo _ (List.getElem_mem hpl)
   rw [dec_lt hpl hlo]
   refine ⟨fun h => ?_, fun _ => ?_⟩
   ·exfalso; simp only at h; omega
   ·exact ⟨signsS.data.toList.length - (p + 1), by omega, p + 1, by omega, rfl, rfl⟩
  ·simp only [J_strings_IndexRune_j1, wk,Int.reduceNeg,↓reduceIte]
 ·rw [if_neg hge]
  have hv' := hv (by omega)
  have qv := p_validRune r
  rw [show ((decide (0 ≤ r) && decide (r < 55296)) || (decide (57343 < r) && decide (r ≤ 1114111))) = true by
   unfold Utf8.valid at hv'
   simp only [Bool.or_eq_true, Bool.and_eq_true, decide_eq_true_eq] at hv' ⊢
   omega] at qv
  obtain ⟨g1, g2, g3, g4⟩ := enc_hi (by omega) h1 hv'
  obtain ⟨E, hE⟩ : ∃ E, E = Utf8.encode r := ⟨_, rfl⟩
  rw [← hE] at g1 g2 g3 g4
  refine PCalls.use (qv) ?_; simp only [wk,Nat.reduceEqDiff,Int.reduceNeg,reduceCtorEq,↓reduceIte]
  rw [← hE]
  refine ⟨inR_of (by omega) (by omega), ?_⟩
  refine W_loop (fun m fr h' => fr = [(0, .str signsS), (7, .str E), (8, .int .i64 (E.size - 1)), (9, .int .i64 (E.size - 1))]) 0 rfl ?_
  rintro m fr h' rfl
  have hs8 : signsS.size = 8 := rfl
  have hl := len_size signsS
  have e1 : ((E.size : Int) - 1).toNat = E.size - 1 := by omega
  have e2 : ((E.size : Int) - 1 + 1).toNat = E.size := by omega
  have hlo := signs_lo _ (List.getElem_mem (show E.size - 1 < signsS.data.toList.length by omega))
  have hne : ((byteAt signsS (E.size - 1) : Nat) : Int) ≠ (byteAt E (E.size - 1) : Nat) := by
   rw [byte_at (show E.size - 1 < signsS.data.toList.length by omega)]; omega
  simp only [J_strings_IndexRune_j12, e1, e2, hs8, hne, wk,ne_eq,eq_self,Nat.reduceEqDiff,Int.reduceNeg,reduceCtorEq,↓reduceIte]
  have qi := p_sibyte (signsS.extract E.size ((8 : Nat) : Int).toNat) (byteAt E (E.size - 1))
  rw [ibyte_no (by rw [Int.toNat_natCast]; rw [show (byteAt E (E.size - 1)).toUInt8.toNat = byteAt E (E.size - 1) by simp; omega]; exact g3) (fun b hb => by
   refine signs_lo b ?_
   simp only [ByteArray.data_extract, Array.toList_extract, List.extract_eq_take_drop] at hb
   exact List.mem_of_mem_drop (List.mem_of_mem_take hb))] at qi
  refine ⟨fun _ => ⟨⟨by omega, by omega⟩, ⟨by omega, by omega⟩, inR_of (by omega) (by omega), ⟨by omega, by omega, by omega⟩, ⟨by omega, by omega⟩, _, qi, ?_⟩, fun h => absurd (by omega) h⟩
  simp only [wk,Nat.reduceEqDiff,Int.reduceLT,Int.reduceNeg,reduceCtorEq,↓reduceIte]
theorem p_containsRune (r : Int) (h0 : 0 ≤ r) (h1 : r ≤ 1114111) (hv : 128 ≤ r → Utf8.valid r = true) : PCalls Tryz.prog 116 [.str signsS, .int .i32 r] (.bool (sigB r.toNat)) := by
 refine pcalls_of (by first | rfl | simp [free, free.frees, frees_str, frees_u8, frees_u16]) (by first | rfl | simp [free, free.frees, frees_str, frees_u8, frees_u16]) (acalls_of mixed J_strings_ContainsRune_ok (Nat.le_of_ble_eq_true rfl) ?_); simp only [J_strings_ContainsRune, wk,Nat.reduceEqDiff,Nat.reduceAdd,reduceCtorEq,↓reduceIte]
 refine PCalls.use (p_indexRune r h0 h1 hv) ?_; simp only [wk,Int.reduceNeg,↓reduceIte]
 by_cases hlt : r < 128
 ·rw [if_pos hlt]
  have := sign_find r.toNat (by omega)
  rw [this]
 ·rw [if_neg hlt]
  have : sigB r.toNat = false := by simp [sigB]; omega
  rw [this]
  rfl
theorem stop_all {q : Int → Bool} {l : List UInt8} : (stopN q l = l.length) ↔ l.all (fun b => q b.toNat) = true := by
 rw [List.all_eq_true]
 constructor
 ·intro h b hb
  obtain ⟨i, hi, rfl⟩ := List.mem_iff_getElem.1 hb
  exact stopN_at hi (by omega)
 ·intro h
  unfold stopN
  exact tw_len (Nat.le_refl _) (by rw [List.take_length]; exact h) (fun h => by omega)
theorem p_number (s : ByteArray) (hs : s.size ≤ 1000000) : PCalls Tryz.prog 107 [.str s] (.bool (numW s)) := by
 have hl := len_size s
 have q := p_stop (f := 117) p_digit hi_dig s 0 hs (by omega)
 rw [List.drop_zero] at q
 have hst := stop_all (q := digI) (l := s.data.toList)
 have no : numW s = false → AV.bool false = .bool (numW s) := fun h => by rw [h]
 refine pcalls_of (by first | rfl | simp [free, free.frees, frees_str, frees_u8, frees_u16]) (by first | rfl | simp [free, free.frees, frees_str, frees_u8, frees_u16]) (acalls_of mixed J_token_number_ok (Nat.le_of_ble_eq_true rfl) ?_); simp only [J_token_number, wk,Nat.reduceEqDiff,Int.reduceLE,reduceCtorEq,↓reduceIte]
 have fin : (1 ≤ s.size ∧ s.size ≤ 9 ∧ (byteAt s 0 ≠ 48 ∨ s.size = 1)) → ∀ x : Int, x = (0 : Nat) + (stopN digI s.data.toList : Nat) → AV.bool (decide (x = s.size)) = .bool (numW s) := by
  rintro ⟨h1, h2, h3⟩ x rfl
  congr 1
  unfold numW
  rw [Bool.eq_iff_iff]
  simp only [decide_eq_true_eq, Bool.and_eq_true, Bool.or_eq_true]
  rw [← hst]
  omega
 repeat' (first | (refine PCalls.use q ?_; simp only [wk,Nat.reduceEqDiff,reduceCtorEq,↓reduceIte]) | (with_reducible refine And.intro ?_ ?_) | intro _)
 all_goals first
  | omega
  | exact fin (by omega) _ rfl
  | (apply no; unfold numW; simp_all; done)
  | (apply no; unfold numW; simp_all; omega)
def atomWk (o : Int) (w : ByteArray) : ByteArray :=
 if o = 0 then (if w = ⟨#[68]⟩ then w else ⟨#[]⟩)
 else if mayN w = true then (if o = 1 ∨ o = 2 ∨ o = 4 ∨ o = 5 then preW o ++ w else if o = 3 ∧ keyW w = 0 then w else ⟨#[]⟩) else ⟨#[]⟩
def wordT (k : Int) (w : ByteArray) (o : Int) : ByteArray :=
 if k = 1 then atomWk o w
 else if o ≠ 0 then ⟨#[]⟩
 else if k = 8 then (if numW w = true then w else ⟨#[]⟩)
 else if k = 9 then (if sigW w = true then w else ⟨#[]⟩)
 else if w ≠ ⟨#[]⟩ then ⟨#[]⟩
 else if k = 2 then ⟨#[97, 110, 100]⟩
 else if k = 3 then ⟨#[102, 111, 114]⟩
 else if k = 5 then ⟨#[97, 115]⟩
 else if k = 4 then ⟨#[124]⟩
 else if k = 6 then ⟨#[40]⟩
 else if k = 7 then ⟨#[41]⟩
 else ⟨#[]⟩
theorem p_atomWord (o : Int) (w : ByteArray) (hw : w.size ≤ 1000000) : PCalls Tryz.prog 106 [.int .i64 o, .str w] (.str (atomWk o w)) := by
 have qm := p_amay w (by omega)
 have qk := p_keyword w
 refine pcalls_of (by first | rfl | simp [free, free.frees, frees_str, frees_u8, frees_u16]) (by first | rfl | simp [free, free.frees, frees_str, frees_u8, frees_u16]) (acalls_of mixed J_token_atomWord_ok (Nat.le_of_ble_eq_true rfl) ?_); simp only [J_token_atomWord, wk,Nat.reduceEqDiff,Nat.reduceAdd,reduceCtorEq,↓reduceIte]
 repeat' (first | (refine PCalls.use qm ?_; simp only [wk,Nat.reduceEqDiff,reduceCtorEq,↓reduceIte]) | (refine PCalls.use qk ?_; simp only [wk,Nat.reduceEqDiff,↓reduceIte]) | (with_reducible refine And.intro ?_ ?_) | intro _)
 all_goals first
  | (simp only [J_token_atomWord_j1, wk,↓reduceIte]; congr 1; unfold atomWk; simp_all; done)
  | (congr 1; unfold atomWk preW; simp_all; done)
  | exact (show ∀ n : Nat, n ≤ 6 → n + w.size ≤ 9223372036854775807 from fun n h => by omega) _ (Nat.le_of_ble_eq_true rfl)
theorem sigW_one {w : ByteArray} (h : w.size = 1) : sigW w = sigB (byteAt w 0) := by unfold sigW; simp [h]
theorem p_word (k : Int) (w : ByteArray) (o a : Int) (hw : w.size ≤ 1000000) : PCalls Tryz.prog 69 [.agg [.int .i64 k, .str w, .int .i64 o, .int .i64 a]] (.str (wordT k w o)) := by
  have qa := p_atomWord o w hw
  have qn := p_number w hw
  refine pcalls_of (by first | rfl | simp [free, free.frees, frees_str, frees_u8, frees_u16]) (by first | rfl | simp [free, free.frees, frees_str, frees_u8, frees_u16]) (acalls_of mixed J_token_Word_ok (Nat.le_of_ble_eq_true rfl) ?_); simp only [J_token_Word, wk,ne_eq,eq_self,Nat.reduceEqDiff,↓reduceIte]
  repeat' (first | (refine PCalls.use qa ?_; simp only [wk,↓reduceIte]) | (refine PCalls.use qn ?_; simp only [wk,Nat.reduceEqDiff,↓reduceIte]) | (refine PCalls.use (p_contains1 w (by omega)) ?_; simp only [wk,Nat.reduceEqDiff,↓reduceIte]) | (with_reducible refine And.intro ?_ ?_) | intro _)
  all_goals first
    | (congr 1; unfold wordT; simp_all; done)
    | (congr 1; unfold wordT; rw [sigW_one (by omega)]; simp_all; done)
    | (congr 1; unfold wordT sigW; simp_all; done)
    | (have hz : ¬ w.size = 1 := by omega
       congr 1; unfold wordT sigW; simp_all; done)
theorem preW_size (o : Int) : (preW o).size ≤ 6 := by
 unfold preW
 repeat' split
 all_goals decide
theorem ba_empty (w : ByteArray) : (⟨#[]⟩ : ByteArray) ++ w = w := by
 apply ByteArray.ext; apply Array.ext'; simp
theorem word_atom {k : Int} {w : ByteArray} {o : Int} (h1 : k = 1) (h2 : mayN w = true) (h3 : 1 ≤ o) (h4 : o ≤ 5) (h5 : o = 3 → keyW w = 0) : preW o ++ w = wordT k w o := by
 subst h1
 rcases (show o = 1 ∨ o = 2 ∨ o = 3 ∨ o = 4 ∨ o = 5 by omega) with rfl | rfl | rfl | rfl | rfl
 all_goals simp [wordT, atomWk, h2, preW, ba_empty]
 exact (fun h => absurd (h5 rfl) h)
theorem word_atom3 {k : Int} {w : ByteArray} {o : Int} (h1 : k = 1) (h2 : mayN w = true) (h3 : o = 3) (h5 : ¬ keyW w = 0) : (⟨#[]⟩ : ByteArray) = wordT k w o := by
 subst h1; subst h3
 simp [wordT, atomWk, h2, h5]
theorem word_none {k : Int} {w : ByteArray} {o : Int} (h1 : k = 1) (h0 : ¬ o = 0) (h2 : o < 1 ∨ 5 < o) : (⟨#[]⟩ : ByteArray) = wordT k w o := by
 subst h1
 have e1 : ¬ o = 1 := by omega
 have e2 : ¬ o = 2 := by omega
 have e3 : ¬ o = 3 := by omega
 have e4 : ¬ o = 4 := by omega
 have e5 : ¬ o = 5 := by omega
 simp [wordT, atomWk, h0, e1, e2, e3, e4, e5]
theorem word_far {k : Int} {w : ByteArray} {o : Int} (h1 : ¬ k = 1) (h2 : ¬ k = 8) (h3 : ¬ k = 9) (h4 : k < 2 ∨ 7 < k) : (⟨#[]⟩ : ByteArray) = wordT k w o := by
 have e2 : ¬ k = 2 := by omega
 have e3 : ¬ k = 3 := by omega
 have e4 : ¬ k = 4 := by omega
 have e5 : ¬ k = 5 := by omega
 have e6 : ¬ k = 6 := by omega
 have e7 : ¬ k = 7 := by omega
 simp [wordT, h1, h2, h3, e2, e3, e4, e5, e6, e7]
theorem word_key {k : Int} {w : ByteArray} {o : Int} {K : AV → Prop} (h0 : o = 0) (hw : w = ⟨#[]⟩) (h1 : 2 ≤ k) (h2 : k ≤ 7) (hK : K (.str (wordT k w o))) :
  loadK none (List.drop (k - 2).toNat [AV.str ⟨#[97, 110, 100]⟩, .str ⟨#[102, 111, 114]⟩, .str ⟨#[124]⟩, .str ⟨#[97, 115]⟩, .str ⟨#[40]⟩, .str ⟨#[41]⟩]) K := by
 subst h0; subst hw
 rcases (show k = 2 ∨ k = 3 ∨ k = 4 ∨ k = 5 ∨ k = 6 ∨ k = 7 by omega) with rfl | rfl | rfl | rfl | rfl | rfl <;> exact hK
theorem p_rword04 (k : Int) (w : ByteArray) (o a : Int) (hw : w.size ≤ 1000000) : PCalls Tryz.prog 41 [.agg [.int .i64 k, .str w, .int .i64 o, .int .i64 a]] (.str (wordT k w o)) := by
 have qm := p_rmay01 w (by omega)
 have qk := p_rkeyword w
 have qn := p_rnumber w hw
 have qs := p_isSign w
 have qp := p_prefix o
 refine pcalls_of (by first | rfl | simp [free, free.frees, frees_str, frees_u8, frees_u16]) (by first | rfl | simp [free, free.frees, frees_str, frees_u8, frees_u16]) (acalls_of mixed J_ref04_Word_ok (Nat.le_of_ble_eq_true rfl) ?_); simp only [J_ref04_Word, wk,Nat.reduceEqDiff,Nat.reduceAdd,Nat.reduceLeDiff,↓reduceIte]
 repeat' (first | (refine PCalls.use qm ?_; simp only [wk,Nat.reduceEqDiff,↓reduceIte]) | (refine PCalls.use qk ?_; simp only [wk,ne_eq,eq_self,Nat.reduceEqDiff,↓reduceIte]) | (refine PCalls.use qn ?_; simp only [wk,Nat.reduceEqDiff,↓reduceIte]) | (refine PCalls.use qs ?_; simp only [wk,Nat.reduceEqDiff,↓reduceIte]) | (refine ⟨_, qp, ?_⟩; simp only [wk,↓reduceIte]) | (with_reducible refine And.intro ?_ ?_) | intro _)
 all_goals first
  | (congr 1; unfold wordT; simp_all; done)
  | (congr 1; unfold wordT atomWk; simp_all; done)
  | (have := preW_size o; omega)
  | (refine inR_of ?_ ?_ <;> omega)
  | (congr 1; apply word_atom <;> first | assumption | omega | (intro _; first | assumption | omega))
  | (congr 1; apply word_atom3 <;> first | assumption | omega)
  | (congr 1; apply word_none <;> first | assumption | omega)
  | (congr 1; apply word_far <;> first | assumption | omega)
  | (refine word_key (by assumption) (by assumption) (by omega) (by omega) ?_; simp only [wk,↓reduceIte])
end Go.Proofs.YtedaffmkpljlnaaGreat
/- Expressions: how closely signs bind; what waits last. -/
-- fast
-- rows
namespace Go.Proofs.YtedaffmkpljlnaaGreat
open Go.RowKit Go.Lib

def bindP (k : Int) : Int := if k = 1 then 5 else bindK k
theorem bindP_ne {k : Int} (h : k ≠ 1) : bindP k = bindK k := by unfold bindP; rw [if_neg h]
theorem p_bind (k : Int) : PCalls Tryz.prog 86 [.int .i64 k] (.int .i64 (bindP k)) := by
 refine pcalls_of (by first | rfl | simp [free, free.frees, frees_str, frees_u8, frees_u16]) (by first | rfl | simp [free, free.frees, frees_str, frees_u8, frees_u16]) (acalls_of mixed J_expr_bind_ok (Nat.le_of_ble_eq_true rfl) ?_); simp only [J_expr_bind, wk,Nat.reduceEqDiff,reduceCtorEq,↓reduceIte]
 repeat' refine And.intro (fun h => ?_) (fun h => ?_)
 all_goals (congr 1; simp_all [bindP, bindK])
theorem p_binds (k : Int) : PCalls Tryz.prog 112 [.int .i64 k] (.int .i64 (bindK k)) := by
 refine pcalls_of (by first | rfl | simp [free, free.frees, frees_str, frees_u8, frees_u16]) (by first | rfl | simp [free, free.frees, frees_str, frees_u8, frees_u16]) (acalls_of mixed J_ref05_Binds_ok (Nat.le_of_ble_eq_true rfl) ?_); simp only [J_ref05_Binds, wk,Nat.reduceEqDiff,reduceCtorEq,↓reduceIte]
 repeat' refine And.intro (fun h => ?_) (fun h => ?_)
 all_goals (congr 1; simp_all [bindK])
def trC (t : Trm) : List AV := [.int .i64 t.op, .int .i64 t.of, .str t.name]
def trsC (l : List Trm) : List AV := l.flatMap trC
def vTrs (l : List Trm) : AV := .lst .ro l.length (trsC l)
abbrev rob (o : Option Value) (r : Rdr) : Option (Bool × List AV) := some (false, [.lst (.own 52) r.out.length (trsC r.out), .stk 3 o r.w.reverse, .int .i64 r.opn, .bool r.beh])
theorem hset1 {h : Hp} {id : Nat} {y : Option (Bool × List AV)} (ho : h[id]? = some y) (x : Option (Bool × List AV)) : (h.set id x)[id]? = some x := by
 have : id < h.length := (List.getElem?_eq_some_iff.1 ho).1
 rw [List.getElem?_set_self this]
theorem hself1 {h : Hp} {id : Nat} {y : Option (Bool × List AV)} (ho : h[id]? = some y) : h.set id y = h := by
 obtain ⟨h1, h2⟩ := List.getElem?_eq_some_iff.1 ho
 rw [← h2, List.set_getElem_self]
theorem rev_last {w : List Int} : w.reverse.getD (w.length - 1) 0 = w.headD 0 := by
 cases w with
 | nil => rfl
 | cons a w => simp
theorem a_top_some {h : Hp} {id : Nat} {x : AV} {rest : List AV} {w : List Int} {v : Value} (ho : h[id]? = some (some (false, x :: .stk 3 (some v) w.reverse :: rest))) (hl : w.length ≤ 1000000) : ACalls Tryz.prog 122 [.ptr id 0] h (fun a h' => a = .int .i64 (w.headD 0) ∧ h' = h) := by
 have hr : w.reverse.length = w.length := List.length_reverse
 refine acalls_of mixed J_expr_reader_top_ok (Nat.le_of_ble_eq_true rfl) ?_; simp only [J_expr_reader_top, wkr,wk,reduceCtorEq,↓reduceIte]
 simp only [wkr,wk,Nat.reduceEqDiff,reduceCtorEq,↓reduceIte, ho]
 refine ⟨fun h0 => ?_, fun h0 => ⟨inR_of (by omega) (by omega), ⟨by omega, by omega⟩, by omega, ?_⟩⟩
 ·have : w = [] := List.eq_nil_of_length_eq_zero (by omega)
  subst this; rfl
 ·congr 1
  rw [hr, show ((w.length : Int) - 1).toNat = w.length - 1 by omega, rev_last]
theorem a_top {h : Hp} {id : Nat} {x : AV} {rest : List AV} {w : List Int} {o : Option Value} (ho : h[id]? = some (some (false, x :: .stk 3 o w.reverse :: rest))) (hl : w.length ≤ 1000000) : ACalls Tryz.prog 122 [.ptr id 0] h (fun a h' => a = .int .i64 (w.headD 0) ∧ h' = h) := by
 cases o with
 | some v => exact a_top_some ho hl
 | none =>
  have hr : w.reverse.length = w.length := List.length_reverse
  have hs : ∀ y, (h.set id (some (false, y)))[id]? = some (some (false, y)) := fun y => hset1 ho _
  refine ACalls.unname (off := 1) ho rfl ?_
  refine acalls_of mixed J_expr_reader_top_ok (Nat.le_of_ble_eq_true rfl) ?_; simp only [J_expr_reader_top, wkr,wk,reduceCtorEq,↓reduceIte]
  simp only [wk,ho]
  intro v
  simp only [wkr,wk,Nat.reduceEqDiff,reduceCtorEq,↓reduceIte, hs]
  refine ⟨fun h0 => ?_, fun h0 => ⟨inR_of (by omega) (by omega), ⟨by omega, by omega⟩, by omega, ?_⟩⟩
  ·have : w = [] := List.eq_nil_of_length_eq_zero (by omega)
   subst this; exact ⟨⟨v, rfl⟩, rfl⟩
  ·refine ⟨⟨v, rfl⟩, ?_⟩
   congr 1
   rw [hr, show ((w.length : Int) - 1).toNat = w.length - 1 by omega, rev_last]
theorem sameU_stk {h0 h : Hp} {id : Nat} {x : AV} {rest : List AV} {e : TypeId} {o : Option Value} {l : List Int} (hs : SameU h0 h) (ho : h[id]? = some (some (false, x :: .stk e o l :: rest))) : ∃ x' rest', h0[id]? = some (some (false, x' :: .stk e o l :: rest')) := by
 have h1 := congrArg (fun m : List (Option (Bool × List AV)) => m[id]?) hs
 simp only [List.getElem?_map, ho, Option.map_some, unfO, List.map_cons] at h1
 cases h2 : h0[id]? with
 | none => rw [h2] at h1; cases h1
 | some y =>
  rw [h2] at h1
  cases y with
  | none => simp [unfO] at h1
  | some z =>
   obtain ⟨s, c⟩ := z
   simp only [Option.map_some, unfO, Option.some.injEq, Prod.mk.injEq] at h1
   obtain ⟨rfl, h3⟩ := h1
   cases c with
   | nil => simp at h3
   | cons a c =>
    cases c with
    | nil => simp at h3
    | cons b c =>
     simp only [List.map_cons, List.cons.injEq] at h3
     have hb : b = .stk e o l := by
      have h4 := h3.2.1
      cases b <;> simp only [unf] at h4 <;> first | exact h4 | (split at h4 <;> first | cases h4 | exact h4) | cases h4
     subst hb
     exact ⟨a, c, rfl⟩
theorem a_topr {h : Hp} {id : Nat} {x : AV} {rest : List AV} {w : List Int} {o : Option Value} (ho : h[id]? = some (some (false, x :: .stk 3 o w.reverse :: rest))) (hl : w.length ≤ 1000000) : ∀ h0 : Hp, SameU h0 h → ACalls Tryz.prog 122 [.ptr id 0] h0 (fun a h' => a = .int .i64 (w.headD 0) ∧ h' = h0) := fun h0 hs => by
 obtain ⟨x', rest', h2⟩ := sameU_stk hs ho
 exact a_top h2 hl
theorem ACalls.unn {P : Program} {f : FuncId} {args : List AV} {h : Hp} {R : AV → Prop} {id : Nat} {r : Rdr} {y : Option (Bool × List AV)} (hid : h[id]? = some y)
  (hA : ACalls P f args h (fun a h' => R a ∧ ∃ o, h' = h.set id (rob o r))) : ACalls P f args h (fun a h' => R a ∧ h' = h.set id (rob none r)) :=
 ⟨hA.1, fun g w vargs h1 h2 h3 h4 => (hA.2 g w vargs h1 h2 h3 h4).mono fun _ _ ⟨x, a, h', g', q1, q2, q3, q4, q5, q6, q8, o, q7⟩ => by
  have hl := hset1 hid (rob none r)
  refine ⟨x, a, h.set id (rob none r), g', q1, q2, ?_, q4, q5, q6, q8, rfl⟩
  cases o with
  | none => rw [← q7]; exact q3
  | some u =>
   refine Sim.unname (off := 1) (u := u) hl rfl ?_
   rw [List.set_set]
   show Sim P g' (h.set id (rob (some u) r)) _
   rw [← q7]; exact q3⟩
def layR (m : Int) (r : Rdr) : Rdr := ⟨r.out ++ (popL m r.w).map sgn, popR m r.w, r.opn, r.beh⟩
theorem trsC_sn (l : List Trm) (t : Trm) : trsC (l ++ [t]) = trsC l ++ [.int .i64 t.op, .int .i64 t.of, .str t.name] := by simp [trsC, trC]
theorem trsC_len (l : List Trm) : (trsC l).length = l.length * 3 := by
 induction l with
 | nil => rfl
 | cons x l ih => simp only [trsC, List.flatMap_cons, List.length_append, trC, List.length_cons, List.length_nil] at ih ⊢; omega
theorem a_lay {h : Hp} {id : Nat} {r : Rdr} {m : Int} {o : Option Value} (ho : h[id]? = some (rob o r)) (hm : 0 < m) (hw : ∀ k ∈ r.w, k = 6 ∨ 0 < bindK k) (hl : r.w.length ≤ 10000) (hl2 : r.out.length ≤ 100000) : ACalls Tryz.prog 100 [.ptr id 0, .int .i64 m] h (fun a h' => a = .tup [] ∧ h' = h.set id (rob none (layR m r))) := by
 refine ACalls.unn ho ?_
 refine acalls_of mixed J_expr_reader_lay_ok (Nat.le_of_ble_eq_true rfl) ?_; simp only [J_expr_reader_lay, wk,Nat.reduceAdd]
 refine W_loop (fun n fr h' => ∃ (w2 : List Int) (a : List Int) (o : Option Value), n = w2.length ∧ popL m r.w = a ++ popL m w2 ∧ popR m r.w = popR m w2 ∧ a.length + w2.length = r.w.length ∧ (∀ k ∈ w2, k = 6 ∨ 0 < bindK k) ∧ h' = h.set id (rob o ⟨r.out ++ a.map sgn, w2, r.opn, r.beh⟩) ∧ fr = [(0, .ptr id 0), (1, .int .i64 m)]) r.w.length ⟨r.w, [], o, rfl, rfl, rfl, by simp, hw, by simp [hself1 ho], rfl⟩ ?_
 rintro n fr h' ⟨w2, a, o2, rfl, e1, e2, e3, hw2, rfl, rfl⟩
 have ho2 := hset1 ho (rob o2 ⟨r.out ++ a.map sgn, w2, r.opn, r.beh⟩)
 simp only [J_expr_reader_lay_j1, wk,↓reduceIte]
 have hws : w2.length ≤ 10000 := by omega
 have hb : bindP (w2.headD 0) = bindK (w2.headD 0) := by
  refine bindP_ne ?_
  cases w2 with
  | nil => decide
  | cons k w2 =>
   have := hw2 k (by simp)
   show k ≠ 1
   rintro rfl
   rcases this with h | h
   ·omega
   ·rw [bind1] at h; omega
 refine ACalls.use (a_top ho2 (show w2.length ≤ 1000000 by omega)) ?_; rintro _ _ ⟨rfl, rfl⟩; simp only [wk,↓reduceIte]
 refine PCalls.use (p_bind (w2.headD 0)) ?_; simp only [wkr,wk,Nat.reduceEqDiff,Nat.reduceAdd,Nat.reduceMul,Nat.reduceLeDiff,reduceCtorEq,↓reduceIte]
 simp only [hb]
 have hs : ∀ y z, ((h.set id z).set id (some (false, y)))[id]? = some (some (false, y)) := fun y z => hset1 (hset1 ho z) _
 have hs1 : ∀ y, (h.set id (some (false, y)))[id]? = some (some (false, y)) := fun y => hset1 ho _
 refine ⟨fun hge => ?_, fun hlt => ?_⟩
 ·simp only [rob] at ho2
  simp only [wk,ho2]
  refine ⟨_, a_topr (hs1 _) (show w2.length ≤ 1000000 by omega), ?_⟩
  have hol : (r.out ++ a.map sgn).length = r.out.length + a.length := by simp
  simp only [wkr,wk,Nat.reduceEqDiff,Nat.reduceAdd,Nat.reduceLT,reduceCtorEq,↓reduceIte, hs1]
  refine ⟨⟨by omega, by omega⟩, ?_⟩
  cases w2 with
  | nil => exact absurd hge (by show ¬ m ≤ bindK 0; simp only [bindK]; omega)
  | cons k w3 =>
   have hge : m ≤ bindK k := hge
   have hrl : (k :: w3).reverse.length = w3.length + 1 := by simp
   have hw3 : w3.length + 1 ≤ 10000 := by simpa using hws
   have hrt : (k :: w3).reverse.take w3.length = w3.reverse := by
    have := List.take_left (l₁ := w3.reverse) (l₂ := [k])
    rw [List.length_reverse] at this
    rw [List.reverse_cons]; exact this
   have ht : (((k :: w3).reverse.length : Int) - 1).toNat = w3.length := by omega
   have fin : ∀ v : Value, ∃ m_1, m_1 < (k :: w3).length ∧ ∃ (w2_1 : List Int) (a_1 : List Int) (o : Option Value), m_1 = w2_1.length ∧ popL m r.w = a_1 ++ popL m w2_1 ∧ popR m r.w = popR m w2_1 ∧ a_1.length + w2_1.length = r.w.length ∧ (∀ k ∈ w2_1, k = 6 ∨ 0 < bindK k) ∧ h.set id (some (false, [.lst (.own 52) ((r.out ++ a.map sgn).length + 1) (trsC (r.out ++ a.map sgn) ++ [.int .i64 ((k :: w3).headD 0), .int .i64 0, .str ⟨#[]⟩]), .stk 3 (some v) w3.reverse, .int .i64 r.opn, .bool r.beh])) = h.set id (rob o ⟨r.out ++ a_1.map sgn, w2_1, r.opn, r.beh⟩) := fun v => by
    refine ⟨w3.length, by simp, w3, a ++ [k], some v, rfl, ?_, ?_, ?_, fun q hq => hw2 q (by simp [hq]), ?_⟩
    ·rw [e1]; simp [popL, hge]
    ·rw [e2]; simp [popR, hge]
    ·rw [List.length_cons] at e3; rw [List.length_append, List.length_singleton]; omega
    ·rw [List.map_append, ← List.append_assoc, rob]
     simp only [List.map_cons, List.map_nil, trsC_sn, List.length_append, List.length_singleton, List.headD_cons]
     rfl
   cases o2 with
   | none =>
    intro v
    rw [ht, hrt]
    exact ⟨inR_of (by omega) (by omega), ⟨by omega, by omega⟩, by omega, fin _⟩
   | some v =>
    simp only [wkr,wk]
    rw [ht, hrt]
    exact ⟨inR_of (by omega) (by omega), ⟨by omega, by omega⟩, by omega, fin _⟩
 ·have hp : popL m w2 = [] ∧ popR m w2 = w2 := by
   cases w2 with
   | nil => exact ⟨rfl, rfl⟩
   | cons k w2 =>
    have : ¬ m ≤ bindK k := hlt
    simp [popL, popR, this]
  rw [hp.1, List.append_nil] at e1
  rw [hp.2] at e2
  exact ⟨o2, by unfold layR; rw [e1, e2]⟩
end Go.Proofs.YtedaffmkpljlnaaGreat
/- Expressions: the reader takes a token. -/
-- fast
-- rows
namespace Go.Proofs.YtedaffmkpljlnaaGreat
open Go.RowKit Go.Lib

theorem frees_trs : ∀ l : List Trm, free.frees (trsC l) = true
 | [] => rfl
 | t :: l => by
  have := frees_trs l
  simp only [trsC, List.flatMap_cons, trC, List.cons_append, List.nil_append, free.frees, free, Bool.true_and] at this ⊢
  exact this
theorem rob_low {n : Nat} {o : Option Value} {r : Rdr} {s : Bool} {l : List AV} (h : rob o r = some (s, l)) : low.lows n l = true := by
 simp only [rob, Option.some.injEq, Prod.mk.injEq] at h
 obtain ⟨_, rfl⟩ := h
 simp [low.lows, low, lows_free (frees_trs r.out)]
theorem trimR {h ex : Hp} {id : Nat} {o : Option Value} {r : Rdr} {a c : Int} (hc : a = c) : ∃ h2 ex', h.set id (rob o r) ++ ex = h2 ++ ex' ∧ h.length ≤ h2.length ∧ low h2.length (.int .i64 a) = true ∧ (∀ (j : Nat) s l, h2[j]? = some (some (s, l)) → (∃ s', h[j]? = some (some (s', l))) ∨ low.lows h2.length l = true) ∧ (.int .i64 a = AV.int .i64 c ∧ ∃ o, h2 = h.set id (rob o r)) := by
 refine ⟨_, ex, rfl, by simp, rfl, fun j s' l' hj => ?_, by rw [hc], o, rfl⟩
 rw [List.getElem?_set] at hj
 split at hj
 ·split at hj
  ·exact .inr (rob_low (o := o) (r := r) (by simpa using hj))
  ·cases hj
 ·exact .inl ⟨_, hj⟩
theorem trimR1 {h ex : Hp} {id : Nat} {o : Option Value} {r : Rdr} {a : Int} : ∃ h2 ex', h.set id (rob o r) ++ ex = h2 ++ ex' ∧ h.length ≤ h2.length ∧ low h2.length (.int .i64 a) = true ∧ (∀ (j : Nat) s l, h2[j]? = some (some (s, l)) → (∃ s', h[j]? = some (some (s', l))) ∨ low.lows h2.length l = true) ∧ (∃ o, h2 = h.set id (rob o r)) := by
 obtain ⟨h2, ex', p1, p2, p3, p4, _, p5⟩ := trimR (h := h) (ex := ex) (id := id) (o := o) (r := r) (a := a) (c := a) rfl
 exact ⟨h2, ex', p1, p2, p3, p4, p5⟩
theorem trimR0 {h ex : Hp} {id : Nat} {o : Option Value} {r r' : Rdr} {a c : Int} (ho : h[id]? = some (rob o r)) (hc : c = a ∧ r' = r) : ∃ h2 ex', h ++ ex = h2 ++ ex' ∧ h.length ≤ h2.length ∧ low h2.length (.int .i64 a) = true ∧ (∀ (j : Nat) s l, h2[j]? = some (some (s, l)) → (∃ s', h[j]? = some (some (s', l))) ∨ low.lows h2.length l = true) ∧ (.int .i64 a = AV.int .i64 c ∧ ∃ o, h2 = h.set id (rob o r')) :=
 ⟨h, ex, rfl, Nat.le_refl _, rfl, fun _ s _ hl => .inl ⟨s, hl⟩, by rw [hc.1], o, by rw [hc.2]; exact (hself1 ho).symm⟩
theorem holdE {h : Hp} {id : Nat} {y : Option (Bool × List AV)} (ho : h[id]? = some y) (ex : Hp) : (h ++ ex)[id]? = some y := by
 rw [List.getElem?_append_left (List.getElem?_eq_some_iff.1 ho).1]; exact ho
theorem setlE {h : Hp} {id : Nat} {y : Option (Bool × List AV)} (ho : h[id]? = some y) (ex : Hp) (z : Option (Bool × List AV)) : (h ++ ex).set id z = h.set id z ++ ex :=
 List.set_append_left _ _ (List.getElem?_eq_some_iff.1 ho).1
theorem boxE {h : Hp} {y : Option (Bool × List AV)} : (h ++ [y])[h.length]? = some y := by simp
theorem boxE2 {h : Hp} {id : Nat} {x y z : Option (Bool × List AV)} (ho : h[id]? = some x) : ((h ++ [y]).set id z)[h.length]? = some y := by
 rw [setlE ho, List.getElem?_append_right (by simp), List.length_set, Nat.sub_self]; rfl
theorem rob_eq {o : Option Value} {k : Nat} {l : List AV} {s : List Int} {i : Int} {b : Bool} (r : Rdr) (h1 : k = r.out.length) (h2 : l = trsC r.out) (h3 : s = r.w.reverse) (h4 : i = r.opn) (h5 : b = r.beh) : (some (false, [.lst (.own 52) k l, .stk 3 o s, .int .i64 i, .bool b]) : Option (Bool × List AV)) = rob o r := by
 subst h1; subst h2; subst h3; subst h4; subst h5; rfl
def codeR (r : Rdr) (t : Tok) : Int := match takeR r t with
 | .inl e => e
 | .inr _ => 0
def nextR (r : Rdr) (t : Tok) : Rdr := match takeR r t with
 | .inl _ => r
 | .inr r' => r'
theorem take_inl {r : Rdr} {t : Tok} {e : Int} (h : takeR r t = .inl e) : codeR r t = e ∧ nextR r t = r := by unfold codeR nextR; rw [h]; exact ⟨rfl, rfl⟩
theorem take_inr {r r' : Rdr} {t : Tok} (h : takeR r t = .inr r') : codeR r t = 0 ∧ nextR r t = r' := by unfold codeR nextR; rw [h]; exact ⟨rfl, rfl⟩
theorem a_part {h : Hp} {id : Nat} {r : Rdr} {o : Option Value} {t : Tok} (ho : h[id]? = some (rob o r)) (hb : r.beh = false) (hl : r.w.length ≤ 10000) (hl2 : r.out.length ≤ 100000) (hl3 : r.opn ≤ 10000) : ACalls Tryz.prog 121 [.ptr id 0, .agg (tC t)] h (fun a h' => a = .int .i64 (codeR r t) ∧ h' = h.set id (rob none (nextR r t))) := by
 refine ACalls.unn ho ?_
 obtain ⟨out, w, n, b⟩ := r
 simp only at hb hl hl2 hl3
 subst hb
 have ho1 := holdE ho [some (false, tC t)]
 have hs1 : ∀ z, ((h ++ [some (false, tC t)]).set id z)[id]? = some z := fun z => hset1 ho1 z
 have hbx : (h ++ [some (false, tC t)])[h.length]? = some (some (false, tC t)) := boxE
 have hbx2 : ∀ z, ((h ++ [some (false, tC t)]).set id z)[h.length]? = some (some (false, tC t)) := fun z => boxE2 ho
 have hset := setlE ho [some (false, tC t)]
 have hrl : w.reverse.length = w.length := List.length_reverse
 simp only [tC] at ho1 hs1 hbx hbx2 hset ⊢
 refine ACalls.trim (acalls_of mixed J_expr_reader_part_ok (Nat.le_of_ble_eq_true rfl) ?_); simp only [J_expr_reader_part, hbx, wk,Nat.reduceEqDiff,Nat.reduceAdd,reduceCtorEq,↓reduceIte]
 have hid := (List.getElem?_eq_some_iff.1 ho).1
 have n1 : (id = h.length) = False := by simp; omega
 have n2 : (h.length = id) = False := by simp; omega
 refine ⟨fun k1 => ?_, fun k1 => ?_⟩
 ·have hfin : ¬ (w.headD 0 = 5 ∧ t.of ≠ 5) → codeR ⟨out, w, n, false⟩ t = 0 ∧ nextR ⟨out, w, n, false⟩ t = ⟨out ++ [leaf t], w, n, true⟩ := fun hn => take_inr (by
   unfold takeR; rw [if_pos rfl, if_pos k1, if_neg hn])
  refine ACalls.use (a_top ho1 (show w.length ≤ 1000000 by omega)) ?_; rintro _ _ ⟨rfl, rfl⟩; simp only [wk,ne_eq,eq_self,Nat.reduceEqDiff,Nat.reduceAdd,Nat.reduceMul,Nat.reduceLeDiff,Nat.reduceLT,reduceCtorEq,↓reduceIte, ho1, hbx, hbx2, hs1, n1, n2]
  refine ⟨fun h5 => ⟨fun h6 => trimR0 ho (take_inl ?_), fun h6 => ?_⟩, fun h5 => ?_⟩
  ·unfold takeR; rw [if_pos rfl, if_pos k1, if_pos ⟨h5, h6⟩]
  ·obtain ⟨g1, g2⟩ := hfin (fun x => x.2 h6)
   simp only [J_expr_reader_part_j1, wk,↓reduceIte]
   refine ⟨⟨by omega, by omega⟩, ?_⟩
   rw [hset, rob_eq ⟨out ++ [leaf t], w, n, true⟩ (by simp) (by simp [trsC_sn, leaf]) rfl rfl rfl, g1, g2]
   exact trimR rfl
  ·obtain ⟨g1, g2⟩ := hfin (fun x => h5 x.1)
   simp only [J_expr_reader_part_j1, wk,↓reduceIte]
   refine ⟨⟨by omega, by omega⟩, ?_⟩
   rw [hset, rob_eq ⟨out ++ [leaf t], w, n, true⟩ (by simp) (by simp [trsC_sn, leaf]) rfl rfl rfl, g1, g2]
   exact trimR rfl
 ·have no : t.kind ≠ 6 ∨ w.headD 0 = 5 → takeR ⟨out, w, n, false⟩ t = .inl 2 := fun hn => by
   unfold takeR
   rw [if_pos rfl, if_neg k1, if_neg (by rintro ⟨a, b⟩; rcases hn with h | h; exact h a; exact b h)]
  refine ⟨fun k6 => ?_, fun k6 => ?_⟩
  ·refine ACalls.use (a_top ho1 (show w.length ≤ 1000000 by omega)) ?_; rintro _ _ ⟨rfl, rfl⟩; simp only [wkr,wk,ne_eq,eq_self,Nat.reduceEqDiff,Nat.reduceAdd,Nat.reduceLeDiff,Nat.reduceLT,reduceCtorEq,↓reduceIte, ho1, hs1]
   refine ⟨fun h5 => ⟨fun h1 => trimR0 ho (take_inl ?_), fun h1 => ⟨⟨by omega, by omega⟩, inR_of (by omega) (by omega), ?_⟩⟩, fun h5 => ?_⟩
   ·unfold takeR; rw [if_pos rfl, if_neg k1, if_pos ⟨k6, h5⟩, if_pos (by show n = 100; omega)]
   ·simp only [J_expr_reader_part_j1, wk,↓reduceIte]
    obtain ⟨g1, g2⟩ := take_inr (r := ⟨out, w, n, false⟩) (t := t) (r' := ⟨out, 6 :: w, n + 1, false⟩) (by
     unfold takeR; rw [if_pos rfl, if_neg k1, if_pos ⟨k6, h5⟩, if_neg (by show ¬ n = 100; omega)])
    rw [hset, rob_eq ⟨out, 6 :: w, n + 1, false⟩ rfl rfl (by simp) (by simp) rfl, g1, g2]
    exact trimR rfl
   ·exact trimR0 ho (take_inl (no (.inr h5)))
  ·exact trimR0 ho (take_inl (no (.inl k6)))
theorem a_take {h : Hp} {id : Nat} {r : Rdr} {o : Option Value} {t : Tok} (ho : h[id]? = some (rob o r)) (hw : rcnt r) (hl : r.w.length ≤ 10000) (hl2 : r.out.length + r.w.length ≤ 10000) (hl3 : r.opn ≤ 10000) : ACalls Tryz.prog 99 [.ptr id 0, .agg (tC t)] h (fun a h' => a = .int .i64 (codeR r t) ∧ h' = h.set id (rob none (nextR r t))) := by
 refine ACalls.unn ho ?_
 obtain ⟨out, w, n, b⟩ := r
 obtain ⟨kd, nm, tf, ta⟩ := t
 simp only at hl hl2 hl3
 have ho1 := holdE ho [some (false, tC ⟨kd, nm, tf, ta⟩)]
 have hs1 : ∀ z, ((h ++ [some (false, tC ⟨kd, nm, tf, ta⟩)]).set id z)[id]? = some z := fun z => hset1 ho1 z
 have hbx : (h ++ [some (false, tC ⟨kd, nm, tf, ta⟩)])[h.length]? = some (some (false, tC ⟨kd, nm, tf, ta⟩)) := boxE
 have hbx2 : ∀ z, ((h ++ [some (false, tC ⟨kd, nm, tf, ta⟩)]).set id z)[h.length]? = some (some (false, tC ⟨kd, nm, tf, ta⟩)) := fun z => boxE2 ho
 have hset := setlE ho [some (false, tC ⟨kd, nm, tf, ta⟩)]
 have hid := (List.getElem?_eq_some_iff.1 ho).1
 have n1 : (id = h.length) = False := by simp; omega
 have n2 : (h.length = id) = False := by simp; omega
 have hpart : b = false → _ := fun hb => a_part (h := h ++ [some (false, tC ⟨kd, nm, tf, ta⟩)]) (t := ⟨kd, nm, tf, ta⟩) ho1 hb hl (by show out.length ≤ _; omega) hl3
 have hlay : ∀ m : Int, 0 < m → _ := fun m hm => a_lay (h := h ++ [some (false, tC ⟨kd, nm, tf, ta⟩)]) (m := m) ho1 hm hw.2 hl (by show out.length ≤ _; omega)
 have hrc : ∀ m, (popR m w).reverse.length = (popR m w).length := fun m => List.length_reverse
 have hrl : ∀ m, (popR m w).length ≤ w.length := fun m => (List.dropWhile_suffix _).length_le
 simp only [tC] at ho1 hs1 hbx hbx2 hset hpart hlay ⊢
 cases b with
 | false =>
  refine ACalls.trim (acalls_of mixed J_expr_reader_take_ok (Nat.le_of_ble_eq_true rfl) ?_); simp only [J_expr_reader_take, ho1, hbx, wk,Nat.reduceEqDiff,Nat.reduceAdd,Nat.reduceLeDiff,reduceCtorEq,↓reduceIte]
  refine ACalls.use (hpart rfl) ?_; rintro _ _ ⟨rfl, rfl⟩; simp only [wk,↓reduceIte]
  rw [hset]
  exact trimR1
 | true =>
  by_cases hk : 0 < bindK kd
  ·have hk1 := bind_pos hk
   obtain ⟨g1, g2⟩ := take_inr (r := ⟨out, w, n, true⟩) (t := ⟨kd, nm, tf, ta⟩) (r' := ⟨out ++ (popL (bindK kd) w).map sgn, kd :: popR (bindK kd) w, n, false⟩) (by
    unfold takeR; rw [if_neg (by simp), if_pos hk])
   have hla := hlay _ hk
   simp only [layR, rob] at hla
   have qb := p_bind kd
   rw [bindP_ne (bind_ne hk).1] at qb
   have hrl2 := hrl (bindK kd)
   have hrc2 := hrc (bindK kd)
   rw [g1, g2]
   rcases hk1 with rfl | rfl | rfl | rfl
   all_goals
    refine ACalls.trim (acalls_of mixed J_expr_reader_take_ok (Nat.le_of_ble_eq_true rfl) ?_); simp only [J_expr_reader_take, ho1, hbx, wk,Nat.reduceEqDiff,Nat.reduceAdd,Int.reduceEq,reduceCtorEq,↓reduceIte]
    simp only [J_expr_reader_take_j2, hbx, wk,Nat.reduceEqDiff,reduceCtorEq,↓reduceIte]
    refine PCalls.use (qb) ?_; simp only [wk,Nat.reduceEqDiff,↓reduceIte]
    refine ACalls.use (hla) ?_; rintro _ _ ⟨rfl, rfl⟩; simp only [wkr,wk,ne_eq,eq_self,Nat.reduceEqDiff,Nat.reduceAdd,Nat.reduceLeDiff,Nat.reduceLT,reduceCtorEq,↓reduceIte, hbx2, hs1, n1, n2]
    simp only [J_expr_reader_take_j1, wk,↓reduceIte]
    refine ⟨⟨by omega, by omega⟩, ?_⟩
    rw [hset, rob_eq ⟨out ++ (popL _ w).map sgn, _ :: popR _ w, n, false⟩ rfl rfl List.reverse_cons.symm rfl rfl]
    exact trimR1
  ·have nb : ∀ k : Int, 0 < bindK k → (kd = k) = False := fun k hk2 => by simp; rintro rfl; exact hk hk2
   have e2 := nb 2 (by decide)
   have e3 := nb 3 (by decide)
   have e4 := nb 4 (by decide)
   have e5 := nb 5 (by decide)
   by_cases k7 : kd = 7
   ·subst k7
    by_cases hn : n = 0
    ·subst hn
     obtain ⟨g1, g2⟩ := take_inl (r := ⟨out, w, 0, true⟩) (t := ⟨7, nm, tf, ta⟩) (e := 2) (by unfold takeR; rw [if_neg (by simp), if_neg hk, if_pos rfl, if_pos rfl])
     refine ACalls.trim (acalls_of mixed J_expr_reader_take_ok (Nat.le_of_ble_eq_true rfl) ?_); simp only [J_expr_reader_take, ho1, hbx, wk,Nat.reduceEqDiff,Nat.reduceAdd,Int.reduceEq,reduceCtorEq,↓reduceIte]
     simp only [J_expr_reader_take_j2, ho1, (show (((0 : Nat) : Int) = 0) = True by simp), wk,Nat.reduceEqDiff,reduceCtorEq,↓reduceIte]
     exact trimR0 ho ⟨g1, g2⟩
    ·obtain ⟨g1, g2⟩ := take_inr (r := ⟨out, w, n, true⟩) (t := ⟨7, nm, tf, ta⟩) (r' := ⟨out ++ (popL 1 w).map sgn, (popR 1 w).tail, n - 1, true⟩) (by
      unfold takeR; rw [if_neg (by simp), if_neg hk, if_pos rfl, if_neg hn])
     have hla := hlay 1 (by decide)
     simp only [layR, rob] at hla
     refine ACalls.trim (acalls_of mixed J_expr_reader_take_ok (Nat.le_of_ble_eq_true rfl) ?_); simp only [J_expr_reader_take, ho1, hbx, wk,Nat.reduceEqDiff,Nat.reduceAdd,Int.reduceEq,reduceCtorEq,↓reduceIte]
     simp only [J_expr_reader_take_j2, ho1, (show ((n : Int) = 0) = False by simp; omega), wk,Nat.reduceEqDiff,reduceCtorEq,↓reduceIte]
     refine ACalls.use (hla) ?_; rintro _ _ ⟨rfl, rfl⟩; simp only [wkr,wk,Nat.reduceEqDiff,Nat.reduceAdd,Nat.reduceLeDiff,reduceCtorEq,↓reduceIte, hs1]
     intro v
     obtain ⟨R, e1, _⟩ := popR_close (P := w) (by have := hw.1; simp only at this; omega) hw.2
     have hR := hrl 1
     rw [e1] at hR g2
     rw [List.length_cons] at hR
     have q1 : (6 :: R).reverse.length = R.length + 1 := by simp
     have q2 : (((6 :: R).reverse.length : Int) - 1).toNat = R.length := by omega
     have q3 : (6 :: R).reverse.take R.length = R.reverse := by
      have := List.take_left (l₁ := R.reverse) (l₂ := [6])
      rw [List.length_reverse] at this
      rw [List.reverse_cons]; exact this
     rw [e1, q2, q3]
     refine ⟨inR_of (by omega) (by omega), ⟨by omega, by omega⟩, by omega, inR_of (by omega) (by omega), ?_⟩
     simp only [J_expr_reader_take_j1, wk,↓reduceIte]
     rw [hset, rob_eq ⟨out ++ (popL 1 w).map sgn, R, n - 1, true⟩ rfl rfl rfl (by show (n : Int) - 1 = ((n - 1 : Nat) : Int); omega) rfl, g1, g2]
     exact trimR rfl
   ·have e7 : (kd = 7) = False := by simpa using k7
    refine ACalls.trim (acalls_of mixed J_expr_reader_take_ok (Nat.le_of_ble_eq_true rfl) ?_); simp only [J_expr_reader_take, ho1, hbx, e2, e3, e4, e5, wk,Nat.reduceEqDiff,Nat.reduceAdd,reduceCtorEq,↓reduceIte]
    simp only [J_expr_reader_take_j2, e7, wk,Nat.reduceEqDiff,reduceCtorEq,↓reduceIte]
    exact trimR0 ho (take_inl (by unfold takeR; rw [if_neg (by simp), if_neg hk, if_neg k7]))
end Go.Proofs.YtedaffmkpljlnaaGreat
/- Expressions: Read. -/
-- fast
-- rows
namespace Go.Proofs.YtedaffmkpljlnaaGreat
open Go.RowKit Go.Lib

def wdB (t : Tok) : Bool := !decide (wordT t.kind t.name t.of = ⟨#[]⟩)
def resX (r : List Trm × Nat × Int) : AV := .tup [vTrs r.1, .int .i64 r.2.1, .int .i64 r.2.2]
theorem free_resX (r : List Trm × Nat × Int) : free (resX r) = true := by simp [resX, vTrs, free, free.frees, frees_trs]
theorem rdps_trs : ∀ l : List Trm, rdps (trsC l) = trsC l
 | [] => rdps_nil
 | x :: l => by
  have := rdps_trs l
  simp only [trsC, List.flatMap_cons, trC, List.cons_append, List.nil_append, rdpw] at this ⊢
  rw [this]
theorem take_size {r r' : Rdr} {t : Tok} (h : takeR r t = .inr r') : r'.out.length + r'.w.length ≤ r.out.length + r.w.length + 1 := by
 have key : ∀ m, (popL m r.w).length + (popR m r.w).length = r.w.length := fun m => by
  rw [← List.length_append, popL, popR, List.takeWhile_append_dropWhile]
 unfold takeR at h
 split at h
 ·split at h
  ·split at h
   ·cases h
   ·simp only [Sum.inr.injEq] at h; subst h; simp; omega
  ·split at h
   ·split at h
    ·cases h
    ·simp only [Sum.inr.injEq] at h; subst h; simp; omega
   ·cases h
 ·split at h
  ·simp only [Sum.inr.injEq] at h; subst h
   have := key (bindK t.kind)
   simp only [List.length_append, List.length_map, List.length_cons]; omega
  ·split at h
   ·split at h
    ·cases h
    ·simp only [Sum.inr.injEq] at h; subst h
     have := key 1
     simp only [List.length_append, List.length_map, List.length_tail]; omega
   ·cases h
theorem rcnt_le {r : Rdr} (h : rcnt r) : r.opn ≤ r.w.length := by rw [← h.1]; exact List.count_le_length
theorem p_read (l : List Tok) (hl : l.length ≤ 5000) (hn : ∀ t ∈ l, t.name.size ≤ 1000000) : PCalls Tryz.prog 62 [vToks l] (resX (readR wdB l)) := by
 refine pcalls_of (by simp [vToks, free, free.frees, frees_toks]) (free_resX _) (ACalls.deep (acalls_of mixed J_expr_Read_ok (Nat.le_of_ble_eq_true rfl) ?_)); simp only [J_expr_Read, vToks, wk,Nat.reduceEqDiff,reduceCtorEq,↓reduceIte]
 refine W_loop (fun m fr h' => ∃ i : Nat, i ≤ l.length ∧ m = l.length - i ∧ (∀ j (hj : j < l.length), j < i → wdB l[j] = true) ∧ fr = [(0, .lst .ro l.length (toksC l)), (11, .lst .ro l.length (toksC l)), (12, .int .i64 l.length), (13, .int .i64 i)]) l.length ⟨0, by omega, by omega, fun j _ h => by omega, rfl⟩ ?_
 rintro m fr h' ⟨i, hi, rfl, hw, rfl⟩
 simp only [J_expr_Read_j4, wk,Nat.reduceEqDiff,Nat.reduceAdd,Nat.reduceLeDiff,reduceCtorEq,↓reduceIte]
 refine ⟨fun hlt => ?_, fun hge => ?_⟩
 ·have hil : i < l.length := by omega
  have hd : (toksC l).drop ((i : Int).toNat * 4) = _ := toksC_drop hil
  have qw := p_word l[i].kind l[i].name l[i].of l[i].at_ (hn _ (List.getElem_mem hil))
  refine ⟨⟨by omega, by omega⟩, ?_⟩
  simp only [wk,Nat.reduceAdd,Nat.reduceLeDiff,hd]
  refine PCalls.use (qw) ?_; simp only [wk,Nat.reduceEqDiff,reduceCtorEq,↓reduceIte]
  refine ⟨fun h0 => ?_, fun h0 => ⟨inR_of (by omega) (by omega), l.length - (i + 1), by omega, i + 1, by omega, rfl, fun j hj hji => ?_, rfl⟩⟩
  ·have hf : l.findIdx? (fun t => !wdB t) = some i := by
    rw [List.findIdx?_eq_some_iff_getElem]
    refine ⟨hil, by simp [wdB, h0], fun j hj => ?_⟩
    rw [hw j (by omega) hj]; simp
   unfold readR
   rw [hf]
   simp only [rdpw, resX, vTrs]
   rfl
  ·rcases Nat.lt_or_ge j i with h1 | h1
   ·exact hw j hj h1
   ·obtain rfl : j = i := by omega
    simpa [wdB] using h0
 ·have hall : ∀ t ∈ l, wdB t = true := fun t ht => by
   obtain ⟨j, hj, rfl⟩ := List.mem_iff_getElem.1 ht
   exact hw j hj (by omega)
  have hr0 := runR_eq l 0 false ⟨[], [], 0, false⟩ (fun _ => by simp)
  rw [readR_acc hall]
  simp only [J_expr_Read_j3, wkr,wk,Nat.reduceEqDiff,reduceCtorEq,↓reduceIte]
  obtain ⟨id, hid⟩ : ∃ id, id = h'.length := ⟨_, rfl⟩
  rw [← hid]
  refine W_loop (fun m fr h'' => ∃ (i : Nat) (r : Rdr), i ≤ l.length ∧ m = l.length - i ∧ runR 0 ⟨[], [], 0, false⟩ l = runR i r (l.drop i) ∧ rcnt r ∧ r.out.length + r.w.length ≤ i ∧ h''[id]? = some (rob none r) ∧ fr = [(0, .lst .ro l.length (toksC l)), (7, .ptr id 0), (23, .lst .ro l.length (toksC l)), (24, .int .i64 l.length), (25, .int .i64 i)]) l.length ⟨0, ⟨[], [], 0, false⟩, by omega, by omega, rfl, ⟨rfl, by simp⟩, by simp, by rw [hid]; exact boxE, rfl⟩ ?_
  rintro m fr h'' ⟨i2, r, hi2, rfl, hrun, hrc, hsz, hob, rfl⟩
  simp only [J_expr_Read_j2, wk,Nat.reduceEqDiff,Nat.reduceAdd,Nat.reduceLeDiff,reduceCtorEq,↓reduceIte]
  refine ⟨fun hlt => ?_, fun hge2 => ?_⟩
  ·have hil : i2 < l.length := by omega
   have hd : (toksC l).drop ((i2 : Int).toNat * 4) = _ := toksC_drop hil
   refine ⟨⟨by omega, by omega⟩, ?_⟩
   have htk := fun ex => a_take (t := l[i2]) (holdE hob ex) hrc (by omega) (by omega) (by have := rcnt_le hrc; omega)
   simp only [tC] at htk
   rw [List.drop_eq_getElem_cons hil] at hrun
   simp only [runR] at hrun
   simp only [wk,Nat.reduceAdd,Nat.reduceLeDiff,hd]
   refine ACalls.use (htk _) ?_; rintro _ _ ⟨rfl, rfl⟩; simp only [wk,ne_eq,eq_self,Nat.reduceEqDiff,reduceCtorEq,↓reduceIte]
   cases ht : takeR r l[i2] with
   | inl e =>
    rw [ht] at hrun
    simp only at hrun
    rw [hrun] at hr0
    obtain ⟨g1, g2⟩ := take_inl ht
    rw [g1]
    cases hc : ctlE 100 0 false 0 false l with
    | inr y => rw [hc] at hr0; cases hr0
    | inl y =>
     rw [hc] at hr0
     simp only [Sum.inl.injEq] at hr0
     subst hr0
     obtain ⟨_, _, he⟩ := ctlE_lt _ _ _ _ _ _ _ hc
     refine ⟨fun h0 => ?_, fun h0 => absurd h0 (by omega)⟩
     simp only [rdpw, resX, vTrs]
     rfl
   | inr r' =>
    rw [ht] at hrun
    simp only at hrun
    obtain ⟨g1, g2⟩ := take_inr ht
    rw [g1, g2]
    refine ⟨fun h => absurd rfl h, fun _ => ⟨inR_of (by omega) (by omega), l.length - (i2 + 1), by omega, i2 + 1, r', by omega, rfl, hrun, rcnt_take hrc ht, by have := take_size ht; omega, hset1 (holdE hob _) _, rfl⟩⟩
  ·obtain rfl : i2 = l.length := by omega
   rw [List.drop_length] at hrun
   simp only [runR] at hrun
   rw [hrun] at hr0
   cases hc : ctlE 100 0 false 0 false l with
   | inl y => rw [hc] at hr0; cases hr0
   | inr y =>
    obtain ⟨b, n⟩ := y
    rw [hc] at hr0
    simp only [Sum.inr.injEq] at hr0
    obtain ⟨out, w, opn, beh⟩ := r
    simp only [Rdr.mk.injEq] at hr0
    obtain ⟨rfl, rfl, rfl, rfl⟩ := hr0
    have hla := a_lay (m := 1) hob (by decide) hrc.2 (by simp only at hsz ⊢; omega) (by simp only at hsz ⊢; omega)
    have hob2 := hset1 hob (rob none (layR 1 ⟨(srun l ([], [])).1, (srun l ([], [])).2, opn, beh⟩))
    simp only [rob, layR] at hla hob hob2
    have hrd : (srun l ([], [])).1 ++ (popL 1 (srun l ([], [])).2).map sgn = readD l := rfl
    rw [hrd] at hla hob2
    simp only [J_expr_Read_j1, hob, wk,Nat.reduceEqDiff,reduceCtorEq,↓reduceIte]
    refine ⟨fun hb => ⟨fun h0 => ?_, fun h0 => ?_⟩, fun hb => ?_⟩
    ·rw [if_pos (.inr (by omega))]
     simp only [rdpw, resX, vTrs]
     rfl
    ·rw [if_neg (by rw [hb]; simp; omega)]
     refine ACalls.use (hla) ?_; rintro _ _ ⟨rfl, rfl⟩; simp only [wk,Nat.reduceEqDiff,reduceCtorEq,↓reduceIte, hob2]
     refine ⟨fun h2 => ?_, fun h2 => ?_⟩
     ·rw [if_pos (by omega)]
      simp only [rdpw, resX, vTrs]
      rfl
     ·rw [if_neg (by omega)]
      simp only [rdpw, resX, vTrs, rdps_trs]
      rfl
    ·rw [if_pos (.inl hb)]
     simp only [rdpw, resX, vTrs]
     rfl
end Go.Proofs.YtedaffmkpljlnaaGreat
/- Expressions: the document's Read. -/
-- fast
-- rows
namespace Go.Proofs.YtedaffmkpljlnaaGreat
open Go.RowKit Go.Lib

def checkR (wd : Tok → Bool) (l : List Tok) : Nat × Int :=
 match l.findIdx? (fun t => !wd t) with
 | some i => (i, 2)
 | none => match ctlE 100 0 false 0 false l with
  | .inl (i, e) => (i, e)
  | .inr (b, n) => if b = false ∨ 0 < n then (l.length, 2) else (0, 0)
theorem checkR_acc {wd : Tok → Bool} {l : List Tok} (hw : ∀ t ∈ l, wd t = true) : checkR wd l = match ctlE 100 0 false 0 false l with
  | .inl (i, e) => (i, e)
  | .inr (b, n) => if b = false ∨ 0 < n then (l.length, 2) else (0, 0) := by
 unfold checkR
 rw [List.findIdx?_eq_none_iff.2 (by intro t ht; rw [hw t ht]; rfl)]
def asA (l : List Tok) : Nat → Bool
 | 0 => false
 | j + 1 => (l[j]?).elim false fun t => decide (t.kind = 5)
theorem asA_succ {l : List Tok} {i : Nat} (h : i < l.length) : asA l (i + 1) = decide (l[i].kind = 5) := by
 simp [asA, List.getElem?_eq_getElem h]
theorem eqTrue {p : Prop} (h : p) : p = True := eq_true h
theorem eqFalse {p : Prop} (h : ¬ p) : p = False := eq_false h
theorem p_check (l : List Tok) (hl : l.length ≤ 5000) (hn : ∀ t ∈ l, t.name.size ≤ 1000000) : PCalls Tryz.prog 102 [vToks l] (.tup [.int .i64 (checkR wdB l).1, .int .i64 (checkR wdB l).2]) := by
 refine pcalls_of (by simp [vToks, free, free.frees, frees_toks]) rfl (acalls_of mixed J_ref05_check_ok (Nat.le_of_ble_eq_true rfl) ?_); simp only [J_ref05_check, vToks, wk,reduceCtorEq,↓reduceIte]
 refine W_loop (fun m fr h' => ∃ i : Nat, i ≤ l.length ∧ m = l.length - i ∧ (∀ j (hj : j < l.length), j < i → wdB l[j] = true) ∧ fr = [(0, .lst .ro l.length (toksC l)), (4, .int .i64 i)]) l.length ⟨0, by omega, by omega, fun j _ h => by omega, rfl⟩ ?_
 rintro m fr h' ⟨i, hi, rfl, hw, rfl⟩
 simp only [J_ref05_check_j5, wk,Nat.reduceEqDiff,reduceCtorEq,↓reduceIte]
 refine ⟨fun hlt => ?_, fun hge => ?_⟩
 ·have hil : i < l.length := by omega
  have hd : (toksC l).drop ((i : Int).toNat * 4) = _ := toksC_drop hil
  have qw := p_rword04 l[i].kind l[i].name l[i].of l[i].at_ (hn _ (List.getElem_mem hil))
  refine ⟨⟨by omega, by omega⟩, ?_⟩
  simp only [wk,Nat.reduceLeDiff,hd]
  refine PCalls.use (qw) ?_; simp only [wk,Nat.reduceEqDiff,reduceCtorEq,↓reduceIte]
  refine ⟨fun h0 => ?_, fun h0 => ⟨inR_of (by omega) (by omega), l.length - (i + 1), by omega, i + 1, by omega, rfl, fun j hj hji => ?_, rfl⟩⟩
  ·have hf : l.findIdx? (fun t => !wdB t) = some i := by
    rw [List.findIdx?_eq_some_iff_getElem]
    refine ⟨hil, by simp [wdB, h0], fun j hj => ?_⟩
    rw [hw j (by omega) hj]; simp
   unfold checkR
   rw [hf]
  ·rcases Nat.lt_or_ge j i with h1 | h1
   ·exact hw j hj h1
   ·obtain rfl : j = i := by omega
    simpa [wdB] using h0
 ·have hall : ∀ t ∈ l, wdB t = true := fun t ht => by
   obtain ⟨j, hj, rfl⟩ := List.mem_iff_getElem.1 ht
   exact hw j hj (by omega)
  rw [checkR_acc hall]
  simp only [J_ref05_check_j4, wk,Nat.reduceEqDiff,reduceCtorEq,↓reduceIte]
  refine W_loop (fun m fr h'' => ∃ (i : Nat) (b : Bool) (n : Nat), i ≤ l.length ∧ m = l.length - i ∧ n ≤ i ∧ ctlE 100 0 false 0 false l = ctlE 100 i b n (asA l i) (l.drop i) ∧ fr = [(0, .lst .ro l.length (toksC l)), (5, .bool b), (6, .int .i64 n), (7, .int .i64 i)]) l.length ⟨0, false, 0, by omega, by omega, by omega, rfl, rfl⟩ ?_
  rintro m fr h'' ⟨i2, b, n, hi2, rfl, hni, hrun, rfl⟩
  simp only [J_ref05_check_j3, wk,Nat.reduceEqDiff,Nat.reduceAdd,Nat.reduceLeDiff,reduceCtorEq,↓reduceIte]
  refine ⟨fun hlt => ?_, fun hge2 => ?_⟩
  ·have hil : i2 < l.length := by omega
   have hd : (toksC l).drop ((i2 : Int).toNat * 4) = _ := toksC_drop hil
   refine ⟨⟨by omega, by omega⟩, ?_⟩
   rw [List.drop_eq_getElem_cons hil] at hrun
   simp only [ctlE] at hrun
   have nxt : ∀ (b' : Bool) (n' : Nat), cstep 100 b n (asA l i2) l[i2] = some (b', n') → n' ≤ i2 + 1 → inR ((i2 : Int) + 1) ∧ ∃ m, m < l.length - i2 ∧ ∃ (i' : Nat) (b'' : Bool) (n'' : Nat), i' ≤ l.length ∧ m = l.length - i' ∧ n'' ≤ i' ∧ ctlE 100 0 false 0 false l = ctlE 100 i' b'' n'' (asA l i') (l.drop i') ∧ [(0, AV.lst .ro l.length (toksC l)), (5, .bool b'), (6, .int .i64 n'), (7, .int .i64 ((i2 : Int) + 1))] = [(0, .lst .ro l.length (toksC l)), (5, .bool b''), (6, .int .i64 n''), (7, .int .i64 i')] := fun b' n' hc hn' => by
    rw [hc] at hrun
    simp only [← asA_succ hil] at hrun
    exact ⟨inR_of (by omega) (by omega), l.length - (i2 + 1), by omega, i2 + 1, b', n', by omega, rfl, hn', hrun, rfl⟩
   have err : ∀ e : Int, cstep 100 b n (asA l i2) l[i2] = none → (if b = false ∧ l[i2].kind = 6 ∧ asA l i2 = false then (3 : Int) else 2) = e → AV.tup [.int .i64 i2, .int .i64 e] = .tup [.int .i64 (match ctlE 100 0 false 0 false l with | .inl (i, e) => (i, e) | .inr (b, n) => if b = false ∨ 0 < n then (l.length, 2) else (0, 0)).1, .int .i64 (match ctlE 100 0 false 0 false l with | .inl (i, e) => (i, e) | .inr (b, n) => if b = false ∨ 0 < n then (l.length, 2) else (0, 0)).2] := fun e hc he => by
    rw [hc] at hrun
    rw [hrun]
    simp only [he]
   cases i2 with
   | zero =>
    have hA : asA l 0 = false := rfl
    cases b with
    | false =>
     by_cases k1 : l[0].kind = 1
     ·have hx := nxt true n (by unfold cstep; rw [if_pos rfl, if_pos ⟨k1, .inl hA⟩]) (by omega)
      simp only [wk,forall_const,eq_self,Nat.reduceEqDiff,Nat.reduceAdd,Nat.reduceMul,Nat.reduceLeDiff,reduceCtorEq,↓reduceIte, J_ref05_check_j2, hd, (show ((0 : Int) < ((0 : Nat) : Int)) = False by simp), eqTrue k1]
      exact hx
     ·by_cases k6 : l[0].kind = 6
      ·by_cases kn : n = 100
       ·have hx := err 3 (by unfold cstep; rw [if_pos rfl, if_neg (fun h => k1 h.1), if_pos ⟨k6, hA⟩, if_pos kn]) (by rw [if_pos ⟨rfl, k6, hA⟩])
        simp only [wk,forall_const,eq_self,Nat.reduceEqDiff,Nat.reduceAdd,Nat.reduceMul,Nat.reduceLeDiff,reduceCtorEq,↓reduceIte, J_ref05_check_j2, hd, (show ((0 : Int) < ((0 : Nat) : Int)) = False by simp), eqFalse k1, eqTrue k6, (show ((n : Int) = 100) = True by simp; omega)]
        exact hx
       ·have hx := nxt false (n + 1) (by unfold cstep; rw [if_pos rfl, if_neg (fun h => k1 h.1), if_pos ⟨k6, hA⟩, if_neg kn]) (by omega)
        simp only [wk,forall_const,eq_self,Nat.reduceEqDiff,Nat.reduceAdd,Nat.reduceMul,Nat.reduceLeDiff,reduceCtorEq,↓reduceIte, J_ref05_check_j2, hd, (show ((0 : Int) < ((0 : Nat) : Int)) = False by simp), eqFalse k1, eqTrue k6, (show ((n : Int) = 100) = False by simp; omega)]
        exact ⟨inR_of (by omega) (by omega), hx⟩
      ·have hx := err 2 (by unfold cstep; rw [if_pos rfl, if_neg (fun h => k1 h.1), if_neg (fun h => k6 h.1)]) (by rw [if_neg (fun h => k6 h.2.1)])
       simp only [wk,forall_const,eq_self,Nat.reduceEqDiff,Nat.reduceAdd,Nat.reduceMul,Nat.reduceLeDiff,reduceCtorEq,↓reduceIte, J_ref05_check_j2, hd, (show ((0 : Int) < ((0 : Nat) : Int)) = False by simp), eqFalse k1, eqFalse k6]
       exact hx
    | true =>
     by_cases k7 : l[0].kind = 7
     ·by_cases kn : 0 < n
      ·have hx := nxt true (n - 1) (by unfold cstep; rw [if_neg (by simp), if_pos k7, if_pos kn]) (by omega)
       simp only [wk,forall_const,eq_self,Nat.reduceEqDiff,Nat.reduceAdd,Nat.reduceMul,Nat.reduceLeDiff,reduceCtorEq,↓reduceIte, J_ref05_check_j2, hd, (show ((0 : Int) < ((0 : Nat) : Int)) = False by simp), eqTrue k7, (show ((0 : Int) < (n : Int)) = True by simp; omega)]
       rw [show ((n : Int) - 1) = ((n - 1 : Nat) : Int) by omega]
       exact ⟨inR_of (by omega) (by omega), hx⟩
      ·have hx := err 2 (by unfold cstep; rw [if_neg (by simp), if_pos k7, if_neg kn]) (by rw [if_neg (by simp)])
       simp only [wk,forall_const,eq_self,Nat.reduceEqDiff,Nat.reduceAdd,Nat.reduceMul,Nat.reduceLeDiff,reduceCtorEq,↓reduceIte, J_ref05_check_j2, hd, (show ((0 : Int) < ((0 : Nat) : Int)) = False by simp), eqTrue k7, (show ((0 : Int) < (n : Int)) = False by simp; omega)]
       refine PCalls.use (p_binds _) ?_; simp only [wk,Nat.reduceEqDiff,reduceCtorEq,↓reduceIte]
       simp only [wk,forall_const,Int.reduceLT,(show bindK l[0].kind = 0 by rw [k7]; rfl)]
       exact hx
     ·by_cases kb : (0 : Int) < bindK l[0].kind
      ·have hx := nxt false n (by unfold cstep; rw [if_neg (by simp), if_neg k7, if_pos kb]) (by omega)
       simp only [wk,forall_const,eq_self,Nat.reduceEqDiff,Nat.reduceAdd,Nat.reduceMul,Nat.reduceLeDiff,reduceCtorEq,↓reduceIte, J_ref05_check_j2, hd, (show ((0 : Int) < ((0 : Nat) : Int)) = False by simp), eqFalse k7]
       refine PCalls.use (p_binds _) ?_; simp only [wk,Nat.reduceEqDiff,reduceCtorEq,↓reduceIte]
       simp only [wk,forall_const,eqTrue kb]
       exact hx
      ·have hx := err 2 (by unfold cstep; rw [if_neg (by simp), if_neg k7, if_neg kb]) (by rw [if_neg (by simp)])
       simp only [wk,forall_const,eq_self,Nat.reduceEqDiff,Nat.reduceAdd,Nat.reduceMul,Nat.reduceLeDiff,reduceCtorEq,↓reduceIte, J_ref05_check_j2, hd, (show ((0 : Int) < ((0 : Nat) : Int)) = False by simp), eqFalse k7]
       refine PCalls.use (p_binds _) ?_; simp only [wk,Nat.reduceEqDiff,reduceCtorEq,↓reduceIte]
       simp only [wk,forall_const,eqFalse kb]
       exact hx
   | succ j =>
    have hjl : j < l.length := by omega
    have hdj := toksC_drop hjl
    rw [show j * 4 = (((j + 1 : Nat) : Int) - 1).toNat * 4 by omega] at hdj
    have hp := asA_succ hjl
    have hj0 : ((0 : Int) < ((j + 1 : Nat) : Int)) = True := eqTrue (by omega)
    have hj1 : inR (((j + 1 : Nat) : Int) - 1) = True := eqTrue (inR_of (by omega) (by omega))
    have hj2 : ((0 : Int) ≤ ((j + 1 : Nat) : Int) - 1) = True := eqTrue (by omega)
    have hj3 : (((j + 1 : Nat) : Int) - 1 < (l.length : Int)) = True := eqTrue (by omega)
    by_cases h5 : l[j].kind = 5
    ·have hA : asA l (j + 1) = true := by rw [hp]; simp [h5]
     cases b with
     | false =>
      by_cases k1 : l[j + 1].kind = 1
      ·by_cases k5 : l[j + 1].of = 5
       ·have hx := nxt true n (by unfold cstep; rw [if_pos rfl, if_pos ⟨k1, .inr k5⟩]) (by omega)
        simp only [wk,forall_const,eq_self,Nat.reduceEqDiff,Nat.reduceAdd,Nat.reduceLeDiff,reduceCtorEq,↓reduceIte, J_ref05_check_j2, hd, hj0, hj1, hj2, hj3, hdj, eqTrue h5, eqTrue k1, eqTrue k5]
        exact hx
       ·have hx := err 2 (by unfold cstep; rw [if_pos rfl, if_neg (by rintro ⟨_, h | h⟩; rw [hA] at h; cases h; exact k5 h), if_neg (by omega)]) (by rw [if_neg (by omega)])
        simp only [wk,forall_const,eq_self,Nat.reduceEqDiff,Nat.reduceAdd,Nat.reduceLeDiff,reduceCtorEq,↓reduceIte, J_ref05_check_j2, hd, hj0, hj1, hj2, hj3, hdj, eqTrue h5, eqTrue k1, eqFalse k5, (show (l[j + 1].kind = 6) = False by simp; omega)]
        exact hx
      ·have hx := err 2 (by unfold cstep; rw [if_pos rfl, if_neg (fun h => k1 h.1), if_neg (by rintro ⟨_, h⟩; rw [hA] at h; cases h)]) (by rw [if_neg (by rintro ⟨_, _, h⟩; rw [hA] at h; cases h)])
       by_cases k6 : l[j + 1].kind = 6
       ·simp only [wk,forall_const,eq_self,Nat.reduceEqDiff,Nat.reduceAdd,Nat.reduceLeDiff,reduceCtorEq,↓reduceIte, J_ref05_check_j2, hd, hj0, hj1, hj2, hj3, hdj, eqTrue h5, eqFalse k1, eqTrue k6]
        exact hx
       ·simp only [wk,forall_const,eq_self,Nat.reduceEqDiff,Nat.reduceAdd,Nat.reduceLeDiff,reduceCtorEq,↓reduceIte, J_ref05_check_j2, hd, hj0, hj1, hj2, hj3, hdj, eqTrue h5, eqFalse k1, eqFalse k6]
        exact hx
     | true =>
      by_cases k7 : l[j + 1].kind = 7
      ·by_cases kn : 0 < n
       ·have hx := nxt true (n - 1) (by unfold cstep; rw [if_neg (by simp), if_pos k7, if_pos kn]) (by omega)
        simp only [wk,forall_const,eq_self,Nat.reduceEqDiff,Nat.reduceAdd,Nat.reduceLeDiff,reduceCtorEq,↓reduceIte, J_ref05_check_j2, hd, hj0, hj1, hj2, hj3, hdj, eqTrue h5, eqTrue k7, (show ((0 : Int) < (n : Int)) = True by simp; omega)]
        rw [show ((n : Int) - 1) = ((n - 1 : Nat) : Int) by omega]
        exact ⟨inR_of (by omega) (by omega), hx⟩
       ·have hx := err 2 (by unfold cstep; rw [if_neg (by simp), if_pos k7, if_neg kn]) (by rw [if_neg (by simp)])
        simp only [wk,forall_const,eq_self,Nat.reduceEqDiff,Nat.reduceAdd,Nat.reduceLeDiff,reduceCtorEq,↓reduceIte, J_ref05_check_j2, hd, hj0, hj1, hj2, hj3, hdj, eqTrue h5, eqTrue k7, (show ((0 : Int) < (n : Int)) = False by simp; omega)]
        refine PCalls.use (p_binds _) ?_; simp only [wk,Nat.reduceEqDiff,reduceCtorEq,↓reduceIte]
        simp only [wk,forall_const,Int.reduceLT,(show bindK l[j + 1].kind = 0 by rw [k7]; rfl)]
        exact hx
      ·by_cases kb : (0 : Int) < bindK l[j + 1].kind
       ·have hx := nxt false n (by unfold cstep; rw [if_neg (by simp), if_neg k7, if_pos kb]) (by omega)
        simp only [wk,forall_const,eq_self,Nat.reduceEqDiff,Nat.reduceAdd,Nat.reduceLeDiff,reduceCtorEq,↓reduceIte, J_ref05_check_j2, hd, hj0, hj1, hj2, hj3, hdj, eqTrue h5, eqFalse k7]
        refine PCalls.use (p_binds _) ?_; simp only [wk,Nat.reduceEqDiff,reduceCtorEq,↓reduceIte]
        simp only [wk,forall_const,eqTrue kb]
        exact hx
       ·have hx := err 2 (by unfold cstep; rw [if_neg (by simp), if_neg k7, if_neg kb]) (by rw [if_neg (by simp)])
        simp only [wk,forall_const,eq_self,Nat.reduceEqDiff,Nat.reduceAdd,Nat.reduceLeDiff,reduceCtorEq,↓reduceIte, J_ref05_check_j2, hd, hj0, hj1, hj2, hj3, hdj, eqTrue h5, eqFalse k7]
        refine PCalls.use (p_binds _) ?_; simp only [wk,Nat.reduceEqDiff,reduceCtorEq,↓reduceIte]
        simp only [wk,forall_const,eqFalse kb]
        exact hx
    ·have hA : asA l (j + 1) = false := by rw [hp]; simp [h5]
     cases b with
     | false =>
      by_cases k1 : l[j + 1].kind = 1
      ·have hx := nxt true n (by unfold cstep; rw [if_pos rfl, if_pos ⟨k1, .inl hA⟩]) (by omega)
       simp only [wk,forall_const,eq_self,Nat.reduceEqDiff,Nat.reduceAdd,Nat.reduceLeDiff,reduceCtorEq,↓reduceIte, J_ref05_check_j2, hd, hj0, hj1, hj2, hj3, hdj, eqFalse h5, eqTrue k1]
       exact hx
      ·by_cases k6 : l[j + 1].kind = 6
       ·by_cases kn : n = 100
        ·have hx := err 3 (by unfold cstep; rw [if_pos rfl, if_neg (fun h => k1 h.1), if_pos ⟨k6, hA⟩, if_pos kn]) (by rw [if_pos ⟨rfl, k6, hA⟩])
         simp only [wk,forall_const,eq_self,Nat.reduceEqDiff,Nat.reduceAdd,Nat.reduceLeDiff,reduceCtorEq,↓reduceIte, J_ref05_check_j2, hd, hj0, hj1, hj2, hj3, hdj, eqFalse h5, eqFalse k1, eqTrue k6, (show ((n : Int) = 100) = True by simp; omega)]
         exact hx
        ·have hx := nxt false (n + 1) (by unfold cstep; rw [if_pos rfl, if_neg (fun h => k1 h.1), if_pos ⟨k6, hA⟩, if_neg kn]) (by omega)
         simp only [wk,forall_const,eq_self,Nat.reduceEqDiff,Nat.reduceAdd,Nat.reduceLeDiff,reduceCtorEq,↓reduceIte, J_ref05_check_j2, hd, hj0, hj1, hj2, hj3, hdj, eqFalse h5, eqFalse k1, eqTrue k6, (show ((n : Int) = 100) = False by simp; omega)]
         exact ⟨inR_of (by omega) (by omega), hx⟩
       ·have hx := err 2 (by unfold cstep; rw [if_pos rfl, if_neg (fun h => k1 h.1), if_neg (fun h => k6 h.1)]) (by rw [if_neg (fun h => k6 h.2.1)])
        simp only [wk,forall_const,eq_self,Nat.reduceEqDiff,Nat.reduceAdd,Nat.reduceLeDiff,reduceCtorEq,↓reduceIte, J_ref05_check_j2, hd, hj0, hj1, hj2, hj3, hdj, eqFalse h5, eqFalse k1, eqFalse k6]
        exact hx
     | true =>
      by_cases k7 : l[j + 1].kind = 7
      ·by_cases kn : 0 < n
       ·have hx := nxt true (n - 1) (by unfold cstep; rw [if_neg (by simp), if_pos k7, if_pos kn]) (by omega)
        simp only [wk,forall_const,eq_self,Nat.reduceEqDiff,Nat.reduceAdd,Nat.reduceLeDiff,reduceCtorEq,↓reduceIte, J_ref05_check_j2, hd, hj0, hj1, hj2, hj3, hdj, eqFalse h5, eqTrue k7, (show ((0 : Int) < (n : Int)) = True by simp; omega)]
        rw [show ((n : Int) - 1) = ((n - 1 : Nat) : Int) by omega]
        exact ⟨inR_of (by omega) (by omega), hx⟩
       ·have hx := err 2 (by unfold cstep; rw [if_neg (by simp), if_pos k7, if_neg kn]) (by rw [if_neg (by simp)])
        simp only [wk,forall_const,eq_self,Nat.reduceEqDiff,Nat.reduceAdd,Nat.reduceLeDiff,reduceCtorEq,↓reduceIte, J_ref05_check_j2, hd, hj0, hj1, hj2, hj3, hdj, eqFalse h5, eqTrue k7, (show ((0 : Int) < (n : Int)) = False by simp; omega)]
        refine PCalls.use (p_binds _) ?_; simp only [wk,Nat.reduceEqDiff,reduceCtorEq,↓reduceIte]
        simp only [wk,forall_const,Int.reduceLT,(show bindK l[j + 1].kind = 0 by rw [k7]; rfl)]
        exact hx
      ·by_cases kb : (0 : Int) < bindK l[j + 1].kind
       ·have hx := nxt false n (by unfold cstep; rw [if_neg (by simp), if_neg k7, if_pos kb]) (by omega)
        simp only [wk,forall_const,eq_self,Nat.reduceEqDiff,Nat.reduceAdd,Nat.reduceLeDiff,reduceCtorEq,↓reduceIte, J_ref05_check_j2, hd, hj0, hj1, hj2, hj3, hdj, eqFalse h5, eqFalse k7]
        refine PCalls.use (p_binds _) ?_; simp only [wk,Nat.reduceEqDiff,reduceCtorEq,↓reduceIte]
        simp only [wk,forall_const,eqTrue kb]
        exact hx
       ·have hx := err 2 (by unfold cstep; rw [if_neg (by simp), if_neg k7, if_neg kb]) (by rw [if_neg (by simp)])
        simp only [wk,forall_const,eq_self,Nat.reduceEqDiff,Nat.reduceAdd,Nat.reduceLeDiff,reduceCtorEq,↓reduceIte, J_ref05_check_j2, hd, hj0, hj1, hj2, hj3, hdj, eqFalse h5, eqFalse k7]
        refine PCalls.use (p_binds _) ?_; simp only [wk,Nat.reduceEqDiff,reduceCtorEq,↓reduceIte]
        simp only [wk,forall_const,eqFalse kb]
        exact hx
  ·obtain rfl : i2 = l.length := by omega
   rw [List.drop_length] at hrun
   simp only [ctlE] at hrun
   rw [hrun]
   simp only [J_ref05_check_j1, wk,Nat.reduceEqDiff,reduceCtorEq,↓reduceIte]
   refine ⟨fun hb => ⟨fun h0 => ?_, fun h0 => ?_⟩, fun hb => ?_⟩
   ·rw [if_pos (.inr (by omega))]
   ·rw [if_neg (by rw [hb]; simp; omega)]; rfl
   ·rw [if_pos (.inl hb)]
end Go.Proofs.YtedaffmkpljlnaaGreat
/- Expressions: the document's terms, and its Read. -/
-- fast
-- rows
namespace Go.Proofs.YtedaffmkpljlnaaGreat
open Go.RowKit Go.Lib

theorem acc_cases {M : Nat} {l : List Tok} (ha : accT M l) : (∃ t, l = [t] ∧ readD l = [leaf t]) ∨ (l.length ≠ 1 ∧ ∃ (o c : Tok) (m : List Tok), l = o :: (m ++ [c]) ∧ bestF 0 0 (-1) 9 l = (-1, 9) ∧ accT M m ∧ readD l = readD m) ∨
  (l.length ≠ 1 ∧ ∃ (l1 l2 : List Tok) (s : Tok), l = l1 ++ s :: l2 ∧ bestF 0 0 (-1) 9 l = (((l1.length : Nat) : Int), bindK s.kind) ∧ accT M l1 ∧ accT M l2 ∧ readD l = readD l1 ++ (readD l2 ++ [sgn s.kind])) := by
 by_cases h1 : l.length = 1
 ·left
  obtain ⟨t, rfl⟩ := List.length_eq_one_iff.1 h1
  obtain ⟨b', n', q1, q2⟩ := ctl_cons ha
  rcases cstep_cases q1 with ⟨_, k, _⟩ | ⟨_, k, _, _, rfl, _⟩ | ⟨q, _⟩ | ⟨q, _⟩
  ·exact ⟨t, rfl, readD_one t k⟩
  ·simp [ctl] at q2
  ·cases q
  ·cases q
 right
 rcases best_spec l false 0 false (true, 0) 0 (-1) 9 ha with ⟨e1, e2⟩ | ⟨l1, l2, s, e1, e2, e3, e4, e5, e6, e7, e8⟩
 ·left
  refine ⟨h1, ?_⟩
  have e1' : bestF 0 0 (-1) 9 l = (-1, 9) := e1
  cases l with
  | nil => simp [accT, ctl] at ha
  | cons t l =>
   obtain ⟨b', n', q1, q2⟩ := ctl_cons ha
   simp only [lowsOk] at e2
   rcases cstep_cases q1 with ⟨_, k, _, rfl, rfl⟩ | ⟨_, k, _, _, rfl, rfl⟩ | ⟨q, _⟩ | ⟨q, _⟩
   ·exfalso
    rw [if_neg (by omega), if_neg (by omega)] at e2
    cases l with
    | nil => simp at h1
    | cons u l2 =>
     obtain ⟨b2, n2, q3, q4⟩ := ctl_cons q2
     rcases cstep_cases q3 with ⟨q, _⟩ | ⟨q, _⟩ | ⟨_, _, q, _⟩ | ⟨_, q, _⟩
     ·cases q
     ·cases q
     ·omega
     ·have := e2.2
      simp only [lowsOk] at this
      rw [if_neg (bind_ne q).2.1, if_neg (bind_ne q).2.2] at this
      have := this.1 (by first | exact rfl | trivial) q
      have := bind_le u.kind
      omega
   ·rw [if_pos k] at e2
    rw [show decide (t.kind = 5) = false by rw [decide_eq_false]; omega] at q2
    obtain ⟨m, c, r1, r2, r3⟩ := ctl_close l false 0 false (by omega) q2 e2
    subst r1
    exact ⟨t, c, m, rfl, e1', r3, readD_open k r2 r3⟩
   ·cases q
   ·cases q
 ·right
  have e2' : bestF 0 0 (-1) 9 l = (((l1.length : Nat) : Int), bindK s.kind) := by rw [show (0 : Int) = ((0 : Nat) : Int) from rfl, e2]; simp
  have a2 : accT M l2 := by
   unfold accT
   cases hk : decide (s.kind = 5) with
   | false => rw [hk] at e6; exact e6
   | true => rw [hk] at e6; exact ctl_as e6
  exact ⟨h1, l1, l2, s, e1, e2', e5, a2, by rw [e1]; exact readD_sign e5 a2 e3 e7 e8⟩
theorem srun_size : ∀ (l : List Tok) (s : List Trm × List Int), (srun l s).1.length + (srun l s).2.length ≤ s.1.length + s.2.length + l.length
 | [], s => by simp [srun]
 | t :: l, s => by
  have ih := srun_size l (sstep s t)
  have key : ∀ m, (popL m s.2).length + (popR m s.2).length = s.2.length := fun m => by
   rw [← List.length_append, popL, popR, List.takeWhile_append_dropWhile]
  have h1 : (sstep s t).1.length + (sstep s t).2.length ≤ s.1.length + s.2.length + 1 := by
   unfold sstep
   split
   ·simp; omega
   ·split
    ·simp; omega
    ·split
     ·have := key 1
      simp only [List.length_append, List.length_map, List.length_tail]; omega
     ·have := key (bindK t.kind)
      simp only [List.length_append, List.length_map, List.length_cons]; omega
  show (srun l (sstep s t)).1.length + (srun l (sstep s t)).2.length ≤ _
  rw [List.length_cons]; omega
theorem readD_size (l : List Tok) : (readD l).length ≤ l.length := by
 have h1 := srun_size l ([], [])
 have h2 : (popL 1 (srun l ([], [])).2).length ≤ (srun l ([], [])).2.length := (List.takeWhile_prefix _).length_le
 unfold readD
 simp only [List.length_append, List.length_map, List.length_nil] at h1 ⊢
 omega
theorem toksC_app (a b : List Tok) : toksC (a ++ b) = toksC a ++ toksC b := by simp [toksC]
theorem toksC_cons (t : Tok) (l : List Tok) : toksC (t :: l) = tC t ++ toksC l := rfl
theorem trsC_app (a b : List Trm) : trsC (a ++ b) = trsC a ++ trsC b := by simp [trsC]
theorem p_terms : ∀ (f : Nat) (l : List Tok), l.length ≤ f → accT 100 l → l.length ≤ 5000 → PCalls Tryz.prog 103 [vToks l] (vTrs (readD l))
 | 0, l, hf, ha, _ => by
  have : l = [] := List.eq_nil_of_length_eq_zero (by omega)
  subst this
  simp [accT, ctl] at ha
 | f + 1, l, hf, ha, hl => by
  refine pcalls_of (by simp [vToks, free, free.frees, frees_toks]) (by simp [vTrs, free, frees_trs]) (ACalls.deep (acalls_of mixed J_ref05_terms_ok (Nat.le_of_ble_eq_true rfl) ?_)); simp only [J_ref05_terms, vToks, wk,Nat.reduceEqDiff,Int.reduceLE,Int.reduceNeg,reduceCtorEq,↓reduceIte]
  rcases acc_cases ha with ⟨t, rfl, e1⟩ | hc
  ·have hd : (toksC [t]) = [.int .i64 t.kind, .str t.name, .int .i64 t.of, .int .i64 t.at_] := rfl
   simp only [wk,Nat.reduceEqDiff,Nat.reduceAdd,Nat.reduceLeDiff,Int.reduceLE,Int.reduceNeg,reduceCtorEq,↓reduceIte, hd]
   refine ⟨fun _ => ⟨by decide, by decide, ?_⟩, fun h => absurd rfl h⟩
   rw [e1]
   simp only [rdpw, vTrs]
   rfl
  ·have h1 : l.length ≠ 1 := by rcases hc with h | h <;> exact h.1
   have h1' : ((l.length : Int) = 1) = False := eqFalse (by omega)
   simp only [wk,forall_const,Int.reduceNeg,h1']
   refine W_loop (fun m fr h' => ∃ (i : Nat) (o a low : Int), i ≤ l.length ∧ m = l.length - i ∧ -(i : Int) ≤ o ∧ o ≤ i ∧ bestF 0 0 (-1) 9 l = bestF i o a low (l.drop i) ∧ fr = [(0, .lst .ro l.length (toksC l)), (3, .int .i64 a), (4, .int .i64 low), (5, .int .i64 o), (6, .int .i64 i)]) l.length ⟨0, 0, -1, 9, by omega, by omega, by omega, by omega, rfl, rfl⟩ ?_
   rintro m fr h' ⟨i, o, a, low, hi, rfl, ho1, ho2, hb, rfl⟩
   simp only [J_ref05_terms_j5, wk,Nat.reduceEqDiff,Int.reduceNeg,reduceCtorEq,↓reduceIte]
   refine ⟨fun hlt => ?_, fun hge => ?_⟩
   ·have hil : i < l.length := by omega
    have hd : (toksC l).drop ((i : Int).toNat * 4) = _ := toksC_drop hil
    refine ⟨⟨by omega, by omega⟩, ?_⟩
    rw [List.drop_eq_getElem_cons hil] at hb
    simp only [bestF] at hb
    have nxt : ∀ (o' a' low' : Int), -((i : Int) + 1) ≤ o' → o' ≤ (i : Int) + 1 → bestF 0 0 (-1) 9 l = bestF (i + 1) o' a' low' (l.drop (i + 1)) → inR ((i : Int) + 1) ∧ ∃ m, m < l.length - i ∧ ∃ (i' : Nat) (o2 a2 low2 : Int), i' ≤ l.length ∧ m = l.length - i' ∧ -(i' : Int) ≤ o2 ∧ o2 ≤ i' ∧ bestF 0 0 (-1) 9 l = bestF i' o2 a2 low2 (l.drop i') ∧ [(0, AV.lst .ro l.length (toksC l)), (3, .int .i64 a'), (4, .int .i64 low'), (5, .int .i64 o'), (6, .int .i64 ((i : Int) + 1))] = [(0, .lst .ro l.length (toksC l)), (3, .int .i64 a2), (4, .int .i64 low2), (5, .int .i64 o2), (6, .int .i64 i')] := fun o' a' low' q1 q2 q3 =>
     ⟨inR_of (by omega) (by omega), l.length - (i + 1), by omega, i + 1, o', a', low', by omega, rfl, by omega, by omega, q3, rfl⟩
    by_cases k6 : l[i].kind = 6
    ·have k7 : (l[i].kind = 7) = False := eqFalse (by omega)
     have hb0 : bindK l[i].kind = 0 := by rw [k6]; rfl
     rw [if_pos k6, if_neg (by rw [hb0]; omega)] at hb
     have hx := nxt _ _ _ (by omega) (by omega) hb
     simp only [wk,Nat.reduceEqDiff,Int.reduceNeg,reduceCtorEq,↓reduceIte, J_ref05_terms_j4, J_ref05_terms_j3, J_ref05_terms_j2, hd, eqTrue k6, k7]
     refine ⟨inR_of (by omega) (by omega), ⟨by omega, by omega⟩, ⟨by omega, by omega⟩, ?_⟩
     refine PCalls.use (p_binds _) ?_; simp only [wk,Nat.reduceEqDiff,Int.reduceNeg,reduceCtorEq,↓reduceIte]
     simp only [wk,forall_const,Int.reduceNeg,(show ((0 : Int) < bindK l[i].kind) = False by rw [hb0]; simp)]
     first | exact hx | exact ⟨fun _ => hx, fun _ => hx⟩
    ·by_cases k7 : l[i].kind = 7
     ·have hb0 : bindK l[i].kind = 0 := by rw [k7]; rfl
      rw [if_neg k6, if_pos k7, if_neg (by rw [hb0]; omega)] at hb
      have hx := nxt _ _ _ (by omega) (by omega) hb
      simp only [wk,Nat.reduceEqDiff,Int.reduceNeg,reduceCtorEq,↓reduceIte, J_ref05_terms_j4, J_ref05_terms_j3, J_ref05_terms_j2, hd, eqFalse k6, eqTrue k7]
      refine ⟨⟨by omega, by omega⟩, inR_of (by omega) (by omega), ⟨by omega, by omega⟩, ?_⟩
      refine PCalls.use (p_binds _) ?_; simp only [wk,Nat.reduceEqDiff,Int.reduceNeg,reduceCtorEq,↓reduceIte]
      simp only [wk,forall_const,Int.reduceNeg,(show ((0 : Int) < bindK l[i].kind) = False by rw [hb0]; simp)]
      first | exact hx | exact ⟨fun _ => hx, fun _ => hx⟩
     ·rw [if_neg k6, if_neg k7] at hb
      simp only [wk,Nat.reduceEqDiff,Int.reduceNeg,reduceCtorEq,↓reduceIte, J_ref05_terms_j4, J_ref05_terms_j3, J_ref05_terms_j2, hd, eqFalse k6, eqFalse k7]
      refine ⟨⟨by omega, by omega⟩, ⟨by omega, by omega⟩, ?_⟩
      refine PCalls.use (p_binds _) ?_; simp only [wk,Nat.reduceEqDiff,Int.reduceNeg,reduceCtorEq,↓reduceIte]
      by_cases c : o = 0 ∧ 0 < bindK l[i].kind ∧ bindK l[i].kind ≤ low
      ·rw [if_pos c] at hb
       have hx := nxt _ _ _ (by omega) (by omega) hb
       obtain ⟨rfl, c2, c3⟩ := c
       simp only [wk,forall_const,eq_self,Int.reduceNeg,eqTrue c2, eqTrue c3]
       exact hx
      ·rw [if_neg c] at hb
       have hx := nxt _ _ _ (by omega) (by omega) hb
       refine ⟨fun c1 => ⟨fun c2 => ⟨fun c3 => absurd ⟨c1, c2, c3⟩ c, fun _ => hx⟩, fun _ => hx⟩, fun _ => hx⟩
   ·obtain rfl : i = l.length := by omega
    rw [List.drop_length] at hb
    simp only [bestF] at hb
    rcases hc with ⟨_, o1, c1, m, e1, e2, e3, e4⟩ | ⟨_, l1, l2, s, e1, e2, e3, e4, e5⟩
    ·rw [e2] at hb
     simp only [Prod.mk.injEq] at hb
     obtain ⟨rfl, rfl⟩ := hb
     have ih := p_terms f m (by rw [e1] at hf; simp at hf; omega) e3 (by rw [e1] at hl; simp at hl; omega)
     simp only [vToks, vTrs] at ih
     simp only [wk,Nat.reduceEqDiff,Nat.reduceMul,Int.reduceLT,Int.reduceLE,Int.reduceNeg,reduceCtorEq,Int.reduceToNat,↓reduceIte, J_ref05_terms_j1]
     have hlen : l.length = m.length + 2 := by rw [e1]; simp
     have hcut : ((toksC l).drop 4).take (m.length * 4) = toksC m := by
      have h4 : ((tC o1 ++ (toksC m ++ toksC [c1])).drop 4) = toksC m ++ toksC [c1] := rfl
      rw [e1, toksC_cons, toksC_app, h4, ← toksC_len m, List.take_left]
     refine ⟨inR_of (by omega) (by omega), ⟨by omega, by omega, toksC_len l⟩, ?_⟩
     rw [show ((l.length : Int) - 1).toNat - 1 = m.length by omega, hcut]
     refine PCalls.use (ih) ?_; simp only [wk,Int.reduceNeg,↓reduceIte]
     rw [e4]
     simp only [rdpw, vTrs, rdps_trs]
    ·rw [e2] at hb
     simp only [Prod.mk.injEq] at hb
     obtain ⟨rfl, rfl⟩ := hb
     have hlen : l.length = l1.length + 1 + l2.length := by rw [e1]; simp; omega
     have ih1 := p_terms f l1 (by omega) e3 (by omega)
     have ih2 := p_terms f l2 (by omega) e4 (by omega)
     simp only [vToks, vTrs] at ih1 ih2
     simp only [wk,Nat.reduceEqDiff,Int.reduceLE,reduceCtorEq,↓reduceIte, J_ref05_terms_j1, (show ((l1.length : Int) < 0) = False from eqFalse (by omega))]
     have hz1 := readD_size l1
     have hz2 := readD_size l2
     have hcut1 : (toksC l).take (l1.length * 4) = toksC l1 := by
      rw [e1, toksC_app, ← toksC_len l1, List.take_left]
     have hcut2 : ((toksC l).drop ((l1.length + 1) * 4)).take (l2.length * 4) = toksC l2 := by
      have e1' : l = (l1 ++ [s]) ++ l2 := by rw [e1]; simp
      rw [e1', toksC_app, show (l1.length + 1) * 4 = (toksC (l1 ++ [s])).length by rw [toksC_len]; simp, List.drop_left, ← toksC_len l2, List.take_length]
     refine ⟨⟨by omega, by omega, toksC_len l⟩, ?_⟩
     rw [show (l1.length : Int).toNat - 0 = l1.length by omega, hcut1]
     refine PCalls.use (ih1) ?_; simp only [wk,Nat.reduceEqDiff,reduceCtorEq,↓reduceIte]
     have hds : (toksC l).drop ((l1.length : Int).toNat * 4) = .int .i64 s.kind :: .str s.name :: .int .i64 s.of :: .int .i64 s.at_ :: toksC l2 := by
      rw [Int.toNat_natCast, e1, toksC_app, ← toksC_len l1, List.drop_left]; rfl
     refine ⟨⟨trsC_len _, by omega, by omega⟩, inR_of (by omega) (by omega), ⟨by omega, by omega, by omega, toksC_len l⟩, ?_⟩
     rw [show (l.length : Int).toNat - ((l1.length : Int) + 1).toNat = l2.length by omega, show ((l1.length : Int) + 1).toNat = l1.length + 1 by omega, hcut2]
     refine PCalls.use (ih2) ?_; simp only [wk,Nat.reduceEqDiff,reduceCtorEq,↓reduceIte]
     simp only [hds, wk,Nat.reduceEqDiff,Nat.reduceAdd,Nat.reduceMul,Nat.reduceLeDiff,reduceCtorEq,↓reduceIte]
     refine ⟨⟨trsC_len _, by omega, by omega⟩, ⟨by omega, by omega⟩, ⟨by omega, by omega⟩, ?_⟩
     have hcells : trsC (readD l1) ++ trsC (readD l2) ++ [.int .i64 s.kind, .int .i64 0, .str ⟨#[]⟩] = trsC (readD l) := by
      rw [e5, trsC_app, trsC_app, List.append_assoc]; rfl
     have hcl : (readD l1).length + (readD l2).length + 1 = (readD l).length := by rw [e5]; simp; omega
     rw [hcells, hcl]
     simp only [rdpw, vTrs, rdps_trs]
theorem readR_check {wd : Tok → Bool} (l : List Tok) : ((checkR wd l).2 ≠ 0 → readR wd l = ([], (checkR wd l).1, (checkR wd l).2)) ∧ ((checkR wd l).2 = 0 → accT 100 l ∧ readR wd l = if 200 < (readD l).length then ([], l.length, 3) else (readD l, 0, 0)) := by
 unfold checkR readR
 cases hf : l.findIdx? (fun t => !wd t) with
 | some i => exact ⟨fun _ => rfl, fun h => by cases h⟩
 | none =>
  simp only
  cases hc : ctlE 100 0 false 0 false l with
  | inl y =>
   obtain ⟨i, e⟩ := y
   obtain ⟨_, _, he⟩ := ctlE_lt _ _ _ _ _ _ _ hc
   exact ⟨fun _ => rfl, fun h => by simp only at h; omega⟩
  | inr y =>
   obtain ⟨b, n⟩ := y
   simp only
   by_cases hb : b = false ∨ 0 < n
   ·rw [if_pos hb, if_pos hb]; exact ⟨fun _ => rfl, fun h => by cases h⟩
   ·rw [if_neg hb, if_neg hb]
    refine ⟨fun h => absurd rfl h, fun _ => ⟨?_, rfl⟩⟩
    have h1 := (ctlE_ok l 0 false 0 false (b, n)).1 hc
    unfold accT
    rw [h1]
    cases b with
    | false => exact absurd (.inl rfl) hb
    | true => congr 2; have : ¬ 0 < n := fun h => hb (.inr h); omega
theorem p_rread (l : List Tok) (hl : l.length ≤ 5000) (hn : ∀ t ∈ l, t.name.size ≤ 1000000) : PCalls Tryz.prog 64 [vToks l] (resX (readR wdB l)) := by
 have q1 := p_check l hl hn
 have q2 := fun ha => p_terms l.length l (Nat.le_refl _) ha hl
 obtain ⟨h1, h2⟩ := readR_check (wd := wdB) l
 obtain ⟨C, hC⟩ : ∃ C, C = checkR wdB l := ⟨_, rfl⟩
 rw [← hC] at q1 h1 h2
 simp only [vToks, vTrs] at q1 q2
 refine pcalls_of (by simp [vToks, free, free.frees, frees_toks]) (free_resX _) (ACalls.deep (acalls_of mixed J_ref05_Read_ok (Nat.le_of_ble_eq_true rfl) ?_)); simp only [J_ref05_Read, vToks, wk,reduceCtorEq,↓reduceIte]
 refine PCalls.use (q1) ?_; simp only [wk,ne_eq,eq_self,Nat.reduceEqDiff,reduceCtorEq,↓reduceIte]
 refine ⟨fun h0 => ?_, fun h0 => ?_⟩
 ·rw [h1 h0]
  simp only [rdpw, resX, vTrs]
  rfl
 ·obtain ⟨ha, h3⟩ := h2 h0
  refine PCalls.use (q2 ha) ?_; simp only [wk,Nat.reduceEqDiff,reduceCtorEq,↓reduceIte]
  rw [h3]
  refine ⟨fun h4 => ?_, fun h4 => ?_⟩
  ·rw [if_pos (by omega)]
   simp only [rdpw, resX, vTrs]
   rfl
  ·rw [if_neg (by omega)]
   simp only [rdpw, resX, vTrs, rdps_trs]
   rfl
end Go.Proofs.YtedaffmkpljlnaaGreat
/- The program's name and sign. -/
namespace Go.Proofs.YtedaffmkpljlnaaGreat
open Go.RowKit Go.Lib

def colonL (l : List UInt8) : Bool := match l with
 | [] => false
 | b :: _ => b.toNat == 58
def pnameL (l : List UInt8) : Sig :=
 if aheW (ba (l.take (stopN innI l))) ≠ 0 ∧ colonL (l.drop (stopN innI l)) = true then
  (1, ba ((l.drop (stopN innI l + 1)).take (stopN innI (l.drop (stopN innI l + 1)))), aheW (ba (l.take (stopN innI l))), stopN innI l + 1 + stopN innI (l.drop (stopN innI l + 1)))
 else if keyW (ba (l.take (stopN innI l))) ≠ 0 then (keyW (ba (l.take (stopN innI l))), ba [], 0, stopN innI l)
 else (1, ba (l.take (stopN innI l)), 3, stopN innI l)
def sigV (x : Sig) (a : Nat) : AV := .tup [.agg [.int .i64 x.1, .str x.2.1, .int .i64 x.2.2.1, .int .i64 0], .int .i64 (a + x.2.2.2 : Nat)]
theorem p_pname (s : ByteArray) (a : Nat) (hs : s.size ≤ 1000000) (ha : a < s.size) :
  PCalls Tryz.prog 119 [.str s, .int .i64 a] (sigV (pnameL (s.data.toList.drop a)) a) := by
 have hl := len_size s
 obtain ⟨L, hL⟩ : ∃ L, L = s.data.toList.drop a := ⟨_, rfl⟩
 have hLl : L.length = s.size - a := by rw [hL, List.length_drop]; omega
 have hle := stopN_le innI L
 have q1 := p_stop (f := 143) p_inName hi_inn s a hs (by omega)
 rw [← hL] at q1 ⊢
 obtain ⟨m, hm⟩ : ∃ m, m = stopN innI L := ⟨_, rfl⟩
 rw [← hm] at q1 hle
 rw [show ((a : Int) + (m : Nat)) = ((a + m : Nat) : Int) by omega] at q1
 refine pcalls_of (by first | rfl | simp [free, free.frees, frees_str, frees_u8, frees_u16]) (by first | rfl | simp [free, free.frees, frees_str, frees_u8, frees_u16]) (acalls_of mixed J_token_name_ok (Nat.le_of_ble_eq_true rfl) ?_); simp only [J_token_name, wk,Nat.reduceEqDiff,Nat.reduceAdd,reduceCtorEq,↓reduceIte]
 refine PCalls.use (q1) ?_; simp only [wk,Nat.reduceEqDiff,reduceCtorEq,↓reduceIte]
 have hw : s.extract a (a + m) = ba (L.take m) := by rw [ext_ba, ← hL]
 simp only [Int.toNat_natCast, hw]
 refine ⟨⟨by omega, by omega, by omega⟩, ?_⟩
 refine PCalls.use (p_ahead (ba (L.take m))) ?_; simp only [wk,ne_eq,eq_self,Nat.reduceEqDiff,reduceCtorEq,↓reduceIte]
 have hcol : colonL (L.drop m) = true ↔ (a + m < s.size ∧ byteAt s (a + m) = 58) := by
  rcases Nat.lt_or_ge (a + m) s.size with h | h
  ·have hml : m < L.length := by omega
   rw [List.drop_eq_getElem_cons hml]
   have e : L[m] = s.data.toList[a + m] := by simp only [hL, List.getElem_drop]
   rw [byte_at (show a + m < s.data.toList.length by omega), ← e]
   simp [colonL, h]
  ·rw [List.drop_of_length_le (by omega)]
   simp [colonL]; omega
 have hd2 : s.data.toList.drop (a + m + 1) = L.drop (m + 1) := by rw [hL, List.drop_drop, Nat.add_assoc]
 have e1 : ((a : Int) + (m : Nat)) = ((a + m : Nat) : Int) := by omega
 have yes : (aheW (ba (L.take m)) ≠ 0 ∧ colonL (L.drop m) = true) → pnameL L = (1, ba ((L.drop (m + 1)).take (stopN innI (L.drop (m + 1)))), aheW (ba (L.take m)), m + 1 + stopN innI (L.drop (m + 1))) := fun h => by
  unfold pnameL; rw [← hm, if_pos h]
 have no : ¬ (aheW (ba (L.take m)) ≠ 0 ∧ colonL (L.drop m) = true) → pnameL L = if keyW (ba (L.take m)) ≠ 0 then (keyW (ba (L.take m)), ba [], 0, m) else (1, ba (L.take m), 3, m) := fun h => by
  unfold pnameL; rw [← hm, if_neg h]
 have qk := p_keyword (ba (L.take m))
 refine ⟨fun h1 => ⟨fun h2 => ⟨⟨by omega, by omega⟩, fun h3 => ⟨inR_of (by omega) (by omega), ?_⟩, fun h3 => ?_⟩, fun h2 => ?_⟩, fun h1 => ?_⟩
 ·rw [Int.toNat_natCast] at h3
  have q2 := p_stop (f := 143) p_inName hi_inn s (a + m + 1) hs (by omega)
  rw [hd2] at q2
  have y := yes ⟨h1, hcol.2 ⟨by omega, by omega⟩⟩
  obtain ⟨m2, hm2⟩ : ∃ m2, m2 = stopN innI (L.drop (m + 1)) := ⟨_, rfl⟩
  rw [← hm2] at q2 y
  have hle2 : m2 ≤ (L.drop (m + 1)).length := by rw [hm2]; exact stopN_le _ _
  rw [List.length_drop] at hle2
  rw [show ((a + m : Nat) : Int) + 1 = ((a + m + 1 : Nat) : Int) by omega]
  rw [show ((a + m + 1 : Nat) : Int) + (m2 : Nat) = ((a + m + 1 + m2 : Nat) : Int) by omega] at q2
  refine PCalls.use (q2) ?_; simp only [wk,Nat.reduceEqDiff,Nat.reduceAdd,Nat.reduceLeDiff,reduceCtorEq,↓reduceIte]
  refine ⟨⟨by omega, by omega, by omega⟩, ?_⟩
  rw [y]
  have hw2 : s.extract (a + m + 1) (a + m + 1 + m2) = ba ((L.drop (m + 1)).take m2) := by rw [ext_ba, hd2]
  rw [Int.toNat_natCast, Int.toNat_natCast, hw2]
  rw [show (a + m + 1 + m2 : Nat) = a + (m + 1 + m2) by omega]
  exact ⟨Nat.le_refl _, rfl⟩
 all_goals (refine PCalls.use qk ?_; simp only [wk,ne_eq,eq_self,Nat.reduceEqDiff,Nat.reduceAdd,Nat.reduceLeDiff,↓reduceIte])
 all_goals (
  rw [no (by
   first
    | (intro hh; exact h3 (by have := (hcol.1 hh.2).2; rw [Int.toNat_natCast]; omega))
    | (intro hh; exact h2 (by have := (hcol.1 hh.2).1; omega))
    | (intro hh; exact hh.1 h1))]
  refine ⟨fun hk => ?_, fun hk => ?_⟩
  ·rw [if_pos hk]; exact ⟨Nat.le_refl _, rfl⟩
  ·rw [if_neg (fun h => h hk)]; exact ⟨Nat.le_refl _, rfl⟩)
theorem dec_val (s : ByteArray) (p : Nat) : (Utf8.decode s p).1 ≤ 1114111 ∧ (128 ≤ (Utf8.decode s p).1 → Utf8.valid ((Utf8.decode s p).1 : Nat) = true) := by
 have e : Utf8.runeError ≤ 1114111 ∧ (128 ≤ Utf8.runeError → Utf8.valid (Utf8.runeError : Nat) = true) := by decide
 have hb : ∀ k, (s.get! k).toNat < 256 := fun k => (s.get! k).toNat_lt
 simp only [Utf8.decode]
 split
 ·exact ⟨by simp only; omega, fun h => by simp only at h; omega⟩
 ·split
  ·next c =>
   split
   ·have := hb (p + 0)
    refine ⟨by simp only; omega, fun _ => ?_⟩
    unfold Utf8.valid
    simp only [Bool.or_eq_true, Bool.and_eq_true, decide_eq_true_eq]
    left; omega
   ·exact e
  ·split
   ·split
    ·next c =>
     simp only [Bool.and_eq_true, decide_eq_true_eq] at c
     refine ⟨?_, fun _ => c.2⟩
     have := c.2
     unfold Utf8.valid at this
     simp only [Bool.or_eq_true, Bool.and_eq_true, decide_eq_true_eq] at this
     simp only; omega
    ·exact e
   ·split
    ·split
     ·next c =>
      simp only [Bool.and_eq_true, decide_eq_true_eq] at c
      refine ⟨?_, fun _ => c.2⟩
      have := c.2
      unfold Utf8.valid at this
      simp only [Bool.or_eq_true, Bool.and_eq_true, decide_eq_true_eq] at this
      simp only; omega
     ·exact e
    ·exact e
theorem colon_iff {p L : List UInt8} (hp : ∀ b ∈ p, innI b.toNat = true) : L.take (p.length + 1) = p ++ [58] ↔ (L.take (stopN innI L) = p ∧ colonL (L.drop (stopN innI L)) = true) := by
 constructor
 ·intro h
  have e : L = p ++ 58 :: L.drop (p.length + 1) := by
   have := (List.take_append_drop (p.length + 1) L).symm
   rw [h] at this
   simpa using this
  have hs : stopN innI L = p.length := by
   rw [e]
   unfold stopN
   refine tw_len (by simp) (fun b hb => ?_) (fun h => ?_)
   ·rw [List.take_left] at hb; exact hp b hb
   ·rw [List.getElem_append_right (Nat.le_refl _)]; simp; decide
  rw [hs, e]
  simp [colonL]
 ·rintro ⟨h1, h2⟩
  have e := (List.take_append_drop (stopN innI L) L).symm
  rw [h1] at e
  obtain ⟨r, hr⟩ : ∃ r, L.drop (stopN innI L) = 58 :: r := by
   cases hd : L.drop (stopN innI L) with
   | nil => rw [hd] at h2; cases h2
   | cons c r =>
    rw [hd] at h2
    have : c = 58 := by
     apply UInt8.toNat_inj.1; simpa [colonL] using h2
    exact ⟨r, by rw [this]⟩
  rw [hr] at e
  rw [e]; simp [List.take_append]
  exact List.take_of_length_le (by omega)
theorem beg_key {L : List UInt8} {k : Int} (p : List UInt8) (hk : preW k = ba (p ++ [58])) (hp : ∀ b ∈ p, innI b.toNat = true) : begL (preW k) L = true ↔ (ba (L.take (stopN innI L)) = ba p ∧ colonL (L.drop (stopN innI L)) = true) := by
 unfold begL
 rw [hk, decide_eq_true_eq, ba_list, ba_len2, List.length_append, List.length_singleton, colon_iff hp, ba_inj]
theorem kind_name (L : List UInt8) : kindL L = if aheW (ba (L.take (stopN innI L))) ≠ 0 ∧ colonL (L.drop (stopN innI L)) = true then aheW (ba (L.take (stopN innI L))) else 0 := by
 have b1 := beg_key (L := L) (k := 1) [107, 101, 121] rfl (by decide)
 have b2 := beg_key (L := L) (k := 2) [99, 104, 97, 110] rfl (by decide)
 have b4 := beg_key (L := L) (k := 4) [103, 114, 111, 117, 112] rfl (by decide)
 have b5 := beg_key (L := L) (k := 5) [114, 111, 108, 101] rfl (by decide)
 unfold kindL aheW
 simp only [b1, b2, b4, b5]
 by_cases hc : colonL (L.drop (stopN innI L)) = true
 ·simp only [hc, and_true]
  show _ = _
  simp only [ba, List.toArray]
  by_cases h1 : ba (L.take (stopN innI L)) = ⟨#[107, 101, 121]⟩
  ·simp_all [ba]
  ·by_cases h2 : ba (L.take (stopN innI L)) = ⟨#[99, 104, 97, 110]⟩
   ·simp_all [ba]
   ·by_cases h4 : ba (L.take (stopN innI L)) = ⟨#[103, 114, 111, 117, 112]⟩
    ·simp_all [ba]
    ·by_cases h5 : ba (L.take (stopN innI L)) = ⟨#[114, 111, 108, 101]⟩
     ·simp_all [ba]
     ·simp_all [ba]
 ·simp [hc]
theorem ahe_len (w : ByteArray) (h : aheW w ≠ 0) : aheW w ∈ kinds ∧ (preW (aheW w)).size = w.size + 1 := by
 unfold aheW at h ⊢
 split
 ·next e => rw [e]; decide
 ·split
  ·next e => rw [e]; decide
  ·split
   ·next e => rw [e]; decide
   ·split
    ·next e => rw [e]; decide
    ·next h1 h2 h3 h4 => simp [h1, h2, h3, h4] at h
theorem may_stop (L : List UInt8) : mayN (ba (L.take (stopN innI L))) = true ↔ (lttI (L.headD 0).toNat = true ∧ stopN innI L ≤ 24) := by
 have hle := stopN_le innI L
 unfold mayN mayL
 rw [ba_list]
 simp only [Bool.and_eq_true, decide_eq_true_eq, List.length_take]
 cases L with
 | nil => simp [stopN, lttI]
 | cons b r =>
  by_cases hb : innI b.toNat = true
  ·have h1 : 1 ≤ stopN innI (b :: r) := by rw [stopN_cons hb]; omega
   obtain ⟨m, hm⟩ : ∃ m, stopN innI (b :: r) = m + 1 := ⟨stopN innI (b :: r) - 1, by omega⟩
   have hall : ((b :: r).take (stopN innI (b :: r))).all (fun b => innI b.toNat) = true := by
    rw [List.all_eq_true]
    intro c hc
    obtain ⟨i, hi, rfl⟩ := List.mem_iff_getElem.1 hc
    rw [List.length_take] at hi
    rw [List.getElem_take]
    exact stopN_at (by omega) (by omega)
   rw [hall, hm]
   simp only [List.take_succ_cons, List.headD_cons]
   rw [hm] at hle
   constructor
   ·rintro ⟨h1, h2, h3, h4⟩; exact ⟨h3, by omega⟩
   ·rintro ⟨h1, h2⟩; exact ⟨by omega, by omega, h1, trivial⟩
  ·have hz := stopN_zero (q := innI) (r := r) (b := b) (by simpa using hb)
   have hl : lttI b.toNat = false := by
    simp only [innI, Bool.or_eq_true, not_or] at hb
    simpa using hb.1.1.1
   rw [hz]; simp [hl]
theorem kind_nl {b : UInt8} {r : List UInt8} (h : lttI b.toNat = false) : kindL (b :: r) = 0 := by
 rw [kind_name, if_neg]
 rintro ⟨h1, -⟩
 apply h1
 have e : ∀ (c : UInt8) (p : List UInt8), lttI c.toNat = true → ba ((b :: r).take (stopN innI (b :: r))) ≠ ba (c :: p) := fun c p hc h2 => by
  rw [ba_inj] at h2
  have h3 : b = c := by
   cases hm : stopN innI (b :: r) with
   | zero => rw [hm] at h2; simp at h2
   | succ m => rw [hm, List.take_succ_cons] at h2; exact (List.cons.inj h2).1
  rw [h3] at h; rw [h] at hc; cases hc
 have k1 : ¬ ba ((b :: r).take (stopN innI (b :: r))) = ⟨#[107, 101, 121]⟩ := e 107 [101, 121] (by decide)
 have k2 : ¬ ba ((b :: r).take (stopN innI (b :: r))) = ⟨#[99, 104, 97, 110]⟩ := e 99 [104, 97, 110] (by decide)
 have k4 : ¬ ba ((b :: r).take (stopN innI (b :: r))) = ⟨#[103, 114, 111, 117, 112]⟩ := e 103 [114, 111, 117, 112] (by decide)
 have k5 : ¬ ba ((b :: r).take (stopN innI (b :: r))) = ⟨#[114, 111, 108, 101]⟩ := e 114 [111, 108, 101] (by decide)
 unfold aheW
 rw [if_neg k1, if_neg k2, if_neg k4, if_neg k5]
theorem sign_nl {b : UInt8} {r : List UInt8} (h : lttI b.toNat = false) : signL (b :: r) = plainL (b :: r) := by
 unfold signL; rw [if_pos (kind_nl h)]
def goodT (x : Sig) (l : List UInt8) : Bool := decide (wordT x.1 x.2.1 x.2.2.1 ≠ ⟨#[]⟩) && fineL (l.drop x.2.2.2)
theorem ba_app_ne {o : Int} {w : ByteArray} (h : o ∈ kinds) : preW o ++ w ≠ ⟨#[]⟩ := by
 intro e
 have := congrArg ByteArray.size e
 rw [ByteArray.size_append] at this
 have h2 := (pre_ok h).1
 have h3 : (⟨#[]⟩ : ByteArray).size = 0 := rfl
 omega
theorem atomW_kind {o : Int} {w : ByteArray} (h : o ∈ kinds) : atomWk o w ≠ ⟨#[]⟩ ↔ mayN w = true := by
 have h2 : o = 1 ∨ o = 2 ∨ o = 4 ∨ o = 5 := by simpa [kinds] using h
 have h0 := kinds_nz h
 unfold atomWk
 rw [if_neg h0]
 by_cases hm : mayN w = true
 ·rw [if_pos hm, if_pos h2]; exact ⟨fun _ => hm, fun _ => ba_app_ne h⟩
 ·rw [if_neg hm]; exact ⟨fun h => absurd rfl h, fun h => absurd h hm⟩
theorem name_some (L : List UInt8) : nameL L = if lttI (L.headD 0).toNat = true ∧ stopN innI L ≤ 24 ∧ fineL (L.drop (stopN innI L)) = true then some (stopN innI L) else none := by
 cases L with
 | nil => rfl
 | cons b r => rfl
theorem sign_letter {b : UInt8} {r : List UInt8} (h : lttI b.toNat = true) : signL (b :: r) = if goodT (pnameL (b :: r)) (b :: r) = true then some (pnameL (b :: r)) else none := by
 obtain ⟨L, hL⟩ : ∃ L, L = b :: r := ⟨_, rfl⟩
 have hhd : lttI (L.headD 0).toNat = true := by rw [hL]; exact h
 have hin : innI b.toNat = true := by simp [innI, h]
 have h1 : 1 ≤ stopN innI L := by rw [hL, stopN_cons hin]; omega
 have hle := stopN_le innI L
 have hpl : plainL L = match nameL L with
   | none => none
   | some n => if keyW (ba (L.take n)) = 0 then some (1, ba (L.take n), 3, n) else some (keyW (ba (L.take n)), ba [], 0, n) := by
  rw [hL]; simp only [plainL]; rw [if_pos h]; try rfl
 rw [← hL]
 have hwl : (ba (L.take (stopN innI L))).size = stopN innI L := by rw [ba_len2, List.length_take]; omega
 unfold signL
 rw [kind_name]
 by_cases hc : aheW (ba (L.take (stopN innI L))) ≠ 0 ∧ colonL (L.drop (stopN innI L)) = true
 ·obtain ⟨a1, a2⟩ := ahe_len _ hc.1
  rw [if_pos hc, if_neg hc.1]
  have hp : pnameL L = (1, ba ((L.drop (stopN innI L + 1)).take (stopN innI (L.drop (stopN innI L + 1)))), aheW (ba (L.take (stopN innI L))), stopN innI L + 1 + stopN innI (L.drop (stopN innI L + 1))) := by unfold pnameL; rw [if_pos hc]
  rw [hp]
  obtain ⟨k, hk⟩ : ∃ k, k = aheW (ba (L.take (stopN innI L))) := ⟨_, rfl⟩
  rw [← hk] at a1 a2 ⊢
  rw [hwl] at a2
  rw [a2]
  obtain ⟨M, hM⟩ : ∃ M, M = L.drop (stopN innI L + 1) := ⟨_, rfl⟩
  rw [← hM]
  unfold atomL goodT
  rw [name_some]
  have hat := atomW_kind (w := ba (M.take (stopN innI M))) a1
  rw [may_stop] at hat
  have hdr : L.drop (stopN innI L + 1 + stopN innI M) = M.drop (stopN innI M) := by rw [hM, List.drop_drop]
  simp only [hdr]
  have hw1 : wordT 1 (ba (M.take (stopN innI M))) k = atomWk k (ba (M.take (stopN innI M))) := by unfold wordT; rw [if_pos rfl]
  rw [hw1]
  by_cases hg : lttI (M.headD 0).toNat = true ∧ stopN innI M ≤ 24 ∧ fineL (M.drop (stopN innI M)) = true
  ·have h3 := hat.2 ⟨hg.1, hg.2.1⟩
   rw [if_pos hg]
   simp [h3, hg.2.2]
  ·rw [if_neg hg]
   rw [if_neg]
   simp only [Bool.and_eq_true, decide_eq_true_eq]
   rintro ⟨g1, g2⟩
   have := hat.1 g1
   exact hg ⟨this.1, this.2, g2⟩
 ·rw [if_neg hc, if_pos rfl, hpl]
  have hp : pnameL L = if keyW (ba (L.take (stopN innI L))) ≠ 0 then (keyW (ba (L.take (stopN innI L))), ba [], 0, stopN innI L) else (1, ba (L.take (stopN innI L)), 3, stopN innI L) := by unfold pnameL; rw [if_neg hc]
  rw [hp, name_some]
  by_cases hk : keyW (ba (L.take (stopN innI L))) = 0
  ·rw [if_neg (show ¬ keyW (ba (L.take (stopN innI L))) ≠ 0 from fun h => h hk)]
   have hw : wordT 1 (ba (L.take (stopN innI L))) 3 ≠ ⟨#[]⟩ ↔ mayN (ba (L.take (stopN innI L))) = true := by
    unfold wordT atomWk
    rw [if_pos rfl, if_neg (by decide)]
    by_cases hm : mayN (ba (L.take (stopN innI L))) = true
    ·rw [if_pos hm, if_neg (by decide), if_pos ⟨rfl, hk⟩]
     refine ⟨fun _ => hm, fun _ e => ?_⟩
     rw [e] at hwl
     have h3 : (⟨#[]⟩ : ByteArray).size = 0 := rfl
     omega
    ·rw [if_neg hm]; exact ⟨fun h => absurd rfl h, fun h => absurd h hm⟩
   rw [may_stop] at hw
   unfold goodT
   by_cases hg : lttI (L.headD 0).toNat = true ∧ stopN innI L ≤ 24 ∧ fineL (L.drop (stopN innI L)) = true
   ·have h3 := hw.2 ⟨hg.1, hg.2.1⟩
    rw [if_pos hg]
    simp [h3, hg.2.2, hk]
   ·rw [if_neg hg, if_neg]
    simp only [Bool.and_eq_true, decide_eq_true_eq]
    rintro ⟨g1, g2⟩
    have := hw.1 g1
    exact hg ⟨this.1, this.2, g2⟩
  ·rw [if_pos (show keyW (ba (L.take (stopN innI L))) ≠ 0 from hk)]
   have hm24 : stopN innI L ≤ 24 := by
    unfold keyW at hk
    rw [← hwl]
    by_cases e1 : ba (L.take (stopN innI L)) = ⟨#[97, 110, 100]⟩
    ·rw [e1]; decide
    ·rw [if_neg e1] at hk
     by_cases e2 : ba (L.take (stopN innI L)) = ⟨#[102, 111, 114]⟩
     ·rw [e2]; decide
     ·rw [if_neg e2] at hk
      by_cases e3 : ba (L.take (stopN innI L)) = ⟨#[97, 115]⟩
      ·rw [e3]; decide
      ·rw [if_neg e3] at hk; exact absurd rfl hk
   have hw : wordT (keyW (ba (L.take (stopN innI L)))) (ba []) 0 ≠ ⟨#[]⟩ := by
    unfold keyW at hk ⊢
    split
    ·decide
    ·split
     ·decide
     ·split
      ·decide
      ·next e1 e2 e3 => rw [if_neg e1, if_neg e2, if_neg e3] at hk; exact absurd rfl hk
   unfold goodT
   by_cases hg : fineL (L.drop (stopN innI L)) = true
   ·rw [if_pos ⟨hhd, hm24, hg⟩]
    simp [hw, hg, hk]
   ·rw [if_neg (fun h => hg h.2.2), if_neg]
    simp only [Bool.and_eq_true, decide_eq_true_eq]
    exact fun h => hg h.2
def psV (l : List UInt8) (a : Nat) : AV := match signL l with
 | some (k, w, o, n) => .tup [.agg [.int .i64 k, .str w, .int .i64 o, .int .i64 0], .int .i64 (a + n : Nat)]
 | none => .tup [.agg [.int .i64 0, .str ⟨#[]⟩, .int .i64 0, .int .i64 0], .int .i64 0]
theorem free_psV (l : List UInt8) (a : Nat) : free (psV l a) = true := by unfold psV; split <;> rfl
theorem sig_124 {b : UInt8} {r : List UInt8} (h : b.toNat = 124) : signL (b :: r) = some (4, ba [], 0, 1) := by
 have hl : lttI b.toNat = false := by rw [h]; rfl
 rw [sign_nl hl]; simp only [plainL]
 rw [if_neg (by simp [hl]), if_neg (by omega), if_pos h]
theorem sig_40 {b : UInt8} {r : List UInt8} (h : b.toNat = 40) : signL (b :: r) = some (6, ba [], 0, 1) := by
 have hl : lttI b.toNat = false := by rw [h]; rfl
 rw [sign_nl hl]; simp only [plainL]
 rw [if_neg (by simp [hl]), if_neg (by omega), if_neg (by omega), if_pos h]
theorem sig_41 {b : UInt8} {r : List UInt8} (h : b.toNat = 41) : signL (b :: r) = some (7, ba [], 0, 1) := by
 have hl : lttI b.toNat = false := by rw [h]; rfl
 rw [sign_nl hl]; simp only [plainL]
 rw [if_neg (by simp [hl]), if_neg (by omega), if_neg (by omega), if_neg (by omega), if_pos h]
theorem sig_sign {b : UInt8} {r : List UInt8} (h : sigB b.toNat = true) : signL (b :: r) = some (9, ba [b], 0, 1) := by
 have h2 : b.toNat = 61 ∨ b.toNat = 44 ∨ b.toNat = 59 ∨ b.toNat = 60 ∨ b.toNat = 62 ∨ b.toNat = 33 ∨ b.toNat = 63 ∨ b.toNat = 42 := by
  simpa [sigB, or_assoc] using h
 have hl : lttI b.toNat = false := by simp [lttI]; omega
 have hd : digI b.toNat = false := by simp [digI]; omega
 rw [sign_nl hl]; simp only [plainL]
 rw [if_neg (by simp [hl]), if_neg (by omega), if_neg (by omega), if_neg (by omega), if_neg (by omega), if_neg (by simp [hd]), if_pos h]
theorem good_d (r : List UInt8) {b : UInt8} : goodT (1, ⟨#[68]⟩, 0, 1) (b :: r) = fineL r := by
 have : wordT 1 ⟨#[68]⟩ 0 ≠ ⟨#[]⟩ := by decide
 unfold goodT
 simp [this]
theorem sig_d {b : UInt8} {r : List UInt8} (h : b.toNat = 68) : signL (b :: r) = if goodT (1, ⟨#[68]⟩, 0, 1) (b :: r) = true then some (1, ⟨#[68]⟩, 0, 1) else none := by
 have hl : lttI b.toNat = false := by rw [h]; rfl
 rw [sign_nl hl, good_d]; simp only [plainL]
 rw [if_neg (by simp [hl]), if_pos h]; rfl
theorem sig_dig {b : UInt8} {r : List UInt8} (h : digI b.toNat = true) : signL (b :: r) = if goodT (8, ba ((b :: r).take (stopN digI (b :: r))), 0, stopN digI (b :: r)) (b :: r) = true then some (8, ba ((b :: r).take (stopN digI (b :: r))), 0, stopN digI (b :: r)) else none := by
 have h2 : 48 ≤ b.toNat ∧ b.toNat ≤ 57 := by simp [digI] at h; omega
 have hl : lttI b.toNat = false := by simp [lttI]; omega
 obtain ⟨L, hL⟩ : ∃ L, L = b :: r := ⟨_, rfl⟩
 have hpl : plainL L = if numW (ba (L.take (stopN digI L))) = true ∧ fineL (L.drop (stopN digI L)) = true then some (8, ba (L.take (stopN digI L)), 0, stopN digI L) else none := by
  rw [hL]; simp only [plainL]
  rw [if_neg (by simp [hl]), if_neg (by omega), if_neg (by omega), if_neg (by omega), if_neg (by omega), if_pos h]
 rw [sign_nl hl, ← hL, hpl]
 have hg : goodT (8, ba (L.take (stopN digI L)), 0, stopN digI L) L = true ↔ numW (ba (L.take (stopN digI L))) = true ∧ fineL (L.drop (stopN digI L)) = true := by
  have hw : wordT 8 (ba (L.take (stopN digI L))) 0 = if numW (ba (L.take (stopN digI L))) = true then ba (L.take (stopN digI L)) else ⟨#[]⟩ := by
   unfold wordT; rw [if_neg (by decide), if_neg (by decide), if_pos rfl]
  unfold goodT
  simp only [Bool.and_eq_true, decide_eq_true_eq]
  rw [hw]
  by_cases hn : numW (ba (L.take (stopN digI L))) = true
  ·rw [if_pos hn]
   have : ba (L.take (stopN digI L)) ≠ ⟨#[]⟩ := by
    intro e; rw [e] at hn; revert hn; decide
   simp [hn, this]
  ·rw [if_neg hn]; simp [hn]
 simp only [hg]
theorem sig_else {b : UInt8} {r : List UInt8} (h1 : b.toNat ≠ 124) (h2 : b.toNat ≠ 40) (h3 : b.toNat ≠ 41) (h4 : sigB b.toNat = false) (h5 : b.toNat ≠ 68) (h6 : digI b.toNat = false) (h7 : lttI b.toNat = false) : signL (b :: r) = if goodT (0, ⟨#[]⟩, 0, 1) (b :: r) = true then some (0, ⟨#[]⟩, 0, 1) else none := by
 have hg : goodT (0, ⟨#[]⟩, 0, 1) (b :: r) = false := by
  have : ¬ wordT 0 ⟨#[]⟩ 0 ≠ ⟨#[]⟩ := by decide
  unfold goodT
  rw [decide_eq_false this]; rfl
 rw [hg, sign_nl h7]; simp only [plainL]
 rw [if_neg (by simp [h7]), if_neg h5, if_neg h1, if_neg h2, if_neg h3, if_neg (by simp [h6]), if_neg (by simp [h4])]; rfl
theorem pname_le (l : List UInt8) : (pnameL l).2.1.size ≤ l.length ∧ (pnameL l).2.2.2 ≤ l.length := by
 have h1 := stopN_le innI l
 have h2 := stopN_le innI (l.drop (stopN innI l + 1))
 rw [List.length_drop] at h2
 unfold pnameL
 split
 ·next h =>
  have h3 : stopN innI l < l.length := by
   rcases Nat.lt_or_ge (stopN innI l) l.length with h3 | h3
   ·exact h3
   ·rw [List.drop_of_length_le h3] at h; exact absurd h.2 (by simp [colonL])
  simp only [ba_len2, List.length_take, List.length_drop]
  omega
 ·split <;> simp [ba_len2] <;> omega
theorem p_psign (s : ByteArray) (a : Nat) (v : Int) (hs : s.size ≤ 1000000) (ha : a < s.size) (hv : v = (Utf8.decode s a).1) :
  PCalls Tryz.prog 98 [.str s, .int .i64 a, .int .i32 v] (psV (s.data.toList.drop a) a) := by
 have hl := len_size s
 have hal : a < s.data.toList.length := by omega
 have hd : s.data.toList.drop a = s.data.toList[a] :: s.data.toList.drop (a + 1) := List.drop_eq_getElem_cons hal
 obtain ⟨b, hb⟩ : ∃ b, b = s.data.toList[a] := ⟨_, rfl⟩
 obtain ⟨r, hr⟩ : ∃ r, r = s.data.toList.drop (a + 1) := ⟨_, rfl⟩
 have hdv := dec_val s a
 have hlo : b.toNat < 128 → v = b.toNat := fun h => by rw [hv, dec_lt hal (by rw [← hb]; exact h), hb]
 have hhi : ¬ b.toNat < 128 → 128 ≤ v := fun h => by have := (dec_ge hal (by rw [← hb]; exact h)).1; rw [hv]; omega
 have qc := p_containsRune v (by omega) (by omega) (fun h => by rw [hv]; exact hdv.2 (by omega))
 have qd := p_digit v
 have ql := p_letter v
 have qs := p_stop (f := 117) p_digit hi_dig s a hs (by omega)
 have qn := p_pname s a hs ha
 rw [← hb, ← hr] at hd
 obtain ⟨L, hL⟩ : ∃ L, L = b :: r := ⟨_, rfl⟩
 rw [← hL] at hd
 have hLl : L.length = s.size - a := by rw [← hd, List.length_drop]; omega
 rw [hd] at qs qn ⊢
 have hch : ∀ q : Int → Bool, (∀ r, 128 ≤ r → q r = q 128) → q v = q b.toNat := fun q hi => by
  by_cases h : b.toNat < 128
  ·rw [hlo h]
  ·rw [hi v (hhi h), hi b.toNat (by omega)]
 rw [hch _ hi_dig] at qd
 rw [hch _ hi_ltt] at ql
 refine pcalls_of rfl (free_psV _ _) (acalls_of mixed J_token_sign_ok (Nat.le_of_ble_eq_true rfl) ?_); simp only [J_token_sign, wk,Nat.reduceEqDiff,Nat.reduceAdd,Nat.reduceLeDiff,reduceCtorEq,↓reduceIte]
 refine ⟨inR_of (by omega) (by omega), ?_⟩
 have lo : ∀ n : Nat, n < 128 → v = n → b.toNat = n := fun n hn e => by
  by_cases h : b.toNat < 128
  ·have := hlo h; omega
  ·have := hhi h; omega
 refine ⟨fun e => ?_, fun e1 => ⟨fun e => ?_, fun e2 => ⟨fun e => ?_, fun e3 => ?_⟩⟩⟩
 ·unfold psV; rw [hL, sig_124 (lo 124 (by omega) e)]; exact ⟨Nat.le_refl _, rfl⟩
 ·unfold psV; rw [hL, sig_40 (lo 40 (by omega) e)]; exact ⟨Nat.le_refl _, rfl⟩
 ·unfold psV; rw [hL, sig_41 (lo 41 (by omega) e)]; exact ⟨Nat.le_refl _, rfl⟩
 refine PCalls.use (qc) ?_; simp only [wk,Nat.reduceEqDiff,Nat.reduceAdd,Nat.reduceLeDiff,reduceCtorEq,↓reduceIte]
 have hfree : ∀ n : Nat, a + n ≤ s.size → PCalls Tryz.prog 96 [.str s, .int .i64 (a + n : Nat), .fn 120 []] (.int .i64 ((a + n : Nat) + stopN freI (L.drop n))) := fun n hn => by
  have := p_stop (f := 120) p_free hi_fre s (a + n) hs hn
  rw [← List.drop_drop, hd] at this
  exact this
 have hfin : ∀ n : Nat, a + n ≤ s.size → ((stopN freI (L.drop n) = 0 ∧ a + n < s.size) ↔ fineL (L.drop n) = false) := fun n hn => by
  rcases Nat.lt_or_ge (a + n) s.size with h | h
  ·have hnl : n < L.length := by omega
   rw [List.drop_eq_getElem_cons hnl]
   show _ ↔ freI (L[n]).toNat = false
   by_cases hf : freI (L[n]).toNat = true
   ·rw [stopN_cons hf, hf]; simp
   ·have hf2 : freI (L[n]).toNat = false := by simpa using hf
    rw [stopN_zero hf2]; simp [hf2, h]
  ·rw [List.drop_of_length_le (by omega)]
   constructor
   ·rintro ⟨-, h2⟩; omega
   ·intro h2; cases h2
 have one : ∀ n : Nat, ((a : Int) + (n : Nat)) = ((a + n : Nat) : Int) := fun n => by omega
 have one1 : ((a : Int) + 1) = ((a + 1 : Nat) : Int) := by omega
 -- the four ways on
 have bad : ∀ k w o n, (signL L = if goodT (k, w, o, n) L = true then some (k, w, o, n) else none) → goodT (k, w, o, n) L = false → psV L a = .tup [.agg [.int .i64 0, .str ⟨#[]⟩, .int .i64 0, .int .i64 0], .int .i64 0] := fun k w o n h1 h2 => by
  unfold psV; rw [h1, h2]; rfl
 have good : ∀ k w o n, (signL L = if goodT (k, w, o, n) L = true then some (k, w, o, n) else none) → goodT (k, w, o, n) L = true → psV L a = .tup [.agg [.int .i64 k, .str w, .int .i64 o, .int .i64 0], .int .i64 (a + n : Nat)] := fun k w o n h1 h2 => by
  unfold psV; rw [h1, h2]; rfl
 refine ⟨fun e => ?_, fun e4 => ⟨fun e => ?_, fun e5 => ?_⟩⟩
 ·have hb2 : sigB b.toNat = true ∧ v = b.toNat := by
   by_cases h : b.toNat < 128
   ·rw [hlo h] at e; exact ⟨by simpa using e, hlo h⟩
   ·have := hhi h
    simp [sigB] at e; omega
  have henc : Utf8.encode v = ba [b] := by
   have : b.toNat < 128 := by have := hb2.1; simp [sigB] at this; omega
   rw [hb2.2]
   unfold Utf8.encode Utf8.valid
   have e1 : (decide ((0 : Int) ≤ (b.toNat : Int)) && decide ((b.toNat : Int) < 55296)) = true := by simp; omega
   simp only [e1, Bool.true_or, if_true, Int.toNat_natCast, this]
   simp [ba]
  unfold psV; rw [hL, sig_sign hb2.1, henc]; exact ⟨Nat.le_refl _, rfl⟩
 ·have hsig := sig_d (r := r) (lo 68 (by omega) e)
  rw [← hL] at hsig
  have qw := p_word 1 ⟨#[68]⟩ 0 0 (by decide)
  rw [one1]
  have qf := hfree (1) (by omega)
  have hf := hfin (1) (by omega)
  have hgd := good _ _ _ _ hsig
  have hbd := bad _ _ _ _ hsig
  simp only [goodT] at hgd hbd
  simp only [J_token_sign_j1, wk,Nat.reduceEqDiff,Nat.reduceAdd,Nat.reduceLeDiff,reduceCtorEq,↓reduceIte]
  refine PCalls.use qw ?_; simp only [wk,Nat.reduceEqDiff,Nat.reduceAdd,Nat.reduceLeDiff,reduceCtorEq,↓reduceIte]
  refine ⟨fun hne => ?_, fun he => ?_⟩
  ·have hne2 := decide_eq_true hne
   simp only [hne2, Bool.true_and] at hgd hbd
   refine PCalls.use qf ?_; simp only [wk,Nat.reduceEqDiff,Nat.reduceAdd,Nat.reduceLeDiff,reduceCtorEq,↓reduceIte]
   refine ⟨fun h1 => ⟨fun h2 => ?_, fun h2 => ?_⟩, fun h1 => ?_⟩
   ·rw [hbd (hf.1 ⟨by omega, by omega⟩)]; exact ⟨Nat.le_refl _, rfl⟩
   ·rw [hgd (by cases hx : fineL _ with | true => rfl | false => (exfalso; have := hf.2 hx; omega))]; exact ⟨Nat.le_refl _, rfl⟩
   ·rw [hgd (by cases hx : fineL _ with | true => rfl | false => (exfalso; have := hf.2 hx; omega))]; exact ⟨Nat.le_refl _, rfl⟩
  ·rw [hbd (by rw [he]; simp)]; exact ⟨Nat.le_refl _, rfl⟩
 ·refine PCalls.use (qd) ?_; simp only [wk,Nat.reduceEqDiff,reduceCtorEq,↓reduceIte]
  refine ⟨fun e => ?_, fun e6 => ?_⟩
  ·have hsig := sig_dig (r := r) e
   rw [← hL] at hsig
   have hle := stopN_le digI L
   obtain ⟨n, hn⟩ : ∃ n, n = stopN digI L := ⟨_, rfl⟩
   rw [← hn] at qs hsig hle
   rw [one n] at qs
   refine PCalls.use (qs) ?_; simp only [wk,Nat.reduceEqDiff,Nat.reduceAdd,Nat.reduceLeDiff,reduceCtorEq,↓reduceIte]
   have hw : s.extract a (a + n) = ba (L.take n) := by rw [ext_ba, hd]
   refine ⟨⟨by omega, by omega, by omega⟩, ?_⟩
   rw [Int.toNat_natCast, Int.toNat_natCast, hw]
   have qw := p_word 8 (ba (L.take n)) 0 0 (by rw [ba_len2, List.length_take]; omega)
   have qf := hfree (n) (by omega)
   have hf := hfin (n) (by omega)
   have hgd := good _ _ _ _ hsig
   have hbd := bad _ _ _ _ hsig
   simp only [goodT] at hgd hbd
   simp only [J_token_sign_j1, wk,Nat.reduceEqDiff,Nat.reduceAdd,Nat.reduceLeDiff,reduceCtorEq,↓reduceIte]
   refine PCalls.use qw ?_; simp only [wk,Nat.reduceEqDiff,Nat.reduceAdd,Nat.reduceLeDiff,reduceCtorEq,↓reduceIte]
   refine ⟨fun hne => ?_, fun he => ?_⟩
   ·have hne2 := decide_eq_true hne
    simp only [hne2, Bool.true_and] at hgd hbd
    refine PCalls.use qf ?_; simp only [wk,Nat.reduceEqDiff,Nat.reduceAdd,Nat.reduceLeDiff,reduceCtorEq,↓reduceIte]
    refine ⟨fun h1 => ⟨fun h2 => ?_, fun h2 => ?_⟩, fun h1 => ?_⟩
    ·rw [hbd (hf.1 ⟨by omega, by omega⟩)]; exact ⟨Nat.le_refl _, rfl⟩
    ·rw [hgd (by cases hx : fineL _ with | true => rfl | false => (exfalso; have := hf.2 hx; omega))]; exact ⟨Nat.le_refl _, rfl⟩
    ·rw [hgd (by cases hx : fineL _ with | true => rfl | false => (exfalso; have := hf.2 hx; omega))]; exact ⟨Nat.le_refl _, rfl⟩
   ·rw [hbd (by rw [he]; simp)]; exact ⟨Nat.le_refl _, rfl⟩
  ·refine PCalls.use (ql) ?_; simp only [wk,Nat.reduceEqDiff,reduceCtorEq,↓reduceIte]
   refine ⟨fun e => ?_, fun e7 => ?_⟩
   ·have hsig := sign_letter (r := r) e
    rw [← hL] at hsig
    have hple := pname_le L
    obtain ⟨k, w, o, n, hpn⟩ : ∃ k w o n, pnameL L = (k, w, o, n) := ⟨_, _, _, _, rfl⟩
    rw [hpn] at hsig qn hple
    simp only at hple
    have qw := p_word k w o 0 (by omega)
    simp only [sigV] at qn
    refine PCalls.use (qn) ?_; simp only [wk,Nat.reduceEqDiff,Nat.reduceAdd,Nat.reduceLeDiff,reduceCtorEq,↓reduceIte]
    have qf := hfree (n) (by omega)
    have hf := hfin (n) (by omega)
    have hgd := good _ _ _ _ hsig
    have hbd := bad _ _ _ _ hsig
    simp only [goodT] at hgd hbd
    simp only [J_token_sign_j1, wk,Nat.reduceEqDiff,Nat.reduceAdd,Nat.reduceLeDiff,reduceCtorEq,↓reduceIte]
    refine PCalls.use qw ?_; simp only [wk,Nat.reduceEqDiff,Nat.reduceAdd,Nat.reduceLeDiff,reduceCtorEq,↓reduceIte]
    refine ⟨fun hne => ?_, fun he => ?_⟩
    ·have hne2 := decide_eq_true hne
     simp only [hne2, Bool.true_and] at hgd hbd
     refine PCalls.use qf ?_; simp only [wk,Nat.reduceEqDiff,Nat.reduceAdd,Nat.reduceLeDiff,reduceCtorEq,↓reduceIte]
     refine ⟨fun h1 => ⟨fun h2 => ?_, fun h2 => ?_⟩, fun h1 => ?_⟩
     ·rw [hbd (hf.1 ⟨by omega, by omega⟩)]; exact ⟨Nat.le_refl _, rfl⟩
     ·rw [hgd (by cases hx : fineL _ with | true => rfl | false => (exfalso; have := hf.2 hx; omega))]; exact ⟨Nat.le_refl _, rfl⟩
     ·rw [hgd (by cases hx : fineL _ with | true => rfl | false => (exfalso; have := hf.2 hx; omega))]; exact ⟨Nat.le_refl _, rfl⟩
    ·rw [hbd (by rw [he]; simp)]; exact ⟨Nat.le_refl _, rfl⟩
   ·have hsig := sig_else (b := b) (r := r) (by intro h; apply e1; have := hlo (by omega); omega) (by intro h; apply e2; have := hlo (by omega); omega) (by intro h; apply e3; have := hlo (by omega); omega) (by
     by_cases h : b.toNat < 128
     ·rw [hlo h] at e4; simpa using e4
     ·simp [sigB]; omega) (by intro h; apply e5; have := hlo (by omega); omega) (by simpa using e6) (by simpa using e7)
    rw [← hL] at hsig
    have qw := p_word 0 ⟨#[]⟩ 0 0 (by decide)
    rw [one1]
    have qf := hfree (1) (by omega)
    have hf := hfin (1) (by omega)
    have hgd := good _ _ _ _ hsig
    have hbd := bad _ _ _ _ hsig
    simp only [goodT] at hgd hbd
    simp only [J_token_sign_j1, wk,Nat.reduceEqDiff,Nat.reduceAdd,Nat.reduceLeDiff,reduceCtorEq,↓reduceIte]
    refine PCalls.use qw ?_; simp only [wk,Nat.reduceEqDiff,Nat.reduceAdd,Nat.reduceLeDiff,reduceCtorEq,↓reduceIte]
    refine ⟨fun hne => ?_, fun he => ?_⟩
    ·have hne2 := decide_eq_true hne
     simp only [hne2, Bool.true_and] at hgd hbd
     refine PCalls.use qf ?_; simp only [wk,Nat.reduceEqDiff,Nat.reduceAdd,Nat.reduceLeDiff,reduceCtorEq,↓reduceIte]
     refine ⟨fun h1 => ⟨fun h2 => ?_, fun h2 => ?_⟩, fun h1 => ?_⟩
     ·rw [hbd (hf.1 ⟨by omega, by omega⟩)]; exact ⟨Nat.le_refl _, rfl⟩
     ·rw [hgd (by cases hx : fineL _ with | true => rfl | false => (exfalso; have := hf.2 hx; omega))]; exact ⟨Nat.le_refl _, rfl⟩
     ·rw [hgd (by cases hx : fineL _ with | true => rfl | false => (exfalso; have := hf.2 hx; omega))]; exact ⟨Nat.le_refl _, rfl⟩
    ·rw [hbd (by rw [he]; simp)]; exact ⟨Nat.le_refl _, rfl⟩
end Go.Proofs.YtedaffmkpljlnaaGreat
