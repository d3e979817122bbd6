/- Texts of one proof, laid together: Pj Pb Pc Az In FnR Pr Inr Aw FnM. -/
import Derived.Test.YtpjlkefadnbgdaaMV13
import Derived.Test.YtpjlkefadnbgdaaProg
import Derived.Test.YtpjlkefadnbgdaaMV12

/- What pack's In does: counts, texts, words, sets. -/
-- tight
namespace Go.Proofs.Ytpjlkefadnbgdaa
set_option linter.unusedSimpArgs false
set_option linter.unusedVariables false
open Go.RowKit Go.Lib

def rTake (S : ByteArray) (n p : Nat) : Option (ByteArray × Nat) := if S.size < p + n then none else some (S.extract p (p + n), p + n)
theorem a_take' {h : Hp} {id : Nat} {S : ByteArray} {s : Bool × Nat} (n : Nat) (ho : h[id]? = some (iObj S s)) (hs : S.size ≤ 1000000000000) (hp : s.2 ≤ S.size) (hn : n ≤ 4611686018427387904) :
    ACalls Try.prog 57 [.ptr id 0, .int .i64 n] h (fun a h' => a = vS (if s.1 then none else rTake S n s.2) ∧ h' = h.set id (iObj S (stO (if s.1 then none else rTake S n s.2) s.2))) := by
  have := a_take n ho hs hp hn
  have e : (if s.1 = true ∨ S.size < s.2 + n then none else some (S.extract s.2 (s.2 + n), s.2 + n)) = (if s.1 = true then none else rTake S n s.2) := by
    unfold rTake
    by_cases h1 : s.1 = true
    · rw [if_pos (Or.inl h1), if_pos h1]
    · rw [if_neg h1]
      by_cases h2 : S.size < s.2 + n
      · rw [if_pos (Or.inr h2), if_pos h2]
      · rw [if_neg (by simp [h1, h2]), if_neg h2]
  rw [e] at this
  exact this
/-- a count: one byte -/
def rCount (S : ByteArray) (most p : Nat) : Option (Nat × Nat) := if S.size < p + 1 then none else if 1 ≤ byteAt S p ∧ byteAt S p ≤ most then some (byteAt S p, p + 1) else none
def qCount (S : ByteArray) (bad : Bool) (p : Nat) : Nat := if bad ∨ S.size < p + 1 then p else p + 1
theorem byteAt_extract {S : ByteArray} {p n : Nat} (h : p + n ≤ S.size) (hn : 0 < n) : byteAt (S.extract p (p + n)) 0 = byteAt S p := by
  rw [byteAt_eq (by simp; omega), byteAt_eq (by omega)]
  simp [ByteArray.getElem_extract]
theorem byteAt_lt (S : ByteArray) (p : Nat) : byteAt S p < 256 := by
  unfold byteAt
  cases S.data.toList[p]? with
  | none => simp
  | some b => exact b.toNat_lt
theorem deg_vS (r : Option (ByteArray × Nat)) : deg (vS r) = vS r := by cases r <;> rfl
theorem wrap_byte (n : Nat) (h : n < 256) : IntKind.i64.wrap (n : Int) = n := by rw [IntKind.wrap_i64]; omega
set_option maxHeartbeats 1000000 in
theorem a_count {h : Hp} {id : Nat} {S : ByteArray} {s : Bool × Nat} (most : Nat) (ho : h[id]? = some (iObj S s)) (hs : S.size ≤ 1000000000000) (hp : s.2 ≤ S.size) :
    ACalls Try.prog 58 [.ptr id 0, .int .i64 most] h (fun a h' => a = vI (if s.1 then none else rCount S most s.2) ∧ h' = h.set id (iObj S (stO (if s.1 then none else rCount S most s.2) (qCount S s.1 s.2)))) := by
  obtain ⟨bad, p⟩ := s
  refine acalls_of mixed F_pack_In_count_ok (Nat.le_of_ble_eq_true rfl) ?_; simp only [F_pack_In_count, wk,if_true,if_false,forall_const,implies_true,ne_eq,eq_self,Nat.reduceEqDiff,Nat.reduceAdd,Nat.reduceMul,Nat.reduceSub,Nat.reduceLeDiff,Nat.reduceLT,Int.reduceEq,Int.reduceLT,Int.reduceLE,Int.reduceAdd,Int.reduceSub,Int.reduceMul,Int.reduceNeg,Int.reduceNe,reduceCtorEq,Int.reduceToNat,↓reduceIte]
  refine ACalls.use (a_take' (s := (bad, p)) 1 ho hs hp (by omega)) ?_; rintro _ _ ⟨rfl, rfl⟩; simp only [wk,if_true,if_false,forall_const,implies_true,ne_eq,eq_self,Nat.reduceEqDiff,Nat.reduceAdd,Nat.reduceMul,Nat.reduceSub,Nat.reduceLeDiff,Nat.reduceLT,Int.reduceEq,Int.reduceLT,Int.reduceLE,Int.reduceAdd,Int.reduceSub,Int.reduceMul,Int.reduceNeg,Int.reduceNe,reduceCtorEq,Int.reduceToNat,↓reduceIte]
  have hbt := byteAt_lt S p
  cases bad with
  | true =>
    simp only [if_true, stO, vS, wk,if_true,if_false,forall_const,implies_true,ne_eq,eq_self,Nat.reduceEqDiff,Nat.reduceAdd,Nat.reduceMul,Nat.reduceSub,Nat.reduceLeDiff,Nat.reduceLT,Int.reduceEq,Int.reduceLT,Int.reduceLE,Int.reduceAdd,Int.reduceSub,Int.reduceMul,Int.reduceNeg,Int.reduceNe,reduceCtorEq,Int.reduceToNat,↓reduceIte]
    refine ACalls.use (a_well (bad := true) (hset ho _)) ?_; rintro _ _ ⟨rfl, rfl⟩; simp only [wk,if_true,if_false,forall_const,implies_true,ne_eq,eq_self,Nat.reduceEqDiff,Nat.reduceAdd,Nat.reduceMul,Nat.reduceSub,Nat.reduceLeDiff,Nat.reduceLT,Int.reduceEq,Int.reduceLT,Int.reduceLE,Int.reduceAdd,Int.reduceSub,Int.reduceMul,Int.reduceNeg,Int.reduceNe,reduceCtorEq,Int.reduceToNat,↓reduceIte, hset ho]
    exact ⟨rfl, by simp [qCount, stO]⟩
  | false =>
    simp only [Bool.false_eq_true, if_false, rTake, rCount, qCount, false_or]
    by_cases hz : S.size < p + 1
    · simp only [if_pos hz, stO, vS, wk,if_true,if_false,forall_const,implies_true,ne_eq,eq_self,Nat.reduceEqDiff,Nat.reduceAdd,Nat.reduceMul,Nat.reduceSub,Nat.reduceLeDiff,Nat.reduceLT,Int.reduceEq,Int.reduceLT,Int.reduceLE,Int.reduceAdd,Int.reduceSub,Int.reduceMul,Int.reduceNeg,Int.reduceNe,reduceCtorEq,Int.reduceToNat,↓reduceIte]
      refine ACalls.use (a_well (bad := true) (hset ho _)) ?_; rintro _ _ ⟨rfl, rfl⟩; simp only [wk,if_true,if_false,forall_const,implies_true,ne_eq,eq_self,Nat.reduceEqDiff,Nat.reduceAdd,Nat.reduceMul,Nat.reduceSub,Nat.reduceLeDiff,Nat.reduceLT,Int.reduceEq,Int.reduceLT,Int.reduceLE,Int.reduceAdd,Int.reduceSub,Int.reduceMul,Int.reduceNeg,Int.reduceNe,reduceCtorEq,Int.reduceToNat,↓reduceIte, hset ho]
      rfl
    · simp only [if_neg hz, stO, vS, wk,if_true,if_false,forall_const,implies_true,ne_eq,eq_self,Nat.reduceEqDiff,Nat.reduceAdd,Nat.reduceMul,Nat.reduceSub,Nat.reduceLeDiff,Nat.reduceLT,Int.reduceEq,Int.reduceLT,Int.reduceLE,Int.reduceAdd,Int.reduceSub,Int.reduceMul,Int.reduceNeg,Int.reduceNe,reduceCtorEq,Int.reduceToNat,↓reduceIte]
      refine ACalls.use (a_well (bad := false) (hset ho _)) ?_; rintro _ _ ⟨rfl, rfl⟩; simp only [wk,if_true,if_false,forall_const,implies_true,ne_eq,eq_self,Nat.reduceEqDiff,Nat.reduceAdd,Nat.reduceMul,Nat.reduceSub,Nat.reduceLeDiff,Nat.reduceLT,Int.reduceEq,Int.reduceLT,Int.reduceLE,Int.reduceAdd,Int.reduceSub,Int.reduceMul,Int.reduceNeg,Int.reduceNe,reduceCtorEq,Int.reduceToNat,↓reduceIte, hset ho]
      refine ⟨by simp; omega, ?_⟩
      rw [byteAt_extract (by omega) (by omega), wrap_byte _ hbt]
      refine ⟨fun h1 => ⟨fun h2 => ?_, fun h2 => ?_⟩, fun h1 => ?_⟩
      · refine ACalls.use (a_fail (hset ho _)) ?_; rintro _ _ ⟨rfl, rfl⟩; simp only [wk,if_true,if_false,forall_const,implies_true,ne_eq,eq_self,Nat.reduceEqDiff,Nat.reduceAdd,Nat.reduceMul,Nat.reduceSub,Nat.reduceLeDiff,Nat.reduceLT,Int.reduceEq,Int.reduceLT,Int.reduceLE,Int.reduceAdd,Int.reduceSub,Int.reduceMul,Int.reduceNeg,Int.reduceNe,reduceCtorEq,Int.reduceToNat,↓reduceIte, hset ho]
        rw [if_neg (by omega)]; exact ⟨rfl, rfl⟩
      · rw [if_pos (by omega)]; exact ⟨rfl, rfl⟩
      · refine ACalls.use (a_fail (hset ho _)) ?_; rintro _ _ ⟨rfl, rfl⟩; simp only [wk,if_true,if_false,forall_const,implies_true,ne_eq,eq_self,Nat.reduceEqDiff,Nat.reduceAdd,Nat.reduceMul,Nat.reduceSub,Nat.reduceLeDiff,Nat.reduceLT,Int.reduceEq,Int.reduceLT,Int.reduceLE,Int.reduceAdd,Int.reduceSub,Int.reduceMul,Int.reduceNeg,Int.reduceNe,reduceCtorEq,Int.reduceToNat,↓reduceIte, hset ho]
        rw [if_neg (by omega)]; exact ⟨rfl, rfl⟩
def rText (S : ByteArray) (most : Int) (p : Nat) : Option (ByteArray × Nat) :=
  match rNum S most p with
  | some (n, q) => rTake S n q
  | none => none
set_option maxHeartbeats 1000000 in
theorem a_itext {h : Hp} {id : Nat} {S : ByteArray} {s : Bool × Nat} (most : Int) (ho : h[id]? = some (iObj S s)) (hs : S.size ≤ 1000000000000) (hp : s.2 ≤ S.size) :
    ∃ q, q ≤ S.size ∧ ACalls Try.prog 55 [.ptr id 0, .int .i64 most] h (fun a h' => a = vS (if s.1 then none else rText S most s.2) ∧ h' = h.set id (iObj S (stO (if s.1 then none else rText S most s.2) q))) := by
  obtain ⟨bad, p⟩ := s
  simp only at hp
  refine ⟨(stO (if bad then none else rNum S most p) p).2, ?_, ?_⟩
  · cases hr : (if bad then none else rNum S most p) with
    | none => exact hp
    | some x =>
      split at hr
      · cases hr
      · have := rNum_le hr hp
        simp only [stO]; omega
  refine acalls_of mixed F_pack_In_Text_ok (Nat.le_of_ble_eq_true rfl) ?_; simp only [F_pack_In_Text, wk,if_true,if_false,forall_const,implies_true,ne_eq,eq_self,Nat.reduceEqDiff,Nat.reduceAdd,Nat.reduceMul,Nat.reduceSub,Nat.reduceLeDiff,Nat.reduceLT,Int.reduceEq,Int.reduceLT,Int.reduceLE,Int.reduceAdd,Int.reduceSub,Int.reduceMul,Int.reduceNeg,Int.reduceNe,reduceCtorEq,Int.reduceToNat,↓reduceIte]
  refine ACalls.use (a_inum (s := (bad, p)) most ho hs hp) ?_; rintro _ _ ⟨rfl, rfl⟩; simp only [wk,if_true,if_false,forall_const,implies_true,ne_eq,eq_self,Nat.reduceEqDiff,Nat.reduceAdd,Nat.reduceMul,Nat.reduceSub,Nat.reduceLeDiff,Nat.reduceLT,Int.reduceEq,Int.reduceLT,Int.reduceLE,Int.reduceAdd,Int.reduceSub,Int.reduceMul,Int.reduceNeg,Int.reduceNe,reduceCtorEq,Int.reduceToNat,↓reduceIte, hset ho, iObj]
  cases hr : (if bad = true then none else rNum S most p) with
  | none =>
    have hr' : (if bad = true then none else rText S most p) = none := by
      cases bad with
      | true => rfl
      | false =>
        simp only [Bool.false_eq_true, if_false] at hr ⊢
        simp only [rText, hr]
    rw [hr']
    simp only [vI, stO, wk,if_true,if_false,forall_const,implies_true,ne_eq,eq_self,Nat.reduceEqDiff,Nat.reduceAdd,Nat.reduceMul,Nat.reduceSub,Nat.reduceLeDiff,Nat.reduceLT,Int.reduceEq,Int.reduceLT,Int.reduceLE,Int.reduceAdd,Int.reduceSub,Int.reduceMul,Int.reduceNeg,Int.reduceNe,reduceCtorEq,Int.reduceToNat,↓reduceIte]
    refine ⟨fun hgt => by omega, fun _ => ?_⟩
    refine ACalls.use (a_take' (s := (true, p)) 0 (hset ho _) hs hp (by omega)) ?_; rintro _ _ ⟨rfl, rfl⟩; simp only [wk,if_true,if_false,forall_const,implies_true,ne_eq,eq_self,Nat.reduceEqDiff,Nat.reduceAdd,Nat.reduceMul,Nat.reduceSub,Nat.reduceLeDiff,Nat.reduceLT,Int.reduceEq,Int.reduceLT,Int.reduceLE,Int.reduceAdd,Int.reduceSub,Int.reduceMul,Int.reduceNeg,Int.reduceNe,reduceCtorEq,Int.reduceToNat,↓reduceIte, hset ho]
    exact ⟨rfl, rfl⟩
  | some x =>
    obtain ⟨n, q⟩ := x
    have hb : bad = false := by cases bad with
      | true => simp at hr
      | false => rfl
    subst hb
    simp only [Bool.false_eq_true, if_false] at hr ⊢
    have hle := rNum_le hr hp
    have hr' : rText S most p = rTake S n q := by simp only [rText, hr]
    rw [hr']
    simp only [vI, stO, wk,if_true,if_false,forall_const,implies_true,ne_eq,eq_self,Nat.reduceEqDiff,Nat.reduceAdd,Nat.reduceMul,Nat.reduceSub,Nat.reduceLeDiff,Nat.reduceLT,Int.reduceEq,Int.reduceLT,Int.reduceLE,Int.reduceAdd,Int.reduceSub,Int.reduceMul,Int.reduceNeg,Int.reduceNe,reduceCtorEq,Int.reduceToNat,↓reduceIte]
    refine ⟨fun hgt => ?_, fun hng => ?_⟩
    · refine ACalls.use (a_fail (bad := false) (hset ho _)) ?_; rintro _ _ ⟨rfl, rfl⟩; simp only [wk,if_true,if_false,forall_const,implies_true,ne_eq,eq_self,Nat.reduceEqDiff,Nat.reduceAdd,Nat.reduceMul,Nat.reduceSub,Nat.reduceLeDiff,Nat.reduceLT,Int.reduceEq,Int.reduceLT,Int.reduceLE,Int.reduceAdd,Int.reduceSub,Int.reduceMul,Int.reduceNeg,Int.reduceNe,reduceCtorEq,Int.reduceToNat,↓reduceIte, hset ho]
      simp only [rTake]
      rw [if_pos (by omega)]; exact ⟨rfl, rfl⟩
    · refine ACalls.use (a_take' (s := (false, q)) n (hset ho _) hs hle.2.1 (by omega)) ?_; rintro _ _ ⟨rfl, rfl⟩; simp only [wk,if_true,if_false,forall_const,implies_true,ne_eq,eq_self,Nat.reduceEqDiff,Nat.reduceAdd,Nat.reduceMul,Nat.reduceSub,Nat.reduceLeDiff,Nat.reduceLT,Int.reduceEq,Int.reduceLT,Int.reduceLE,Int.reduceAdd,Int.reduceSub,Int.reduceMul,Int.reduceNeg,Int.reduceNe,reduceCtorEq,Int.reduceToNat,↓reduceIte, hset ho, deg_vS]
      (try first | exact ⟨rfl, rfl⟩ | rfl | trivial)
def rWord (S : ByteArray) (p : Nat) : Option (ByteArray × Nat) :=
  if S.size < p + 1 then none else if S.size < p + 1 + 2 * byteAt S p then none else
  if wordMay (S.extract (p + 1) (p + 1 + 2 * byteAt S p)) then some (S.extract (p + 1) (p + 1 + 2 * byteAt S p), p + 1 + 2 * byteAt S p) else none
/-- a word, as pack reads it -/
theorem rWord_eq (S : ByteArray) (p : Nat) : rWord S p = match rCount S 8 p with
    | some (n, q) => (match rTake S (2 * n) q with
      | some (w, q') => if wordMay w then some (w, q') else none
      | none => none)
    | none => none := by
  unfold rWord rCount
  by_cases h1 : S.size < p + 1
  · rw [if_pos h1, if_pos h1]
  · rw [if_neg h1, if_neg h1]
    by_cases h2 : 1 ≤ byteAt S p ∧ byteAt S p ≤ 8
    · rw [if_pos h2]
      simp only [rTake]
      by_cases h3 : S.size < p + 1 + 2 * byteAt S p
      · rw [if_pos h3, if_pos h3]
      · rw [if_neg h3, if_neg h3]
    · rw [if_neg h2]
      by_cases h3 : S.size < p + 1 + 2 * byteAt S p
      · rw [if_pos h3]
      · rw [if_neg h3, if_neg]
        intro hw
        have := wordMay_size hw
        simp at this
        omega
theorem wordMay_empty : wordMay ⟨#[]⟩ = false := by
  cases h : wordMay ⟨#[]⟩ with
  | false => rfl
  | true => have := wordMay_size h; exact absurd this.2.1 (by decide)
theorem rTake_le {S w : ByteArray} {n p q : Nat} (h : rTake S n p = some (w, q)) : q = p + n ∧ q ≤ S.size ∧ w = S.extract p q := by
  unfold rTake at h
  split at h
  · cases h
  · simp only [Option.some.injEq, Prod.mk.injEq] at h; obtain ⟨rfl, rfl⟩ := h; exact ⟨rfl, by omega, rfl⟩
theorem rCount_le {S : ByteArray} {most n p q : Nat} (h : rCount S most p = some (n, q)) : q = p + 1 ∧ q ≤ S.size ∧ 1 ≤ n ∧ n ≤ most ∧ n = byteAt S p := by
  unfold rCount at h
  split at h
  · cases h
  · split at h
    · simp only [Option.some.injEq, Prod.mk.injEq] at h; omega
    · cases h
theorem qCount_le {S : ByteArray} {bad : Bool} {p : Nat} (hp : p ≤ S.size) : qCount S bad p ≤ S.size := by
  unfold qCount
  split
  · exact hp
  · next h => simp at h; omega
set_option maxHeartbeats 1000000 in
theorem a_iword {h : Hp} {id : Nat} {S : ByteArray} {s : Bool × Nat} (ho : h[id]? = some (iObj S s)) (hs : S.size ≤ 1000000000000) (hp : s.2 ≤ S.size) :
    ∃ q, q ≤ S.size ∧ ACalls Try.prog 41 [.ptr id 0] h (fun a h' => a = vS (if s.1 then none else rWord S s.2) ∧ h' = h.set id (iObj S (stO (if s.1 then none else rWord S s.2) q))) := by
  obtain ⟨bad, p⟩ := s
  simp only at hp ⊢
  have hq1 := qCount_le (S := S) (bad := bad) hp
  have hgo : ∀ q, W Try.prog F_pack_In_Word.code (args0 0 [.ptr id 0]) h (kret F_pack_In_Word.rs (fun a h' => a = vS (if bad then none else rWord S p) ∧ h' = h.set id (iObj S (stO (if bad then none else rWord S p) q)))) → ACalls Try.prog 41 [.ptr id 0] h (fun a h' => a = vS (if bad then none else rWord S p) ∧ h' = h.set id (iObj S (stO (if bad then none else rWord S p) q))) := fun q hw => acalls_of mixed F_pack_In_Word_ok (Nat.le_of_ble_eq_true rfl) hw
  cases hr : (if bad = true then none else rCount S 8 p) with
  | none =>
    have hrw : (if bad = true then none else rWord S p) = none := by
      cases bad with
      | true => rfl
      | false =>
        simp only [Bool.false_eq_true, if_false] at hr ⊢
        rw [rWord_eq, hr]
    refine ⟨qCount S bad p, hq1, hgo _ ?_⟩
    rw [hrw]
    simp only [F_pack_In_Word, wk,if_true,if_false,forall_const,implies_true,ne_eq,eq_self,Nat.reduceEqDiff,Nat.reduceAdd,Nat.reduceMul,Nat.reduceSub,Nat.reduceLeDiff,Nat.reduceLT,Int.reduceEq,Int.reduceLT,Int.reduceLE,Int.reduceAdd,Int.reduceSub,Int.reduceMul,Int.reduceNeg,Int.reduceNe,reduceCtorEq,Int.reduceToNat,↓reduceIte]
    have hc := a_count (s := (bad, p)) 8 ho hs hp
    simp only [hr, vI, stO] at hc
    refine ACalls.use (hc) ?_; rintro _ _ ⟨rfl, rfl⟩; simp only [wk,if_true,if_false,forall_const,implies_true,ne_eq,eq_self,Nat.reduceEqDiff,Nat.reduceAdd,Nat.reduceMul,Nat.reduceSub,Nat.reduceLeDiff,Nat.reduceLT,Int.reduceEq,Int.reduceLT,Int.reduceLE,Int.reduceAdd,Int.reduceSub,Int.reduceMul,Int.reduceNeg,Int.reduceNe,reduceCtorEq,Int.reduceToNat,↓reduceIte, hset ho]
    refine ⟨inR_of (by omega) (by omega), ?_⟩
    refine ACalls.use (a_take' (s := (true, qCount S bad p)) 0 (hset ho _) hs hq1 (by omega)) ?_; rintro _ _ ⟨rfl, rfl⟩; simp only [wk,if_true,if_false,forall_const,implies_true,ne_eq,eq_self,Nat.reduceEqDiff,Nat.reduceAdd,Nat.reduceMul,Nat.reduceSub,Nat.reduceLeDiff,Nat.reduceLT,Int.reduceEq,Int.reduceLT,Int.reduceLE,Int.reduceAdd,Int.reduceSub,Int.reduceMul,Int.reduceNeg,Int.reduceNe,reduceCtorEq,Int.reduceToNat,↓reduceIte, hset ho, stO, vS, iObj]
    refine PCalls.use (p_wmay ⟨#[]⟩ (by decide)) ?_; simp only [wk,if_true,if_false,forall_const,implies_true,ne_eq,eq_self,Nat.reduceEqDiff,Nat.reduceAdd,Nat.reduceMul,Nat.reduceSub,Nat.reduceLeDiff,Nat.reduceLT,Int.reduceEq,Int.reduceLT,Int.reduceLE,Int.reduceAdd,Int.reduceSub,Int.reduceMul,Int.reduceNeg,Int.reduceNe,reduceCtorEq,Int.reduceToNat,↓reduceIte]
    rw [wordMay_empty]
    simp only [wk,if_true,if_false,forall_const,implies_true,ne_eq,eq_self,Nat.reduceEqDiff,Nat.reduceAdd,Nat.reduceMul,Nat.reduceSub,Nat.reduceLeDiff,Nat.reduceLT,Int.reduceEq,Int.reduceLT,Int.reduceLE,Int.reduceAdd,Int.reduceSub,Int.reduceMul,Int.reduceNeg,Int.reduceNe,reduceCtorEq,Int.reduceToNat,↓reduceIte]
    refine ACalls.use (a_fail (hset ho _)) ?_; rintro _ _ ⟨rfl, rfl⟩; simp only [wk,if_true,if_false,forall_const,implies_true,ne_eq,eq_self,Nat.reduceEqDiff,Nat.reduceAdd,Nat.reduceMul,Nat.reduceSub,Nat.reduceLeDiff,Nat.reduceLT,Int.reduceEq,Int.reduceLT,Int.reduceLE,Int.reduceAdd,Int.reduceSub,Int.reduceMul,Int.reduceNeg,Int.reduceNe,reduceCtorEq,Int.reduceToNat,↓reduceIte, hset ho]
    (try first | exact ⟨rfl, rfl⟩ | rfl | trivial)
  | some x =>
    obtain ⟨n, q⟩ := x
    have hb : bad = false := by cases bad with
      | true => simp at hr
      | false => rfl
    subst hb
    simp only [Bool.false_eq_true, if_false] at hr hgo ⊢
    have hle := rCount_le hr
    cases hr2 : rTake S (2 * n) q with
    | none =>
      have hrw : rWord S p = none := by rw [rWord_eq, hr]; simp only [hr2]
      refine ⟨q, hle.2.1, hgo _ ?_⟩
      rw [hrw]
      simp only [F_pack_In_Word, wk,if_true,if_false,forall_const,implies_true,ne_eq,eq_self,Nat.reduceEqDiff,Nat.reduceAdd,Nat.reduceMul,Nat.reduceSub,Nat.reduceLeDiff,Nat.reduceLT,Int.reduceEq,Int.reduceLT,Int.reduceLE,Int.reduceAdd,Int.reduceSub,Int.reduceMul,Int.reduceNeg,Int.reduceNe,reduceCtorEq,Int.reduceToNat,↓reduceIte]
      have hc := a_count (s := (false, p)) 8 ho hs hp
      simp only [Bool.false_eq_true, if_false, hr, vI, stO] at hc
      refine ACalls.use (hc) ?_; rintro _ _ ⟨rfl, rfl⟩; simp only [wk,if_true,if_false,forall_const,implies_true,ne_eq,eq_self,Nat.reduceEqDiff,Nat.reduceAdd,Nat.reduceMul,Nat.reduceSub,Nat.reduceLeDiff,Nat.reduceLT,Int.reduceEq,Int.reduceLT,Int.reduceLE,Int.reduceAdd,Int.reduceSub,Int.reduceMul,Int.reduceNeg,Int.reduceNe,reduceCtorEq,Int.reduceToNat,↓reduceIte, hset ho]
      refine ⟨inR_of (by omega) (by omega), ?_⟩
      have ht := a_take' (s := (false, q)) (2 * n) (hset ho (iObj S (false, q))) hs hle.2.1 (by omega)
      simp only [Bool.false_eq_true, if_false, hr2, vS, stO] at ht
      rw [show ((2 : Int) * (n : Int)) = ((2 * n : Nat) : Int) by omega]
      refine ACalls.use (ht) ?_; rintro _ _ ⟨rfl, rfl⟩; simp only [wk,if_true,if_false,forall_const,implies_true,ne_eq,eq_self,Nat.reduceEqDiff,Nat.reduceAdd,Nat.reduceMul,Nat.reduceSub,Nat.reduceLeDiff,Nat.reduceLT,Int.reduceEq,Int.reduceLT,Int.reduceLE,Int.reduceAdd,Int.reduceSub,Int.reduceMul,Int.reduceNeg,Int.reduceNe,reduceCtorEq,Int.reduceToNat,↓reduceIte, hset ho]
      refine PCalls.use (p_wmay ⟨#[]⟩ (by decide)) ?_; simp only [wk,if_true,if_false,forall_const,implies_true,ne_eq,eq_self,Nat.reduceEqDiff,Nat.reduceAdd,Nat.reduceMul,Nat.reduceSub,Nat.reduceLeDiff,Nat.reduceLT,Int.reduceEq,Int.reduceLT,Int.reduceLE,Int.reduceAdd,Int.reduceSub,Int.reduceMul,Int.reduceNeg,Int.reduceNe,reduceCtorEq,Int.reduceToNat,↓reduceIte]
      rw [wordMay_empty]
      simp only [wk,if_true,if_false,forall_const,implies_true,ne_eq,eq_self,Nat.reduceEqDiff,Nat.reduceAdd,Nat.reduceMul,Nat.reduceSub,Nat.reduceLeDiff,Nat.reduceLT,Int.reduceEq,Int.reduceLT,Int.reduceLE,Int.reduceAdd,Int.reduceSub,Int.reduceMul,Int.reduceNeg,Int.reduceNe,reduceCtorEq,Int.reduceToNat,↓reduceIte]
      refine ACalls.use (a_fail (bad := true) (hset ho _)) ?_; rintro _ _ ⟨rfl, rfl⟩; simp only [wk,if_true,if_false,forall_const,implies_true,ne_eq,eq_self,Nat.reduceEqDiff,Nat.reduceAdd,Nat.reduceMul,Nat.reduceSub,Nat.reduceLeDiff,Nat.reduceLT,Int.reduceEq,Int.reduceLT,Int.reduceLE,Int.reduceAdd,Int.reduceSub,Int.reduceMul,Int.reduceNeg,Int.reduceNe,reduceCtorEq,Int.reduceToNat,↓reduceIte, hset ho]
      (try first | exact ⟨rfl, rfl⟩ | rfl | trivial)
    | some y =>
      obtain ⟨w, q2⟩ := y
      have hle2 := rTake_le hr2
      refine ⟨q2, hle2.2.1, hgo _ ?_⟩
      have hrw : rWord S p = if wordMay w then some (w, q2) else none := by rw [rWord_eq, hr]; simp only [hr2]
      rw [hrw]
      simp only [F_pack_In_Word, wk,if_true,if_false,forall_const,implies_true,ne_eq,eq_self,Nat.reduceEqDiff,Nat.reduceAdd,Nat.reduceMul,Nat.reduceSub,Nat.reduceLeDiff,Nat.reduceLT,Int.reduceEq,Int.reduceLT,Int.reduceLE,Int.reduceAdd,Int.reduceSub,Int.reduceMul,Int.reduceNeg,Int.reduceNe,reduceCtorEq,Int.reduceToNat,↓reduceIte]
      have hc := a_count (s := (false, p)) 8 ho hs hp
      simp only [Bool.false_eq_true, if_false, hr, vI, stO] at hc
      refine ACalls.use (hc) ?_; rintro _ _ ⟨rfl, rfl⟩; simp only [wk,if_true,if_false,forall_const,implies_true,ne_eq,eq_self,Nat.reduceEqDiff,Nat.reduceAdd,Nat.reduceMul,Nat.reduceSub,Nat.reduceLeDiff,Nat.reduceLT,Int.reduceEq,Int.reduceLT,Int.reduceLE,Int.reduceAdd,Int.reduceSub,Int.reduceMul,Int.reduceNeg,Int.reduceNe,reduceCtorEq,Int.reduceToNat,↓reduceIte, hset ho]
      refine ⟨inR_of (by omega) (by omega), ?_⟩
      have ht := a_take' (s := (false, q)) (2 * n) (hset ho (iObj S (false, q))) hs hle.2.1 (by omega)
      simp only [Bool.false_eq_true, if_false, hr2, vS, stO] at ht
      rw [show ((2 : Int) * (n : Int)) = ((2 * n : Nat) : Int) by omega]
      refine ACalls.use (ht) ?_; rintro _ _ ⟨rfl, rfl⟩; simp only [wk,if_true,if_false,forall_const,implies_true,ne_eq,eq_self,Nat.reduceEqDiff,Nat.reduceAdd,Nat.reduceMul,Nat.reduceSub,Nat.reduceLeDiff,Nat.reduceLT,Int.reduceEq,Int.reduceLT,Int.reduceLE,Int.reduceAdd,Int.reduceSub,Int.reduceMul,Int.reduceNeg,Int.reduceNe,reduceCtorEq,Int.reduceToNat,↓reduceIte, hset ho]
      refine PCalls.use (p_wmay w (by rw [hle2.2.2]; simp; omega)) ?_; simp only [wk,if_true,if_false,forall_const,implies_true,ne_eq,eq_self,Nat.reduceEqDiff,Nat.reduceAdd,Nat.reduceMul,Nat.reduceSub,Nat.reduceLeDiff,Nat.reduceLT,Int.reduceEq,Int.reduceLT,Int.reduceLE,Int.reduceAdd,Int.reduceSub,Int.reduceMul,Int.reduceNeg,Int.reduceNe,reduceCtorEq,Int.reduceToNat,↓reduceIte]
      refine ⟨fun hw => ?_, fun hw => ?_⟩
      · refine ACalls.use (a_fail (bad := false) (hset ho _)) ?_; rintro _ _ ⟨rfl, rfl⟩; simp only [wk,if_true,if_false,forall_const,implies_true,ne_eq,eq_self,Nat.reduceEqDiff,Nat.reduceAdd,Nat.reduceMul,Nat.reduceSub,Nat.reduceLeDiff,Nat.reduceLT,Int.reduceEq,Int.reduceLT,Int.reduceLE,Int.reduceAdd,Int.reduceSub,Int.reduceMul,Int.reduceNeg,Int.reduceNe,reduceCtorEq,Int.reduceToNat,↓reduceIte, hset ho]
        rw [hw]; (try first | exact ⟨rfl, rfl⟩ | rfl | trivial)
      · rw [hw]; (try first | exact ⟨rfl, rfl⟩ | rfl | trivial)
/-- words, one behind the other -/
def rWords (S : ByteArray) (p : Nat) : Nat → Option (List ByteArray × Nat)
  | 0 => some ([], p)
  | k + 1 => match rWords S p k with
    | some (l, q) => (match rWord S q with
      | some (w, q') => some (l ++ [w], q')
      | none => none)
    | none => none
def rSet (S : ByteArray) (p : Nat) : Option (List ByteArray × Nat) :=
  if S.size < p + 1 then none else
  match rWords S (p + 1) (byteAt S p) with
  | some (l, q) => if setMay l then some (l, q) else none
  | none => none
theorem rWord_le {S w : ByteArray} {p q : Nat} (h : rWord S p = some (w, q)) : p < q ∧ q ≤ S.size ∧ wordMay w = true ∧ w = S.extract (p + 1) q ∧ q = p + 1 + 2 * byteAt S p := by
  unfold rWord at h
  split at h
  · cases h
  · split at h
    · cases h
    · split at h
      · next hw =>
        simp only [Option.some.injEq, Prod.mk.injEq] at h
        obtain ⟨rfl, rfl⟩ := h
        exact ⟨by omega, by omega, hw, rfl, rfl⟩
      · cases h
theorem rWords_le {S : ByteArray} {p : Nat} (hp : p ≤ S.size) : ∀ {k : Nat} {l : List ByteArray} {q : Nat}, rWords S p k = some (l, q) → l.length = k ∧ p ≤ q ∧ q ≤ S.size ∧ ∀ w ∈ l, wordMay w = true
  | 0, l, q, h => by
    simp only [rWords, Option.some.injEq, Prod.mk.injEq] at h
    obtain ⟨rfl, rfl⟩ := h
    exact ⟨rfl, Nat.le_refl _, hp, fun w hw => by simp at hw⟩
  | k + 1, l, q, h => by
    simp only [rWords] at h
    split at h
    · next l' q' hr =>
      have ih := rWords_le hp hr
      split at h
      · next w q2 hr2 =>
        simp only [Option.some.injEq, Prod.mk.injEq] at h
        obtain ⟨rfl, rfl⟩ := h
        have h2 := rWord_le hr2
        refine ⟨by simp; omega, by omega, h2.2.1, fun x hx => ?_⟩
        simp only [List.mem_append, List.mem_singleton] at hx
        rcases hx with hx | rfl
        · exact ih.2.2.2 x hx
        · exact h2.2.2.1
      · cases h
    · cases h
def vL : Option (List ByteArray × Nat) → AV
  | some (l, _) => .lst .ro l.length (l.map .str)
  | none => .lst .clip 0 []
/-- a set, as pack reads it -/
theorem rSet_eq (S : ByteArray) (p : Nat) (hp : p ≤ S.size) : rSet S p = match rCount S 16 p with
    | some (n, q) => (match rWords S q n with
      | some (l, q') => if setMay l then some (l, q') else none
      | none => none)
    | none => none := by
  unfold rSet rCount
  by_cases h1 : S.size < p + 1
  · rw [if_pos h1, if_pos h1]
  · rw [if_neg h1, if_neg h1]
    by_cases h2 : 1 ≤ byteAt S p ∧ byteAt S p ≤ 16
    · rw [if_pos h2]
    · rw [if_neg h2]
      cases hr : rWords S (p + 1) (byteAt S p) with
      | none => rfl
      | some x =>
        obtain ⟨l, q⟩ := x
        have := rWords_le (by omega) hr
        simp only
        rw [if_neg]
        intro hm
        have := (setMay_words hm).1
        omega
theorem vS_str (r : Option (ByteArray × Nat)) : ∃ w, vS r = .str w ∧ (∀ x q, r = some (x, q) → x = w) := by
  cases r with
  | none => exact ⟨_, rfl, fun _ _ h => by cases h⟩
  | some x => exact ⟨_, rfl, fun _ _ h => by cases h; rfl⟩
set_option maxRecDepth 100000 in
set_option maxHeartbeats 2000000 in
theorem a_iset {h : Hp} {id : Nat} {S : ByteArray} {s : Bool × Nat} (ho : h[id]? = some (iObj S s)) (hs : S.size ≤ 1000000000000) (hp : s.2 ≤ S.size) :
    ACalls Try.prog 56 [.ptr id 0] h (fun a h' => a = vL (if s.1 then none else rSet S s.2) ∧ ∃ q, q ≤ S.size ∧ h' = h.set id (iObj S (stO (if s.1 then none else rSet S s.2) q))) := by
  obtain ⟨bad, p⟩ := s
  simp only at hp ⊢
  have hq1 := qCount_le (S := S) (bad := bad) hp
  refine acalls_of mixed F_pack_In_Set_ok (Nat.le_of_ble_eq_true rfl) ?_; simp only [F_pack_In_Set, wk,if_true,if_false,forall_const,implies_true,ne_eq,eq_self,Nat.reduceEqDiff,Nat.reduceAdd,Nat.reduceMul,Nat.reduceSub,Nat.reduceLeDiff,Nat.reduceLT,Int.reduceEq,Int.reduceLT,Int.reduceLE,Int.reduceAdd,Int.reduceSub,Int.reduceMul,Int.reduceNeg,Int.reduceNe,reduceCtorEq,Int.reduceToNat,↓reduceIte]
  have hc := a_count (s := (bad, p)) 16 ho hs hp
  cases hr : (if bad = true then none else rCount S 16 p) with
  | none =>
    have hrw : (if bad = true then none else rSet S p) = none := by
      cases bad with
      | true => rfl
      | false =>
        simp only [Bool.false_eq_true, if_false] at hr ⊢
        rw [rSet_eq S p hp, hr]
    rw [hrw]
    simp only [hr, vI, stO] at hc
    refine ACalls.use (hc) ?_; rintro _ _ ⟨rfl, rfl⟩; simp only [wk,if_true,if_false,forall_const,implies_true,ne_eq,eq_self,Nat.reduceEqDiff,Nat.reduceAdd,Nat.reduceMul,Nat.reduceSub,Nat.reduceLeDiff,Nat.reduceLT,Int.reduceEq,Int.reduceLT,Int.reduceLE,Int.reduceAdd,Int.reduceSub,Int.reduceMul,Int.reduceNeg,Int.reduceNe,reduceCtorEq,Int.reduceToNat,↓reduceIte, hset ho]
    (repeat (refine And.intro (by first | omega | exact inR_of (by omega) (by omega) | exact ⟨by omega, by omega⟩ | exact ⟨by omega, by omega, by omega⟩ | rfl) ?_))
    refine W_loop (fun k fr h' => k = 0 ∧ fr = [(0, .ptr id 0), (4, .lst (.own 31) 0 []), (9, .int .i64 0), (10, .int .i64 0)] ∧ h' = h.set id (iObj S (true, qCount S bad p))) 0 ⟨rfl, rfl, rfl⟩ ?_
    rintro k fr h' ⟨rfl, rfl, rfl⟩
    simp only [wk,if_true,if_false,forall_const,implies_true,ne_eq,eq_self,Nat.reduceEqDiff,Nat.reduceAdd,Nat.reduceMul,Nat.reduceSub,Nat.reduceLeDiff,Nat.reduceLT,Int.reduceEq,Int.reduceLT,Int.reduceLE,Int.reduceAdd,Int.reduceSub,Int.reduceMul,Int.reduceNeg,Int.reduceNe,reduceCtorEq,Int.reduceToNat,↓reduceIte]
    refine ACalls.use (a_well (bad := true) (hset ho _)) ?_; rintro _ _ ⟨rfl, rfl⟩; simp only [wk,if_true,if_false,forall_const,implies_true,ne_eq,eq_self,Nat.reduceEqDiff,Nat.reduceAdd,Nat.reduceMul,Nat.reduceSub,Nat.reduceLeDiff,Nat.reduceLT,Int.reduceEq,Int.reduceLT,Int.reduceLE,Int.reduceAdd,Int.reduceSub,Int.reduceMul,Int.reduceNeg,Int.reduceNe,reduceCtorEq,Int.reduceToNat,↓reduceIte, hset ho]
    refine ACalls.use (a_fail (bad := true) (hset ho _)) ?_; rintro _ _ ⟨rfl, rfl⟩; simp only [wk,if_true,if_false,forall_const,implies_true,ne_eq,eq_self,Nat.reduceEqDiff,Nat.reduceAdd,Nat.reduceMul,Nat.reduceSub,Nat.reduceLeDiff,Nat.reduceLT,Int.reduceEq,Int.reduceLT,Int.reduceLE,Int.reduceAdd,Int.reduceSub,Int.reduceMul,Int.reduceNeg,Int.reduceNe,reduceCtorEq,Int.reduceToNat,↓reduceIte, hset ho]
    exact ⟨rfl, _, hq1, rfl⟩
  | some x =>
    obtain ⟨n, q⟩ := x
    have hb : bad = false := by cases bad with
      | true => simp at hr
      | false => rfl
    subst hb
    simp only [Bool.false_eq_true, if_false] at hr hc ⊢
    have hle := rCount_le hr
    have hrw := rSet_eq S p hp
    rw [hr] at hrw
    simp only at hrw
    rw [hrw]
    simp only [hr, vI, stO] at hc
    refine ACalls.use (hc) ?_; rintro _ _ ⟨rfl, rfl⟩; simp only [wk,if_true,if_false,forall_const,implies_true,ne_eq,eq_self,Nat.reduceEqDiff,Nat.reduceAdd,Nat.reduceMul,Nat.reduceSub,Nat.reduceLeDiff,Nat.reduceLT,Int.reduceEq,Int.reduceLT,Int.reduceLE,Int.reduceAdd,Int.reduceSub,Int.reduceMul,Int.reduceNeg,Int.reduceNe,reduceCtorEq,Int.reduceToNat,↓reduceIte, hset ho]
    refine ⟨⟨by omega, by omega, by omega⟩, ?_⟩
    refine W_loop (fun k fr h' => ∃ (i : Nat) (ws : List ByteArray) (q' : Nat), i ≤ n ∧ k = n - i ∧ ws.length = i ∧ q' ≤ S.size ∧ fr = [(0, .ptr id 0), (4, .lst (.own 31) i (ws.map .str)), (9, .int .i64 n), (10, .int .i64 i)] ∧ h' = h.set id (iObj S (stO (rWords S q i) q')) ∧ ∀ l q'', rWords S q i = some (l, q'') → ws = l) n ⟨0, [], q, by omega, by omega, rfl, hle.2.1, rfl, rfl, fun l q'' h => by simp only [rWords, Option.some.injEq, Prod.mk.injEq] at h; exact h.1⟩ ?_
    rintro k fr h' ⟨i, ws, q', hi, rfl, hwl, hq', rfl, rfl, hws⟩
    have hst : (stO (rWords S q i) q').2 ≤ S.size := by
      cases hw : rWords S q i with
      | none => exact hq'
      | some x => exact (rWords_le hle.2.1 hw).2.2.1
    simp only [wk,if_true,if_false,forall_const,implies_true,ne_eq,eq_self,Nat.reduceEqDiff,Nat.reduceAdd,Nat.reduceMul,Nat.reduceSub,Nat.reduceLeDiff,Nat.reduceLT,Int.reduceEq,Int.reduceLT,Int.reduceLE,Int.reduceAdd,Int.reduceSub,Int.reduceMul,Int.reduceNeg,Int.reduceNe,reduceCtorEq,Int.reduceToNat,↓reduceIte]
    refine ⟨fun hlt => ?_, fun hge => ?_⟩
    · obtain ⟨q2, hq2, hword⟩ := a_iword (s := stO (rWords S q i) q') (hset ho (iObj S (stO (rWords S q i) q'))) hs hst
      have hstep : stO (if (stO (rWords S q i) q').1 = true then none else rWord S (stO (rWords S q i) q').2) q2 = stO (rWords S q (i + 1)) q2 := by
        cases hw : rWords S q i with
        | none => simp only [rWords, hw, stO, if_true]
        | some x =>
          obtain ⟨l, q3⟩ := x
          simp only [rWords, hw, stO, Bool.false_eq_true, if_false]
          cases rWord S q3 <;> rfl
      obtain ⟨w, hwv, hwx⟩ := vS_str (if (stO (rWords S q i) q').1 = true then none else rWord S (stO (rWords S q i) q').2)
      have hval : ∀ l q'', rWords S q (i + 1) = some (l, q'') → ws ++ [w] = l := by
        intro l q'' he
        cases hw : rWords S q i with
        | none => simp only [rWords, hw] at he; cases he
        | some x =>
          obtain ⟨l', q3⟩ := x
          simp only [rWords, hw] at he
          simp only [hw, stO, Bool.false_eq_true, if_false] at hwx
          cases hw2 : rWord S q3 with
          | none => rw [hw2] at he; cases he
          | some y =>
            obtain ⟨w', q4⟩ := y
            rw [hw2] at he
            simp only [Option.some.injEq, Prod.mk.injEq] at he
            rw [hws l' q3 hw, ← hwx w' q4 hw2, he.1]
      rw [hwv, hstep] at hword
      refine ACalls.use (hword) ?_; rintro _ _ ⟨rfl, rfl⟩; simp only [wk,if_true,if_false,forall_const,implies_true,ne_eq,eq_self,Nat.reduceEqDiff,Nat.reduceAdd,Nat.reduceMul,Nat.reduceSub,Nat.reduceLeDiff,Nat.reduceLT,Int.reduceEq,Int.reduceLT,Int.reduceLE,Int.reduceAdd,Int.reduceSub,Int.reduceMul,Int.reduceNeg,Int.reduceNe,reduceCtorEq,Int.reduceToNat,↓reduceIte]
      (repeat (refine And.intro (by first | omega | exact inR_of (by omega) (by omega) | exact ⟨by omega, by omega⟩ | exact ⟨by omega, by omega, by omega⟩ | rfl) ?_))
      exact ⟨n - (i + 1), by omega, i + 1, ws ++ [w], q2, by omega, rfl, by simp [hwl], hq2, by simp, rfl, hval⟩
    · have hin : i = n := by omega
      subst hin
      cases hw : rWords S q i with
      | none =>
        simp only [stO, wk,if_true,if_false,forall_const,implies_true,ne_eq,eq_self,Nat.reduceEqDiff,Nat.reduceAdd,Nat.reduceMul,Nat.reduceSub,Nat.reduceLeDiff,Nat.reduceLT,Int.reduceEq,Int.reduceLT,Int.reduceLE,Int.reduceAdd,Int.reduceSub,Int.reduceMul,Int.reduceNeg,Int.reduceNe,reduceCtorEq,Int.reduceToNat,↓reduceIte]
        refine ACalls.use (a_well (bad := true) (hset ho _)) ?_; rintro _ _ ⟨rfl, rfl⟩; simp only [wk,if_true,if_false,forall_const,implies_true,ne_eq,eq_self,Nat.reduceEqDiff,Nat.reduceAdd,Nat.reduceMul,Nat.reduceSub,Nat.reduceLeDiff,Nat.reduceLT,Int.reduceEq,Int.reduceLT,Int.reduceLE,Int.reduceAdd,Int.reduceSub,Int.reduceMul,Int.reduceNeg,Int.reduceNe,reduceCtorEq,Int.reduceToNat,↓reduceIte, hset ho]
        refine ACalls.use (a_fail (bad := true) (hset ho _)) ?_; rintro _ _ ⟨rfl, rfl⟩; simp only [wk,if_true,if_false,forall_const,implies_true,ne_eq,eq_self,Nat.reduceEqDiff,Nat.reduceAdd,Nat.reduceMul,Nat.reduceSub,Nat.reduceLeDiff,Nat.reduceLT,Int.reduceEq,Int.reduceLT,Int.reduceLE,Int.reduceAdd,Int.reduceSub,Int.reduceMul,Int.reduceNeg,Int.reduceNe,reduceCtorEq,Int.reduceToNat,↓reduceIte, hset ho]
        exact ⟨rfl, _, hq', rfl⟩
      | some x =>
        obtain ⟨l, q3⟩ := x
        have hl := hws l q3 hw
        subst hl
        have hwl' := rWords_le hle.2.1 hw
        simp only [stO, wk,if_true,if_false,forall_const,implies_true,ne_eq,eq_self,Nat.reduceEqDiff,Nat.reduceAdd,Nat.reduceMul,Nat.reduceSub,Nat.reduceLeDiff,Nat.reduceLT,Int.reduceEq,Int.reduceLT,Int.reduceLE,Int.reduceAdd,Int.reduceSub,Int.reduceMul,Int.reduceNeg,Int.reduceNe,reduceCtorEq,Int.reduceToNat,↓reduceIte]
        refine ACalls.use (a_well (bad := false) (hset ho _)) ?_; rintro _ _ ⟨rfl, rfl⟩; simp only [wk,if_true,if_false,forall_const,implies_true,ne_eq,eq_self,Nat.reduceEqDiff,Nat.reduceAdd,Nat.reduceMul,Nat.reduceSub,Nat.reduceLeDiff,Nat.reduceLT,Int.reduceEq,Int.reduceLT,Int.reduceLE,Int.reduceAdd,Int.reduceSub,Int.reduceMul,Int.reduceNeg,Int.reduceNe,reduceCtorEq,Int.reduceToNat,↓reduceIte, hset ho]
        rw [← hwl]
        refine PCalls.use (p_smay ws (by omega) (fun x hx => by have := wordMay_size (hwl'.2.2.2 x hx); omega)) ?_; simp only [wk,if_true,if_false,forall_const,implies_true,ne_eq,eq_self,Nat.reduceEqDiff,Nat.reduceAdd,Nat.reduceMul,Nat.reduceSub,Nat.reduceLeDiff,Nat.reduceLT,Int.reduceEq,Int.reduceLT,Int.reduceLE,Int.reduceAdd,Int.reduceSub,Int.reduceMul,Int.reduceNeg,Int.reduceNe,reduceCtorEq,Int.reduceToNat,↓reduceIte]
        refine ⟨fun hm => ?_, fun hm => ?_⟩
        · refine ACalls.use (a_fail (bad := false) (hset ho _)) ?_; rintro _ _ ⟨rfl, rfl⟩; simp only [wk,if_true,if_false,forall_const,implies_true,ne_eq,eq_self,Nat.reduceEqDiff,Nat.reduceAdd,Nat.reduceMul,Nat.reduceSub,Nat.reduceLeDiff,Nat.reduceLT,Int.reduceEq,Int.reduceLT,Int.reduceLE,Int.reduceAdd,Int.reduceSub,Int.reduceMul,Int.reduceNeg,Int.reduceNe,reduceCtorEq,Int.reduceToNat,↓reduceIte, hset ho]
          rw [hm]; exact ⟨rfl, _, hwl'.2.2.1, rfl⟩
        · rw [hm]; exact ⟨rfl, q3, hwl'.2.2.1, rfl⟩
end Go.Proofs.Ytpjlkefadnbgdaa

/- The plain law of reading: what is read was written so. -/
namespace Go.Proofs.Ytpjlkefadnbgdaa
set_option linter.unusedSimpArgs false
set_option linter.unusedVariables false
open Go.RowKit Go.Lib

/-- what was read up to a place -/
def upTo (S : ByteArray) (p : Nat) : List UInt8 := S.data.toList.take p
theorem upTo_add (S : ByteArray) (p m : Nat) : upTo S (p + m) = upTo S p ++ (S.data.toList.drop p).take m := by
  unfold upTo; rw [List.take_add]
theorem upTo_size (S : ByteArray) : upTo S S.size = S.data.toList := by unfold upTo; rw [List.take_of_length_le (by simp)]
theorem ext_list (S : ByteArray) (p m : Nat) : (S.extract p (p + m)).data.toList = (S.data.toList.drop p).take m := by
  simp [List.extract_eq_take_drop]
theorem upTo_num {S : ByteArray} {most : Int} {p n q : Nat} (h : rNum S most p = some (n, q)) : upTo S q = upTo S p ++ num n := by
  unfold rNum at h
  split at h
  · next n' m hr =>
    split at h
    · simp only [Option.some.injEq, Prod.mk.injEq] at h
      obtain ⟨rfl, rfl⟩ := h
      rw [upTo_add, rdNum_back hr]
    · cases h
  · cases h
theorem upTo_take {S w : ByteArray} {n p q : Nat} (h : rTake S n p = some (w, q)) : upTo S q = upTo S p ++ w.data.toList ∧ w.size = n := by
  obtain ⟨rfl, h2, rfl⟩ := rTake_le h
  rw [upTo_add, ext_list]
  exact ⟨rfl, by simp; omega⟩
theorem upTo_text {S w : ByteArray} {most : Int} {p q : Nat} (h : rText S most p = some (w, q)) : upTo S q = upTo S p ++ (num w.size ++ w.data.toList) := by
  unfold rText at h
  split at h
  · next n q1 hr =>
    obtain ⟨h1, h2⟩ := upTo_take h
    rw [h1, upTo_num hr, h2, List.append_assoc]
  · cases h
theorem upTo_word {S w : ByteArray} {p q : Nat} (h : rWord S p = some (w, q)) : upTo S q = upTo S p ++ wordBytes w := by
  obtain ⟨h1, h2, h3, h4, h5⟩ := rWord_le h
  have hlt : p < S.data.toList.length := by simp; omega
  have hw : w.size = 2 * byteAt S p := by rw [h4]; simp; omega
  have hb := byteAt_lt S p
  have e : byteAt S p = S.data.toList[p].toNat := by
    unfold byteAt
    rw [List.getElem?_eq_getElem hlt]; rfl
  rw [show q = p + (1 + 2 * byteAt S p) by omega, upTo_add, List.drop_eq_getElem_cons hlt, Nat.add_comm 1, List.take_succ_cons, wordBytes]
  congr 2
  · rw [hw, show 2 * byteAt S p / 2 = byteAt S p by omega, e]; simp
  · rw [h4, show q = p + 1 + 2 * byteAt S p by omega, ext_list]
theorem upTo_words {S : ByteArray} {p : Nat} : ∀ {k : Nat} {l : List ByteArray} {q : Nat}, rWords S p k = some (l, q) → upTo S q = upTo S p ++ l.flatMap wordBytes
  | 0, l, q, h => by
    simp only [rWords, Option.some.injEq, Prod.mk.injEq] at h
    obtain ⟨rfl, rfl⟩ := h
    simp
  | k + 1, l, q, h => by
    simp only [rWords] at h
    split at h
    · next l' q' hr =>
      split at h
      · next w q2 hr2 =>
        simp only [Option.some.injEq, Prod.mk.injEq] at h
        obtain ⟨rfl, rfl⟩ := h
        rw [upTo_word hr2, upTo_words hr]
        simp
      · cases h
    · cases h
theorem upTo_set {S : ByteArray} {l : List ByteArray} {p q : Nat} (h : rSet S p = some (l, q)) : upTo S q = upTo S p ++ setBytes l ∧ setMay l = true ∧ p < q ∧ q ≤ S.size := by
  unfold rSet at h
  split at h
  · cases h
  · next hlt =>
    split at h
    · next l' q' hr =>
      split at h
      · next hm =>
        simp only [Option.some.injEq, Prod.mk.injEq] at h
        obtain ⟨rfl, rfl⟩ := h
        have hl := rWords_le (by omega) hr
        have hp : p < S.data.toList.length := by simp; omega
        refine ⟨?_, hm, by omega, hl.2.2.1⟩
        have e : byteAt S p = S.data.toList[p].toNat := by
          unfold byteAt
          rw [List.getElem?_eq_getElem hp]; rfl
        rw [upTo_words hr, upTo_add, List.drop_eq_getElem_cons hp, setBytes, hl.1, e]
        simp
      · cases h
    · cases h
theorem rText_le {S w : ByteArray} {most : Int} {p q : Nat} (h : rText S most p = some (w, q)) (hp : p ≤ S.size) : p < q ∧ q ≤ S.size ∧ w.size ≤ S.size := by
  unfold rText at h
  split at h
  · next n q1 hr =>
    have h1 := rNum_le hr hp
    obtain ⟨h2, h3, h4⟩ := rTake_le h
    exact ⟨by omega, h3, by rw [h4]; simp; omega⟩
  · cases h
end Go.Proofs.Ytpjlkefadnbgdaa

/- The plain law of writing: what is written is read. -/
namespace Go.Proofs.Ytpjlkefadnbgdaa
set_option linter.unusedSimpArgs false
set_option linter.unusedVariables false
open Go.RowKit Go.Lib

theorem snocRec {α : Type} {p : List α → Prop} (nil : p []) (append_singleton : ∀ (l : List α) (x : α), p l → p (l ++ [x])) (l : List α) : p l := by
  rw [← List.reverse_reverse l]
  induction l.reverse with
  | nil => exact nil
  | cons x r ih => rw [List.reverse_cons]; exact append_singleton _ _ ih
theorem rNum_at {S : ByteArray} {most : Int} {p n : Nat} {r : List UInt8} (h : S.data.toList.drop p = num n ++ r) (hn : n ≤ 4611686018427387904) (hm : (n : Int) ≤ most) : rNum S most p = some (n, p + (num n).length) := by
  unfold rNum
  rw [h, rdNum_num r hn]
  simp only
  rw [if_pos hm]
theorem drop_more {S : ByteArray} {p : Nat} {a r : List UInt8} (h : S.data.toList.drop p = a ++ r) : S.data.toList.drop (p + a.length) = r := by
  rw [← List.drop_drop, h, List.drop_left]
theorem drop_len {S : ByteArray} {p : Nat} {a r : List UInt8} (h : S.data.toList.drop p = a ++ r) : p + a.length ≤ S.size ∨ a = [] := by
  have := congrArg List.length h
  simp only [List.length_drop, List.length_append, ba_len] at this
  by_cases ha : a = []
  · exact .inr ha
  · have : 0 < a.length := List.length_pos_iff.2 ha
    exact .inl (by omega)
theorem rTake_at {S w : ByteArray} {p : Nat} {r : List UInt8} (h : S.data.toList.drop p = w.data.toList ++ r) (hp : p ≤ S.size) : rTake S w.size p = some (w, p + w.size) := by
  have hl := congrArg List.length h
  simp only [List.length_drop, List.length_append, ba_len] at hl
  unfold rTake
  rw [if_neg (by omega)]
  congr 2
  apply WideShapes.bytes_inj
  rw [ext_list, h, ← ba_len w, List.take_left]
theorem rText_at {S w : ByteArray} {p : Nat} {r : List UInt8} (h : S.data.toList.drop p = (num w.size ++ w.data.toList) ++ r) (hp : p ≤ S.size) (hw : w.size ≤ 4611686018427387904) : rText S w.size p = some (w, p + (num w.size ++ w.data.toList).length) := by
  unfold rText
  rw [List.append_assoc] at h
  rw [rNum_at h hw (by omega)]
  have h1 := drop_more h
  have hq : p + (num w.size).length ≤ S.size := by
    rcases drop_len h with h2 | h2
    · exact h2
    · rw [h2]; exact hp
  simp only
  rw [rTake_at h1 hq, List.length_append, ba_len, Nat.add_assoc]
theorem rWord_at {S w : ByteArray} {p : Nat} {r : List UInt8} (h : S.data.toList.drop p = wordBytes w ++ r) (hw : wordMay w = true) : rWord S p = some (w, p + (wordBytes w).length) := by
  have hs := wordMay_size hw
  have hl := congrArg List.length h
  have hwl : (wordBytes w).length = 1 + w.size := by rw [wordBytes, List.length_cons, ba_len]; omega
  simp only [List.length_drop, List.length_append, ba_len, hwl] at hl
  have hp : p < S.data.toList.length := by rw [ba_len]; omega
  have hb : byteAt S p = w.size / 2 := by
    unfold byteAt
    rw [← List.head?_drop, h]
    simp [wordBytes]; omega
  have h1 : S.data.toList.drop (p + 1) = w.data.toList ++ r := by
    rw [← List.drop_drop, h, wordBytes]; rfl
  unfold rWord
  rw [if_neg (by omega), hb, show 2 * (w.size / 2) = w.size by omega, if_neg (by omega)]
  have e : S.extract (p + 1) (p + 1 + w.size) = w := by
    apply WideShapes.bytes_inj
    rw [ext_list, h1, ← ba_len w, List.take_left]
  rw [e, hw, if_pos rfl, hwl]
  congr 2; omega
theorem rWords_at {S : ByteArray} : ∀ (l : List ByteArray) {p : Nat} {r : List UInt8}, S.data.toList.drop p = l.flatMap wordBytes ++ r → (∀ w ∈ l, wordMay w = true) → rWords S p l.length = some (l, p + (l.flatMap wordBytes).length) := by
  intro l
  induction l using snocRec with
  | nil => intro p r _ _; rfl
  | append_singleton l w ih =>
    intro p r h hw
    rw [List.flatMap_append, List.append_assoc] at h
    have h1 := drop_more h
    rw [List.length_append]
    simp only [List.length_cons, List.length_nil, Nat.zero_add, rWords]
    rw [ih h (fun x hx => hw x (by simp [hx]))]
    simp only [List.flatMap_cons, List.flatMap_nil, List.append_nil] at h1
    simp only
    rw [rWord_at h1 (hw w (by simp))]
    simp [Nat.add_assoc]
theorem rSet_at {S : ByteArray} {l : List ByteArray} {p : Nat} {r : List UInt8} (h : S.data.toList.drop p = setBytes l ++ r) (hm : setMay l = true) : rSet S p = some (l, p + (setBytes l).length) := by
  have hs := setMay_words hm
  have hl := congrArg List.length h
  have hwl : (setBytes l).length = 1 + (l.flatMap wordBytes).length := by rw [setBytes, List.length_cons]; omega
  simp only [List.length_drop, List.length_append, ba_len, hwl] at hl
  have hb : byteAt S p = l.length := by
    unfold byteAt
    rw [← List.head?_drop, h]
    simp [setBytes]; omega
  have h1 : S.data.toList.drop (p + 1) = l.flatMap wordBytes ++ r := by
    rw [← List.drop_drop, h, setBytes]; rfl
  unfold rSet
  rw [if_neg (by omega), hb, rWords_at l h1 hs.2]
  simp only
  rw [hm, if_pos rfl, hwl]
  congr 2; omega

end Go.Proofs.Ytpjlkefadnbgdaa

/- The abstract layer: full slices as ones that are only read, however deep; results that are objects as ones that stay. -/
namespace Go.Proofs.Ytpjlkefadnbgdaa
set_option linter.unusedSimpArgs false
set_option linter.unusedVariables false
open Go.RowKit Go.Lib

mutual
def rdp : AV → AV
  | .lst .clip n l => .lst .ro n (rdps l)
  | .lst f n l => .lst f n (rdps l)
  | .agg l => .agg (rdps l)
  | .tup l => .tup (rdps l)
  | .fp l => .fp (rdps l)
  | .fn f l => .fn f (rdps l)
  | .fnb f l => .fnb f (rdps l)
  | a => a
def rdps : List AV → List AV
  | [] => []
  | a :: l => rdp a :: rdps l
end
theorem plain_rdp (a : AV) (h : plain a = true) : plain (rdp a) = true := by
  cases a with
  | lst f n l => cases f <;> first | (simp [plain] at h; done) | simp [rdp, plain]
  | itr s p => simp [plain] at h
  | stk e o l => simp [plain] at h
  | _ => simp [rdp, plain]
theorem plains_rdp : ∀ {l : List AV}, plains l → plains (rdps l)
  | [], _ => by intro a ha; simp [rdps] at ha
  | a :: l, h => by
    intro b hb
    simp only [rdps, List.mem_cons] at hb
    rcases hb with rfl | hb
    · exact plain_rdp a (h a (by simp))
    · exact plains_rdp (fun x hx => h x (by simp [hx])) b hb
mutual
theorem Rep.rdp {g : Gh} : ∀ {v : Value} {a : AV}, Rep g v a → Rep g v (rdp a)
  | _, _, .bool b => by simp only [Go.Proofs.Ytpjlkefadnbgdaa.rdp]; exact .bool b
  | _, _, .int k n => by simp only [Go.Proofs.Ytpjlkefadnbgdaa.rdp]; exact .int k n
  | _, _, .str s => by simp only [Go.Proofs.Ytpjlkefadnbgdaa.rdp]; exact .str s
  | _, _, .nilp => by simp only [Go.Proofs.Ytpjlkefadnbgdaa.rdp]; exact .nilp
  | _, _, .ptr id off b h => by simp only [Go.Proofs.Ytpjlkefadnbgdaa.rdp]; exact .ptr id off b h
  | _, _, .fp b off vs l h hp hl => by simp only [Go.Proofs.Ytpjlkefadnbgdaa.rdp]; exact .fp b off vs _ h (plains_rdp hp) (RepL.rdp hl)
  | _, _, .lst b off n c .clip vs l h hp h1 h2 hl => by simp only [Go.Proofs.Ytpjlkefadnbgdaa.rdp]; exact .lst b off n c .ro vs _ h (plains_rdp hp) h1 (fun e => by cases e) (RepL.rdp hl)
  | _, _, .lst b off n c .ro vs l h hp h1 h2 hl => by simp only [Go.Proofs.Ytpjlkefadnbgdaa.rdp]; exact .lst b off n c .ro vs _ h (plains_rdp hp) h1 (fun e => by cases e) (RepL.rdp hl)
  | _, _, .lst b off n c (.own e) vs l h hp h1 h2 hl => by simp only [Go.Proofs.Ytpjlkefadnbgdaa.rdp]; exact .lst b off n c (.own e) vs _ h (plains_rdp hp) h1 (fun e => by cases e) (RepL.rdp hl)
  | _, _, .lst0 a c .clip h => by simp only [Go.Proofs.Ytpjlkefadnbgdaa.rdp, rdps]; exact .lst0 a c .ro (fun e => by cases e)
  | _, _, .lst0 a c .ro h => by simp only [Go.Proofs.Ytpjlkefadnbgdaa.rdp, rdps]; exact .lst0 a c .ro (fun e => by cases e)
  | _, _, .lst0 a c (.own e) h => by simp only [Go.Proofs.Ytpjlkefadnbgdaa.rdp, rdps]; exact .lst0 a c (.own e) (fun e => by cases e)
  | _, _, .hs id b n c h h1 => by simp only [Go.Proofs.Ytpjlkefadnbgdaa.rdp]; exact .hs id b n c h h1
  | _, _, .agg vs l h hp hl => by simp only [Go.Proofs.Ytpjlkefadnbgdaa.rdp]; exact .agg vs _ h (plains_rdp hp) (RepL.rdp hl)
  | _, _, .tup vs l hp hl => by simp only [Go.Proofs.Ytpjlkefadnbgdaa.rdp]; exact .tup vs _ (plains_rdp hp) (RepL.rdp hl)
  | _, _, .fn f vs l hp hl => by simp only [Go.Proofs.Ytpjlkefadnbgdaa.rdp]; exact .fn f vs _ (plains_rdp hp) (RepL.rdp hl)
  | _, _, .fnb f vs l hp hl => by simp only [Go.Proofs.Ytpjlkefadnbgdaa.rdp]; exact .fnb f vs _ (plains_rdp hp) (RepL.rdp hl)
  | _, _, .nilf => by simp only [Go.Proofs.Ytpjlkefadnbgdaa.rdp]; exact .nilf
  | _, _, .opq v h h' => by simp only [Go.Proofs.Ytpjlkefadnbgdaa.rdp]; exact .opq v h h'
  | _, _, .frn v Q S W0 h h' h3 h4 => by simp only [Go.Proofs.Ytpjlkefadnbgdaa.rdp]; exact .frn v Q S W0 h h' h3 h4
  | _, _, .itr b s p => by simp only [Go.Proofs.Ytpjlkefadnbgdaa.rdp]; exact .itr b s p
  | _, _, .stk a c e o l h1 h2 h3 => by simp only [Go.Proofs.Ytpjlkefadnbgdaa.rdp]; exact .stk a c e o l h1 h2 h3
  | _, _, .raw a m c h1 h2 => by simp only [Go.Proofs.Ytpjlkefadnbgdaa.rdp]; exact .raw a m c h1 h2
  | _, _, .rawp b i m c => by simp only [Go.Proofs.Ytpjlkefadnbgdaa.rdp]; exact .rawp b i m c
theorem RepL.rdp {g : Gh} : ∀ {vs : List Value} {l : List AV}, RepL g vs l → RepL g vs (rdps l)
  | _, _, .nil => by simp only [rdps]; exact .nil
  | _, _, .cons h hl => by simp only [rdps]; exact .cons (Rep.rdp h) (RepL.rdp hl)
end
/-- a result, as one that is only read -/
theorem ACalls.deep {P : Program} {f : FuncId} {args : List AV} {h : Hp} {R : AV → Hp → Prop} (hc : ACalls P f args h (fun a h' => R (rdp a) h')) : ACalls P f args h R :=
  ⟨hc.1, fun g w vargs h1 h2 h3 h4 => (hc.2 g w vargs h1 h2 h3 h4).mono fun _ _ ⟨x, a, h', g', q1, q2, q3, q4, q5, q6, q7⟩ => ⟨x, _, h', g', q1, q2, q3, q4, q5.rdp, plain_rdp _ q6, q7⟩⟩
/-- arguments, as ones that are only read -/
theorem ACalls.argd {P : Program} {f : FuncId} {args : List AV} {h : Hp} {R : AV → Hp → Prop} (hc : ACalls P f (rdps args) h R) : ACalls P f args h R :=
  ⟨hc.1, fun g w vargs h1 h2 h3 h4 => hc.2 g w vargs h1 h2 h3.rdp (plains_rdp h4)⟩
mutual
theorem free_rdp : ∀ a : AV, free (rdp a) = free a
  | .lst .clip n l => by simp only [rdp, free, frees_rdp l]
  | .lst .ro n l => by simp only [rdp, free, frees_rdp l]
  | .lst (.own e) n l => by simp only [rdp, free, frees_rdp l]
  | .agg l => by simp only [rdp, free, frees_rdp l]
  | .tup l => by simp only [rdp, free, frees_rdp l]
  | .fp l => by simp only [rdp, free, frees_rdp l]
  | .fn f l => by simp only [rdp, free, frees_rdp l]
  | .fnb f l => by simp only [rdp, free, frees_rdp l]
  | .bool _ => by simp only [rdp]
  | .int _ _ => by simp only [rdp]
  | .str _ => by simp only [rdp]
  | .nilp => by simp only [rdp]
  | .ptr _ _ => by simp only [rdp]
  | .hs _ _ => by simp only [rdp]
  | .nilf => by simp only [rdp]
  | .opq => by simp only [rdp]
  | .frn _ => by simp only [rdp]
  | .itr _ _ => by simp only [rdp]
  | .stk _ _ _ => by simp only [rdp]
  | .raw _ _ => by simp only [rdp]
  | .rawp _ _ => by simp only [rdp]
theorem frees_rdp : ∀ l : List AV, free.frees (rdps l) = free.frees l
  | [] => rfl
  | a :: l => by simp only [rdps, free.frees, free_rdp a, frees_rdp l]
end
theorem PCalls.argd {P : Program} {f : FuncId} {args : List AV} {v : AV} (hc : PCalls P f (rdps args) v) : PCalls P f args v :=
  ⟨by rw [← frees_rdp]; exact hc.1, hc.2.1, ACalls.argd hc.2.2⟩
theorem rdps_nil : rdps [] = [] := by simp only [rdps]
theorem rdps_cons (a : AV) (l : List AV) : rdps (a :: l) = rdp a :: rdps l := by simp only [rdps]
theorem rdp_bool (b : Bool) : rdp (.bool b) = .bool b := by simp only [rdp]
theorem rdp_int (k : IntKind) (n : Int) : rdp (.int k n) = .int k n := by simp only [rdp]
theorem rdp_str (s : ByteArray) : rdp (.str s) = .str s := by simp only [rdp]
theorem rdp_nilp : rdp .nilp = .nilp := by simp only [rdp]
theorem rdp_hs (i n : Nat) : rdp (.hs i n) = .hs i n := by simp only [rdp]
theorem rdp_ptr (i n : Nat) : rdp (.ptr i n) = .ptr i n := by simp only [rdp]
theorem rdp_ro (n : Nat) (l : List AV) : rdp (.lst .ro n l) = .lst .ro n (rdps l) := by simp only [rdp]
theorem rdp_clip (n : Nat) (l : List AV) : rdp (.lst .clip n l) = .lst .ro n (rdps l) := by simp only [rdp]
theorem rdp_agg (l : List AV) : rdp (.agg l) = .agg (rdps l) := by simp only [rdp]
theorem rdp_tup (l : List AV) : rdp (.tup l) = .tup (rdps l) := by simp only [rdp]
theorem rdps_str : ∀ l : List ByteArray, rdps (l.map .str) = l.map .str
  | [] => rdps_nil
  | a :: l => by simp only [List.map_cons, rdps_cons, rdp_str, rdps_str l]
theorem rdpw : type_of% (And.intro @rdps_nil (And.intro @rdps_cons (And.intro @rdp_bool (And.intro @rdp_int (And.intro @rdp_str (And.intro @rdp_nilp (And.intro @rdp_hs (And.intro @rdp_ptr (And.intro @rdp_ro (And.intro @rdp_clip (And.intro @rdp_agg (And.intro @rdp_tup @rdps_str)))))))))))) :=
  And.intro @rdps_nil (And.intro @rdps_cons (And.intro @rdp_bool (And.intro @rdp_int (And.intro @rdp_str (And.intro @rdp_nilp (And.intro @rdp_hs (And.intro @rdp_ptr (And.intro @rdp_ro (And.intro @rdp_clip (And.intro @rdp_agg (And.intro @rdp_tup @rdps_str)))))))))))
theorem valL (fr : Fr) (h : Hp) (s : Option Nat) (x : Opd) (K : AV → Prop) : val fr h (.load s x) K = (match ev fr x with
    | some (.ptr id off) => (match h[id]? with
      | some (some (_, l)) => loadK s (l.drop off) K
      | _ => False)
    | some (.fp l) => loadK s l K
    | _ => False) := id rfl
end Go.Proofs.Ytpjlkefadnbgdaa

/- What is read of bytes, told for all states of a reader alike. -/
namespace Go.Proofs.Ytpjlkefadnbgdaa
set_option linter.unusedSimpArgs false
set_option linter.unusedVariables false
open Go.RowKit Go.Lib

def nI : Option (Nat × Nat) → Nat
  | some (n, _) => n
  | none => 0
def nS : Option (ByteArray × Nat) → ByteArray
  | some (s, _) => s
  | none => ⟨#[]⟩
def nL : Option (List ByteArray × Nat) → List ByteArray
  | some (l, _) => l
  | none => []
theorem vI_n (r : Option (Nat × Nat)) : vI r = .int .i64 (nI r) := by cases r <;> rfl
theorem vS_n (r : Option (ByteArray × Nat)) : vS r = .str (nS r) := by cases r <;> rfl
/-- what is read where nothing was wrong yet -/
def rN (S : ByteArray) (m : Int) (s : Bool × Nat) : Option (Nat × Nat) := if s.1 = true then none else rNum S m s.2
def rW (S : ByteArray) (s : Bool × Nat) : Option (ByteArray × Nat) := if s.1 = true then none else rWord S s.2
def rL (S : ByteArray) (s : Bool × Nat) : Option (List ByteArray × Nat) := if s.1 = true then none else rSet S s.2
theorem rN_eq (S : ByteArray) (m : Int) (s : Bool × Nat) : (if s.1 = true then none else rNum S m s.2) = rN S m s := rfl
theorem rW_eq (S : ByteArray) (s : Bool × Nat) : (if s.1 = true then none else rWord S s.2) = rW S s := rfl
theorem rL_eq (S : ByteArray) (s : Bool × Nat) : (if s.1 = true then none else rSet S s.2) = rL S s := rfl
theorem rN_le {S : ByteArray} {m : Int} {s : Bool × Nat} {q : Nat} (hs : s.2 ≤ S.size) (hq : q ≤ S.size) : (stO (rN S m s) q).2 ≤ S.size := by
  unfold rN
  split
  · exact hq
  · cases h : rNum S m s.2 with
    | none => exact hq
    | some x => obtain ⟨n, p⟩ := x; exact (rNum_le h hs).2.1
theorem rW_le {S : ByteArray} {s : Bool × Nat} {q : Nat} (hq : q ≤ S.size) : (stO (rW S s) q).2 ≤ S.size := by
  unfold rW
  split
  · exact hq
  · cases h : rWord S s.2 with
    | none => exact hq
    | some x => obtain ⟨n, p⟩ := x; exact (rWord_le h).2.1
theorem rL_le {S : ByteArray} {s : Bool × Nat} {q : Nat} (hq : q ≤ S.size) : (stO (rL S s) q).2 ≤ S.size := by
  unfold rL
  split
  · exact hq
  · cases h : rSet S s.2 with
    | none => exact hq
    | some x => obtain ⟨n, p⟩ := x; exact (upTo_set h).2.2.2
theorem nI_le {S : ByteArray} {m : Int} {s : Bool × Nat} (hs : s.2 ≤ S.size) : nI (rN S m s) ≤ 4611686018427387904 ∧ (0 ≤ m → (nI (rN S m s) : Int) ≤ m) := by
  unfold rN
  split
  · exact ⟨by simp [nI], fun h => by simpa [nI] using h⟩
  · cases h : rNum S m s.2 with
    | none => exact ⟨by simp [nI], fun h => by simpa [nI] using h⟩
    | some x => obtain ⟨n, p⟩ := x; obtain ⟨_, _, h3, h4⟩ := rNum_le h hs; exact ⟨h3, fun _ => h4⟩
theorem rW_small {S : ByteArray} {s : Bool × Nat} : (nS (rW S s)).size ≤ 16 := by
  unfold rW
  split
  · exact Nat.zero_le _
  · cases h : rWord S s.2 with
    | none => exact Nat.zero_le _
    | some x => obtain ⟨n, p⟩ := x; have := wordMay_size (rWord_le h).2.2.1; show n.size ≤ 16; omega
theorem rL_small {S : ByteArray} {s : Bool × Nat} : (nL (rL S s)).length ≤ 16 ∧ ∀ x ∈ nL (rL S s), x.size ≤ 16 := by
  unfold rL
  split
  · simp [nL]
  · cases h : rSet S s.2 with
    | none => simp [nL]
    | some x => obtain ⟨n, p⟩ := x; exact setMay_small (upTo_set h).2.1
def fL (r : Option (List ByteArray × Nat)) : Fl := match r with
  | some _ => .ro
  | none => .clip
theorem vL_n (r : Option (List ByteArray × Nat)) : vL r = .lst (fL r) (nL r).length ((nL r).map .str) := by cases r <;> rfl
theorem deg_fL (r : Option (List ByteArray × Nat)) (n : Nat) (l : List AV) : deg (.lst (fL r) n l) = .lst (fL r) n l := by cases r <;> rfl
theorem a_num' {h : Hp} {id : Nat} {S : ByteArray} {s : Bool × Nat} (most : Int) (ho : h[id]? = some (iObj S s)) (hs : S.size ≤ 1000000) (hp : s.2 ≤ S.size) {r : Option (Nat × Nat)} (e : r = rN S most s) {s' : Bool × Nat} (d : s' = stO r s.2) :
    ACalls Try.prog 21 [.ptr id 0, .int .i64 most] h (fun a h' => a = .int .i64 (nI r) ∧ h' = h.set id (iObj S s')) := by
  have := a_inum most ho (by omega) hp
  rw [rN_eq, ← e, vI_n, ← d] at this
  exact this
theorem a_word' {h : Hp} {id : Nat} {S : ByteArray} {s : Bool × Nat} (ho : h[id]? = some (iObj S s)) (hs : S.size ≤ 1000000) (hp : s.2 ≤ S.size) {r : Option (ByteArray × Nat)} (e : r = rW S s) :
    ∃ q, q ≤ S.size ∧ ACalls Try.prog 41 [.ptr id 0] h (fun a h' => a = .str (nS r) ∧ h' = h.set id (iObj S (stO r q))) := by
  obtain ⟨q, hq, hc⟩ := a_iword ho (by omega) hp
  rw [rW_eq, ← e, vS_n] at hc
  exact ⟨q, hq, hc⟩
theorem a_set' {h : Hp} {id : Nat} {S : ByteArray} {s : Bool × Nat} (ho : h[id]? = some (iObj S s)) (hs : S.size ≤ 1000000) (hp : s.2 ≤ S.size) {r : Option (List ByteArray × Nat)} (e : r = rL S s) :
    ACalls Try.prog 56 [.ptr id 0] h (fun a h' => a = .lst (fL r) (nL r).length ((nL r).map .str) ∧ ∃ q, q ≤ S.size ∧ h' = h.set id (iObj S (stO r q))) := by
  have := a_iset ho (by omega) hp
  rw [rL_eq, ← e, vL_n] at this
  exact this
end Go.Proofs.Ytpjlkefadnbgdaa

namespace Go.Proofs.Ytpjlkefadnbgdaa
open Go.RowKit
end Go.Proofs.Ytpjlkefadnbgdaa

/- What the reference's In does, over the abstract code. -/
namespace Go.Proofs.Ytpjlkefadnbgdaa
set_option linter.unusedSimpArgs false
set_option linter.unusedVariables false
open Go.RowKit Go.Lib

end Go.Proofs.Ytpjlkefadnbgdaa

/- What the reference reads of bytes. -/
namespace Go.Proofs.Ytpjlkefadnbgdaa
set_option linter.unusedSimpArgs false
set_option linter.unusedVariables false
open Go.RowKit Go.Lib

theorem str_app2 (a b : List UInt8) : (⟨a.toArray⟩ ++ ⟨b.toArray⟩ : ByteArray) = ⟨(a ++ b).toArray⟩ := by
  apply ByteArray.ext; apply Array.ext'; simp
end Go.Proofs.Ytpjlkefadnbgdaa

/- The abstract layer: objects that nobody asks for any more are forgotten; objects that are handed out are only read from then on. -/
namespace Go.Proofs.Ytpjlkefadnbgdaa
set_option linter.unusedSimpArgs false
set_option linter.unusedVariables false
open Go.RowKit Go.Lib

/-- leads to objects below n alone -/
def low (n : Nat) : AV → Bool
  | .ptr i _ => decide (i < n)
  | .hs i _ => decide (i < n)
  | .fp l | .lst _ _ l | .agg l | .tup l | .fn _ l | .fnb _ l => lows l
  | _ => true
where lows : List AV → Bool
  | [] => true
  | a :: l => low n a && lows l
def Gh.cut (g : Gh) (n : Nat) : Gh := { g with io := fun i => if i < n then g.io i else none }
theorem io_cut {g : Gh} {n i b : Nat} (h : g.io i = some b) (hi : i < n) : (g.cut n).io i = some b := by
  simp only [Gh.cut, if_pos hi]; exact h
mutual
theorem Rep.cut {g : Gh} (n : Nat) : ∀ {v : Value} {a : AV}, Rep g v a → low n a = true → Rep (g.cut n) v a
  | _, _, .bool b, _ => .bool b
  | _, _, .int k m, _ => .int k m
  | _, _, .str s, _ => .str s
  | _, _, .nilp, _ => .nilp
  | _, _, .ptr id off b h, hl => .ptr id off b (io_cut h (by simpa [low] using hl))
  | _, _, .fp b off vs l h hp hr, hl => .fp b off vs l h hp (RepL.cut n hr (by simpa [low] using hl))
  | _, _, .lst b off m c f vs l h hp h1 h2 hr, hl => .lst b off m c f vs l h hp h1 h2 (RepL.cut n hr (by simpa [low] using hl))
  | _, _, .lst0 a c f h, _ => .lst0 a c f h
  | _, _, .hs id b m c h h1, hl => .hs id b m c (io_cut h (by simpa [low] using hl)) h1
  | _, _, .agg vs l h hp hr, hl => .agg vs l h hp (RepL.cut n hr (by simpa [low] using hl))
  | _, _, .tup vs l hp hr, hl => .tup vs l hp (RepL.cut n hr (by simpa [low] using hl))
  | _, _, .fn f vs l hp hr, hl => .fn f vs l hp (RepL.cut n hr (by simpa [low] using hl))
  | _, _, .fnb f vs l hp hr, hl => .fnb f vs l hp (RepL.cut n hr (by simpa [low] using hl))
  | _, _, .nilf, _ => .nilf
  | _, _, .opq v h h', _ => .opq v h h'
  | _, _, .itr b s p, _ => .itr b s p
  | _, _, .stk a c e o l h1 h2 h3, _ => .stk a c e o l h1 h2 h3
  | _, _, .raw a m c h1 h2, _ => .raw a m c h1 h2
  | _, _, .rawp b i m c, _ => .rawp b i m c
  | _, _, .frn v Q S W0 h1 h2 h3 h4, _ => .frn v Q S W0 h1 h2 h3 h4
theorem RepL.cut {g : Gh} (n : Nat) : ∀ {vs : List Value} {l : List AV}, RepL g vs l → low.lows n l = true → RepL (g.cut n) vs l
  | _, _, .nil, _ => .nil
  | _, _, .cons h hr, hl => by
    simp only [low.lows, Bool.and_eq_true] at hl
    exact .cons (Rep.cut n h hl.1) (RepL.cut n hr hl.2)
end
mutual
theorem Rep.low {g : Gh} {n : Nat} (hd : ∀ i b, g.io i = some b → i < n) : ∀ {v : Value} {a : AV}, Rep g v a → low n a = true
  | _, _, .bool b => by simp [Go.Proofs.Ytpjlkefadnbgdaa.low]
  | _, _, .int k m => by simp [Go.Proofs.Ytpjlkefadnbgdaa.low]
  | _, _, .str s => by simp [Go.Proofs.Ytpjlkefadnbgdaa.low]
  | _, _, .nilp => by simp [Go.Proofs.Ytpjlkefadnbgdaa.low]
  | _, _, .ptr id off b h => by simpa [Go.Proofs.Ytpjlkefadnbgdaa.low] using hd id b h
  | _, _, .fp b off vs l h hp hr => by simpa [Go.Proofs.Ytpjlkefadnbgdaa.low] using RepL.low hd hr
  | _, _, .lst b off m c f vs l h hp h1 h2 hr => by simpa [Go.Proofs.Ytpjlkefadnbgdaa.low] using RepL.low hd hr
  | _, _, .lst0 a c f h => by simp [Go.Proofs.Ytpjlkefadnbgdaa.low, low.lows]
  | _, _, .hs id b m c h h1 => by simpa [Go.Proofs.Ytpjlkefadnbgdaa.low] using hd id b h
  | _, _, .agg vs l h hp hr => by simpa [Go.Proofs.Ytpjlkefadnbgdaa.low] using RepL.low hd hr
  | _, _, .tup vs l hp hr => by simpa [Go.Proofs.Ytpjlkefadnbgdaa.low] using RepL.low hd hr
  | _, _, .fn f vs l hp hr => by simpa [Go.Proofs.Ytpjlkefadnbgdaa.low] using RepL.low hd hr
  | _, _, .fnb f vs l hp hr => by simpa [Go.Proofs.Ytpjlkefadnbgdaa.low] using RepL.low hd hr
  | _, _, .nilf => by simp [Go.Proofs.Ytpjlkefadnbgdaa.low]
  | _, _, .opq v h h' => by simp [Go.Proofs.Ytpjlkefadnbgdaa.low]
  | _, _, .itr b s p => by simp [Go.Proofs.Ytpjlkefadnbgdaa.low]
  | _, _, .stk a c e o l h1 h2 h3 => by simp [Go.Proofs.Ytpjlkefadnbgdaa.low]
  | _, _, .raw a m c h1 h2 => by simp [Go.Proofs.Ytpjlkefadnbgdaa.low]
  | _, _, .rawp b i m c => by simp [Go.Proofs.Ytpjlkefadnbgdaa.low]
  | _, _, .frn _ _ _ _ _ _ _ _ => by simp [Go.Proofs.Ytpjlkefadnbgdaa.low]
theorem RepL.low {g : Gh} {n : Nat} (hd : ∀ i b, g.io i = some b → i < n) : ∀ {vs : List Value} {l : List AV}, RepL g vs l → low.lows n l = true
  | _, _, .nil => by simp [low.lows]
  | _, _, .cons h hr => by simp [low.lows, Rep.low hd h, RepL.low hd hr]
end
mutual
theorem low_free {n : Nat} : ∀ {a : AV}, free a = true → low n a = true
  | .bool _, _ => by simp [low]
  | .int _ _, _ => by simp [low]
  | .str _, _ => by simp [low]
  | .nilp, _ => by simp [low]
  | .nilf, _ => by simp [low]
  | .opq, _ => by simp [low]
  | .itr _ _, _ => by simp [low]
  | .stk _ _ _, _ => by simp [low]
  | .raw _ _, _ => by simp [low]
  | .rawp _ _, _ => by simp [low]
  | .frn _, _ => by simp [low]
  | .ptr _ _, h => by simp [free] at h
  | .hs _ _, h => by simp [free] at h
  | .fp l, h => by simpa [low] using lows_free (l := l) (by simpa [free] using h)
  | .lst _ _ l, h => by simpa [low] using lows_free (l := l) (by simpa [free] using h)
  | .agg l, h => by simpa [low] using lows_free (l := l) (by simpa [free] using h)
  | .tup l, h => by simpa [low] using lows_free (l := l) (by simpa [free] using h)
  | .fn _ l, h => by simpa [low] using lows_free (l := l) (by simpa [free] using h)
  | .fnb _ l, h => by simpa [low] using lows_free (l := l) (by simpa [free] using h)
theorem lows_free {n : Nat} : ∀ {l : List AV}, free.frees l = true → low.lows n l = true
  | [], _ => by simp [low.lows]
  | a :: l, h => by
    simp only [free.frees, Bool.and_eq_true] at h
    simp [low.lows, low_free (n := n) h.1, lows_free (n := n) h.2]
end
mutual
/-- objects as lists that are only read -/
def fz (h : Hp) : AV → AV
  | .hs id n => match h[id]? with
    | some (some (_, l)) => .lst .ro n (l.map deg)
    | _ => .hs id n
  | .agg l => .agg (fzs h l)
  | .tup l => .tup (fzs h l)
  | a => a
def fzs (h : Hp) : List AV → List AV
  | [] => []
  | a :: l => fz h a :: fzs h l
end
theorem plain_fz {h : Hp} (a : AV) (hp : plain a = true) : plain (fz h a) = true := by
  cases a with
  | hs id n =>
    simp only [fz]
    split <;> rfl
  | lst f n l => simp only [fz]; exact hp
  | itr s p => simp [plain] at hp
  | stk e o l => simp [plain] at hp
  | _ => simp [fz, plain]
theorem plains_fz {h : Hp} : ∀ {l : List AV}, plains l → plains (fzs h l)
  | [], _ => by intro a ha; simp [fzs] at ha
  | a :: l, hp => by
    intro b hb
    simp only [fzs, List.mem_cons] at hb
    rcases hb with rfl | hb
    · exact plain_fz a (hp a (by simp))
    · exact plains_fz (fun x hx => hp x (by simp [hx])) b hb
open Classical in
/-- all cells of objects stay from now on -/
noncomputable def Gh.ice (g : Gh) (h : Hp) (w : World) : Gh :=
  { g with io := fun _ => none, C := fun b o => match g.C b o with
    | some v => some v
    | none => if ∃ id s l, g.io id = some b ∧ h[id]? = some (some (s, l)) then (w.cell? ⟨b, o, none⟩).filter (fun v => v.oneCell') else none }
theorem ice_le {g : Gh} {h : Hp} {w : World} {b o : Nat} {v : Value} (hc : g.C b o = some v) : (g.ice h w).C b o = some v := by simp only [Gh.ice, hc]
theorem ice_obj {P : Program} {g : Gh} {h : Hp} {w : World} {id : Nat} {s : Bool} {l : List AV} (hs : Sim P g h w) (hl : h[id]? = some (some (s, l))) :
    ∃ b arr, g.io id = some b ∧ CellsAt (g.ice h w) b 0 arr ∧ RepL g arr l := by
  obtain ⟨b, arr, e, p1, p2, p3, p4, p5, p6, p7, p8, p9⟩ := hs.obj id s l hl
  refine ⟨b, arr.toList, p1, fun i v hv => ?_, p3⟩
  cases hC : g.C b (0 + i) with
  | some u =>
    have h1 := (hs.prot _ _ _ hC).1
    rw [Nat.zero_add, cell_of_row w b i arr e (0, 0) p2] at h1
    have : v = u := by
      rw [Array.getElem?_toList] at hv
      rw [hv] at h1
      simpa using h1
    subst this
    exact ice_le hC
  | none =>
    simp only [Gh.ice, hC]
    rw [if_pos ⟨id, s, l, p1, hl⟩]
    simp only [Option.filter_eq_some_iff]
    refine ⟨?_, p4 v (List.mem_of_getElem? hv)⟩
    rw [Nat.zero_add, cell_of_row w b i arr e (0, 0) p2]
    simpa using hv
mutual
theorem Rep.ice {P : Program} {g : Gh} {h : Hp} {w : World} (hs : Sim P g h w) : ∀ {v : Value} {a : AV}, Rep g v a → free (fz h a) = true → Rep (g.ice h w) v (fz h a)
  | _, _, .bool b, _ => by simp only [fz]; exact .bool b
  | _, _, .int k m, _ => by simp only [fz]; exact .int k m
  | _, _, .str s, _ => by simp only [fz]; exact .str s
  | _, _, .nilp, _ => by simp only [fz]; exact .nilp
  | _, _, .ptr id off b hb, hf => by simp [fz, free] at hf
  | _, _, .fp b off vs l hc hp hr, hf => by
    simp only [fz] at hf ⊢
    exact Rep.free (g := g) (fun _ _ _ hc => ice_le hc) (fun _ _ h => h) (.fp b off vs l hc hp hr) hf
  | _, _, .lst b off m c f vs l hc hp h1 h2 hr, hf => by
    simp only [fz] at hf ⊢
    exact Rep.free (g := g) (fun _ _ _ hc => ice_le hc) (fun _ _ h => h) (.lst b off m c f vs l hc hp h1 h2 hr) hf
  | _, _, .lst0 a c f hc, _ => by simp only [fz]; exact .lst0 a c f hc
  | _, _, .hs id b m c hb h1, hf => by
    simp only [fz] at hf ⊢
    split at hf
    · next s l hl =>
      obtain ⟨b', arr, q1, q2, q3⟩ := ice_obj hs hl
      obtain rfl : b = b' := by rw [hb] at q1; simpa using q1
      simp only [free] at hf
      refine .lst b 0 m c .ro arr _ q2 (fun a ha => ?_) h1 (fun e => by cases e) (RepL.free (g := g) (fun _ _ _ hc => ice_le hc) (fun _ _ h => h) q3.deg hf)
      obtain ⟨a', _, rfl⟩ := List.mem_map.1 ha
      exact plain_deg a'
    · simp [free] at hf
  | _, _, .agg vs l h1 hp hr, hf => by
    simp only [fz, free] at hf ⊢
    exact .agg vs _ h1 (plains_fz hp) (RepL.ice hs hr hf)
  | _, _, .tup vs l hp hr, hf => by
    simp only [fz, free] at hf ⊢
    exact .tup vs _ (plains_fz hp) (RepL.ice hs hr hf)
  | _, _, .fn f vs l hp hr, hf => by
    simp only [fz] at hf ⊢
    exact Rep.free (g := g) (fun _ _ _ hc => ice_le hc) (fun _ _ h => h) (.fn f vs l hp hr) hf
  | _, _, .fnb f vs l hp hr, hf => by
    simp only [fz] at hf ⊢
    exact Rep.free (g := g) (fun _ _ _ hc => ice_le hc) (fun _ _ h => h) (.fnb f vs l hp hr) hf
  | _, _, .nilf, _ => by simp only [fz]; exact .nilf
  | _, _, .opq v h h', _ => by simp only [fz]; exact .opq v h h'
  | _, _, .itr b s p, _ => by simp only [fz]; exact .itr b s p
  | _, _, .stk a c e o l h1 h2 h3, _ => by simp only [fz]; exact .stk a c e o l h1 h2 h3
  | _, _, .raw a m c h1 h2, _ => by simp only [fz]; exact .raw a m c h1 h2
  | _, _, .rawp b i m c, _ => by simp only [fz]; exact .rawp b i m c
  | _, _, .frn v Q S W0 h1 h2 h3 h4, _ => by simp only [fz]; exact .frn v Q S W0 h1 h2 h3 h4
theorem RepL.ice {P : Program} {g : Gh} {h : Hp} {w : World} (hs : Sim P g h w) : ∀ {vs : List Value} {l : List AV}, RepL g vs l → free.frees (fzs h l) = true → RepL (g.ice h w) vs (fzs h l)
  | _, _, .nil, _ => by simp only [fzs]; exact .nil
  | _, _, .cons h0 hr, hf => by
    simp only [fzs, free.frees, Bool.and_eq_true] at hf ⊢
    exact .cons (Rep.ice hs h0 hf.1) (RepL.ice hs hr hf.2)
end
end Go.Proofs.Ytpjlkefadnbgdaa

namespace Go.Proofs.Ytpjlkefadnbgdaa
open Go.RowKit
def J_law22_LetterBack_j1 : ACode :=
 .keep [1] (.seq (.ops [⟨some 55, none, .mv (.t 1), none⟩,
 ⟨some 56, none, .call (.f 9) [(.t 55)], none⟩,
 ⟨some 54, none, .mv (.t 56), none⟩,
 ⟨some 57, none, .ext 0 (.t 54), none⟩,
 ⟨some 58, none, .ext 1 (.t 54), none⟩,
 ⟨some 9, none, .new [(.int .i64 0), (.int .u16 0), (.int .i64 0), (.int .i64 0), (.int .i64 0), (.int .i64 0), (.int .i64 0), (.lst .clip 0 []), (.int .i64 0), (.int .i64 0), (.str ⟨#[]⟩), (.lst .clip 0 [])] [], none⟩,
 ⟨none, none, .stores 12 (.t 9) (.t 57), none⟩,
 ⟨some 10, none, .mv (.t 58), none⟩])
 (.keep [1, 9, 10] (.seq (.seq (.ops [⟨some 59, none, .mv (.t 10), none⟩,
 ⟨some 60, none, .bin .neq (.t 59) (.c (.int .i64 0)), none⟩])
 (.keep [1, 9, 60] (.cond (.t 60)
 (.seq (.ops [⟨some 61, none, .load (some 12) (.t 9), none⟩,
 ⟨some 62, none, .build [(.int .i64 0), (.int .u16 0), (.int .i64 0), (.int .i64 0), (.int .i64 0), (.int .i64 0), (.int .i64 0), (.lst .clip 0 []), (.int .i64 0), (.int .i64 0), (.str ⟨#[]⟩), (.lst .clip 0 [])] [], none⟩,
 ⟨some 63, none, .call (.f 11) [(.t 61), (.t 62)], none⟩,
 ⟨some 4, none, .mv (.t 63), none⟩])
 (.ret))
 (.skip))))
 (.keep [1, 9] (.seq (.ops [⟨some 65, none, .load (some 12) (.t 9), none⟩,
 ⟨some 66, none, .call (.f 8) [(.t 65)], none⟩,
 ⟨some 64, none, .mv (.t 66), none⟩,
 ⟨some 67, none, .ext 0 (.t 64), none⟩,
 ⟨some 68, none, .ext 1 (.t 64), none⟩,
 ⟨some 11, none, .mv (.t 67), none⟩,
 ⟨some 12, none, .mv (.t 68), none⟩])
 (.keep [1, 9, 11, 12] (.seq (.ops [⟨some 69, none, .mv (.t 12), none⟩,
 ⟨some 70, none, .bin .eql (.t 69) (.c (.int .i64 0)), none⟩,
 ⟨some 71, none, .mv (.t 70), none⟩,
 ⟨some 72, (some (71, true)), .mv (.t 11), none⟩,
 ⟨some 73, (some (71, true)), .mv (.t 1), none⟩,
 ⟨some 74, (some (71, true)), .bin .eql (.t 72) (.t 73), none⟩,
 ⟨some 75, none, .pick (.t 71) (.t 74) (.c (.bool false)), none⟩,
 ⟨some 76, none, .mv (.t 75), none⟩,
 ⟨some 77, (some (76, true)), .load (some 12) (.t 9), none⟩,
 ⟨some 78, (some (76, true)), .call (.f 12) [(.t 77)], none⟩,
 ⟨some 79, none, .pick (.t 76) (.t 78) (.c (.bool false)), none⟩,
 ⟨some 80, none, .mv (.t 79), none⟩,
 ⟨some 81, (some (80, true)), .mv (.t 1), none⟩,
 ⟨some 82, (some (80, true)), .lens (.t 81), none⟩,
 ⟨some 83, (some (80, true)), .bin .leq (.t 82) (.c (.int .i64 4000)), none⟩,
 ⟨some 84, none, .pick (.t 80) (.t 83) (.c (.bool false)), none⟩,
 ⟨some 4, none, .mv (.t 84), none⟩])
 (.ret))))))))
def J_law22_LetterBack : AFn :=
 ⟨85, [.t 4], .seq (.ops [⟨some 2, none, .box (.t 0) [], none⟩,
 ⟨some 4, none, .mv (.c (.bool false)), none⟩])
 (.keep [1, 2] (.seq (.seq (.ops [⟨some 13, none, .call (.f 6) [], none⟩,
 ⟨some 14, none, .not (.t 13), none⟩])
 (.keep [1, 2, 14] (.cond (.t 14)
 (.seq (.ops [⟨some 4, none, .mv (.c (.bool false)), none⟩])
 (.ret))
 (.skip))))
 (.keep [1, 2] (.seq (.seq (.ops [⟨some 15, none, .load (some 12) (.t 2), none⟩,
 ⟨some 16, none, .call (.f 7) [(.t 15)], none⟩,
 ⟨some 17, none, .mv (.t 16), none⟩,
 ⟨some 18, (some (17, false)), .mv (.t 1), none⟩,
 ⟨some 19, (some (17, false)), .lens (.t 18), none⟩,
 ⟨some 20, (some (17, false)), .bin .gtr (.t 19) (.c (.int .i64 8192)), none⟩,
 ⟨some 21, none, .pick (.t 17) (.c (.bool true)) (.t 20), none⟩])
 (.keep [1, 2, 21] (.cond (.t 21)
 (.seq (.ops [⟨some 4, none, .mv (.c (.bool true)), none⟩])
 (.ret))
 (.skip))))
 (.keep [1, 2] (.seq (.seq (.ops [⟨some 23, none, .load (some 12) (.t 2), none⟩,
 ⟨some 24, none, .call (.f 8) [(.t 23)], none⟩,
 ⟨some 22, none, .mv (.t 24), none⟩,
 ⟨some 25, none, .ext 0 (.t 22), none⟩,
 ⟨some 26, none, .ext 1 (.t 22), none⟩,
 ⟨some 5, none, .mv (.t 25), none⟩,
 ⟨some 6, none, .mv (.t 26), none⟩])
 (.keep [1, 2, 5, 6] (.seq (.ops [⟨some 27, none, .mv (.t 6), none⟩,
 ⟨some 28, none, .bin .eql (.t 27) (.c (.int .i64 0)), none⟩])
 (.keep [1, 2, 5, 28] (.cond (.t 28)
 (.seq (.ops [⟨some 30, none, .mv (.t 5), none⟩,
 ⟨some 31, none, .call (.f 9) [(.t 30)], none⟩,
 ⟨some 29, none, .mv (.t 31), none⟩,
 ⟨some 32, none, .ext 0 (.t 29), none⟩,
 ⟨some 33, none, .ext 1 (.t 29), none⟩,
 ⟨some 7, none, .new [(.int .i64 0), (.int .u16 0), (.int .i64 0), (.int .i64 0), (.int .i64 0), (.int .i64 0), (.int .i64 0), (.lst .clip 0 []), (.int .i64 0), (.int .i64 0), (.str ⟨#[]⟩), (.lst .clip 0 [])] [], none⟩,
 ⟨none, none, .stores 12 (.t 7) (.t 32), none⟩,
 ⟨some 8, none, .mv (.t 33), none⟩])
 (.keep [1, 2, 7, 8] (.seq (.ops [⟨some 34, none, .mv (.t 8), none⟩,
 ⟨some 35, none, .bin .neq (.t 34) (.c (.int .i64 0)), none⟩,
 ⟨some 36, none, .mv (.t 35), none⟩,
 ⟨some 37, (some (36, false)), .load (some 12) (.t 2), none⟩,
 ⟨some 38, (some (36, false)), .load (some 12) (.t 7), none⟩,
 ⟨some 39, (some (36, false)), .call (.f 10) [(.t 37), (.t 38)], none⟩,
 ⟨some 40, (some (36, false)), .not (.t 39), none⟩,
 ⟨some 41, none, .pick (.t 36) (.c (.bool true)) (.t 40), none⟩,
 ⟨some 42, none, .mv (.t 41), none⟩,
 ⟨some 43, (some (42, false)), .load (some 12) (.t 2), none⟩,
 ⟨some 44, (some (42, false)), .load (some 12) (.t 7), none⟩,
 ⟨some 45, (some (42, false)), .call (.f 11) [(.t 43), (.t 44)], none⟩,
 ⟨some 46, (some (42, false)), .not (.t 45), none⟩,
 ⟨some 47, none, .pick (.t 42) (.c (.bool true)) (.t 46), none⟩])
 (.keep [1, 47] (.cond (.t 47)
 (.seq (.ops [⟨some 4, none, .mv (.c (.bool false)), none⟩])
 (.ret))
 (.skip))))))
 (.seq (.ops [⟨some 48, none, .mv (.t 5), none⟩,
 ⟨some 49, none, .bin .neq (.t 48) (.c (.str ⟨#[]⟩)), none⟩,
 ⟨some 50, none, .mv (.t 49), none⟩,
 ⟨some 51, (some (50, false)), .load (some 12) (.t 2), none⟩,
 ⟨some 52, (some (50, false)), .call (.f 12) [(.t 51)], none⟩,
 ⟨some 53, none, .pick (.t 50) (.c (.bool true)) (.t 52), none⟩])
 (.keep [1, 53] (.cond (.t 53)
 (.seq (.ops [⟨some 4, none, .mv (.c (.bool false)), none⟩])
 (.ret))
 (.skip)))))))))
 (J_law22_LetterBack_j1)))))))⟩
theorem J_law22_LetterBack_ok : chkFn Try.prog 3 J_law22_LetterBack = true := by kernel_rfl
def J_law22_LetterApart : AFn :=
 ⟨93, [.t 4], .seq (.ops [⟨some 2, none, .box (.t 0) [], none⟩,
 ⟨some 3, none, .box (.t 1) [], none⟩,
 ⟨some 4, none, .mv (.c (.bool false)), none⟩])
 (.keep [2, 3] (.seq (.seq (.ops [⟨some 14, none, .call (.f 6) [], none⟩,
 ⟨some 15, none, .not (.t 14), none⟩])
 (.keep [2, 3, 15] (.cond (.t 15)
 (.seq (.ops [⟨some 4, none, .mv (.c (.bool false)), none⟩])
 (.ret))
 (.skip))))
 (.keep [2, 3] (.seq (.seq (.ops [⟨some 16, none, .load (some 12) (.t 2), none⟩,
 ⟨some 17, none, .call (.f 7) [(.t 16)], none⟩,
 ⟨some 18, none, .mv (.t 17), none⟩,
 ⟨some 19, (some (18, false)), .load (some 12) (.t 3), none⟩,
 ⟨some 20, (some (18, false)), .call (.f 7) [(.t 19)], none⟩,
 ⟨some 21, none, .pick (.t 18) (.c (.bool true)) (.t 20), none⟩])
 (.keep [2, 3, 21] (.cond (.t 21)
 (.seq (.ops [⟨some 4, none, .mv (.c (.bool true)), none⟩])
 (.ret))
 (.skip))))
 (.keep [2, 3] (.seq (.seq (.draw [2, 3, 43] [⟨some 22, none, .load (some 12) (.t 2), none⟩,
 ⟨some 23, none, .load (some 12) (.t 2), none⟩,
 ⟨some 24, none, .call (.f 10) [(.t 22), (.t 23)], none⟩,
 ⟨some 25, none, .not (.t 24), none⟩,
 ⟨some 26, none, .mv (.t 25), none⟩,
 ⟨some 27, (some (26, false)), .load (some 12) (.t 2), none⟩,
 ⟨some 28, (some (26, false)), .load (some 12) (.t 3), none⟩,
 ⟨some 29, (some (26, false)), .call (.f 10) [(.t 27), (.t 28)], none⟩,
 ⟨some 30, (some (26, false)), .load (some 12) (.t 3), none⟩,
 ⟨some 31, (some (26, false)), .load (some 12) (.t 2), none⟩,
 ⟨some 32, (some (26, false)), .call (.f 10) [(.t 30), (.t 31)], none⟩,
 ⟨some 33, (some (26, false)), .bbin true (.t 29) (.t 32), none⟩,
 ⟨some 34, none, .pick (.t 26) (.c (.bool true)) (.t 33), none⟩,
 ⟨some 35, none, .mv (.t 34), none⟩,
 ⟨some 36, (some (35, false)), .load (some 12) (.t 2), none⟩,
 ⟨some 37, (some (35, false)), .load (some 12) (.t 3), none⟩,
 ⟨some 38, (some (35, false)), .call (.f 10) [(.t 36), (.t 37)], none⟩,
 ⟨some 39, (some (35, false)), .load (some 12) (.t 2), none⟩,
 ⟨some 40, (some (35, false)), .load (some 12) (.t 3), none⟩,
 ⟨some 41, (some (35, false)), .call (.f 11) [(.t 39), (.t 40)], none⟩,
 ⟨some 42, (some (35, false)), .bbin true (.t 38) (.t 41), none⟩,
 ⟨some 43, none, .pick (.t 35) (.c (.bool true)) (.t 42), none⟩])
 (.keep [2, 3, 43] (.cond (.t 43)
 (.seq (.ops [⟨some 4, none, .mv (.c (.bool false)), none⟩])
 (.ret))
 (.skip))))
 (.keep [2, 3] (.seq (.ops [⟨some 45, none, .load (some 12) (.t 2), none⟩,
 ⟨some 46, none, .call (.f 8) [(.t 45)], none⟩,
 ⟨some 44, none, .mv (.t 46), none⟩,
 ⟨some 47, none, .ext 0 (.t 44), none⟩,
 ⟨some 48, none, .ext 1 (.t 44), none⟩,
 ⟨some 5, none, .mv (.t 47), none⟩,
 ⟨some 6, none, .mv (.t 48), none⟩])
 (.keep [2, 3, 5, 6] (.seq (.ops [⟨some 50, none, .load (some 12) (.t 3), none⟩,
 ⟨some 51, none, .call (.f 8) [(.t 50)], none⟩,
 ⟨some 49, none, .mv (.t 51), none⟩,
 ⟨some 52, none, .ext 0 (.t 49), none⟩,
 ⟨some 53, none, .ext 1 (.t 49), none⟩,
 ⟨some 7, none, .mv (.t 52), none⟩,
 ⟨some 8, none, .mv (.t 53), none⟩])
 (.keep [2, 3, 5, 6, 7, 8] (.seq (.seq (.ops [⟨some 54, none, .mv (.t 6), none⟩,
 ⟨some 55, none, .bin .neq (.t 54) (.c (.int .i64 0)), none⟩,
 ⟨some 56, none, .mv (.t 55), none⟩,
 ⟨some 57, (some (56, false)), .mv (.t 8), none⟩,
 ⟨some 58, (some (56, false)), .bin .neq (.t 57) (.c (.int .i64 0)), none⟩,
 ⟨some 59, none, .pick (.t 56) (.c (.bool true)) (.t 58), none⟩])
 (.keep [2, 3, 5, 7, 59] (.cond (.t 59)
 (.seq (.ops [⟨some 4, none, .mv (.c (.bool true)), none⟩])
 (.ret))
 (.skip))))
 (.keep [2, 3, 5, 7] (.seq (.ops [⟨some 61, none, .load (some 12) (.t 2), none⟩,
 ⟨some 62, none, .call (.f 13) [(.t 61)], none⟩,
 ⟨some 60, none, .mv (.t 62), none⟩,
 ⟨some 63, none, .ext 0 (.t 60), none⟩,
 ⟨some 64, none, .ext 1 (.t 60), none⟩,
 ⟨some 9, none, .new [(.int .u16 0), (.int .i64 0), (.int .i64 0), (.str ⟨#[]⟩)] [], none⟩,
 ⟨none, none, .stores 4 (.t 9) (.t 63), none⟩,
 ⟨some 10, none, .mv (.t 64), none⟩])
 (.keep [2, 3, 5, 7, 9, 10] (.seq (.ops [⟨some 66, none, .load (some 12) (.t 3), none⟩,
 ⟨some 67, none, .call (.f 13) [(.t 66)], none⟩,
 ⟨some 65, none, .mv (.t 67), none⟩,
 ⟨some 68, none, .ext 0 (.t 65), none⟩,
 ⟨some 69, none, .ext 1 (.t 65), none⟩,
 ⟨some 11, none, .new [(.int .u16 0), (.int .i64 0), (.int .i64 0), (.str ⟨#[]⟩)] [], none⟩,
 ⟨none, none, .stores 4 (.t 11) (.t 68), none⟩,
 ⟨some 12, none, .mv (.t 69), none⟩])
 (.keep [2, 3, 5, 7, 9, 10, 11, 12] (.seq (.ops [⟨some 70, none, .load (some 12) (.t 2), none⟩,
 ⟨some 71, none, .load (some 12) (.t 3), none⟩,
 ⟨some 72, none, .call (.f 10) [(.t 70), (.t 71)], none⟩,
 ⟨some 13, none, .mv (.t 72), none⟩])
 (.keep [5, 7, 9, 10, 11, 12, 13] (.seq (.ops [⟨some 73, none, .mv (.t 13), none⟩,
 ⟨some 74, none, .mv (.t 5), none⟩,
 ⟨some 75, none, .mv (.t 7), none⟩,
 ⟨some 76, none, .bin .eql (.t 74) (.t 75), none⟩,
 ⟨some 77, none, .bbin false (.t 73) (.t 76), none⟩,
 ⟨some 78, none, .mv (.t 77), none⟩,
 ⟨some 79, (some (78, true)), .mv (.t 10), none⟩,
 ⟨some 80, (some (78, true)), .bin .neq (.t 79) (.c (.int .i64 0)), none⟩,
 ⟨some 81, (some (78, true)), .mv (.t 80), none⟩,
 ⟨some 82, (some (81, false)), .mv (.t 12), none⟩,
 ⟨some 83, (some (81, false)), .bin .neq (.t 82) (.c (.int .i64 0)), none⟩,
 ⟨some 84, (some (78, true)), .pick (.t 81) (.c (.bool true)) (.t 83), none⟩,
 ⟨some 85, (some (78, true)), .mv (.t 84), none⟩,
 ⟨some 86, (some (85, false)), .load (some 4) (.t 9), none⟩,
 ⟨some 87, (some (85, false)), .load (some 4) (.t 11), none⟩,
 ⟨some 88, (some (85, false)), .ex (.aeq false [0, 0, 0, 1]) [(.t 86), (.t 87)], none⟩,
 ⟨some 89, (some (85, false)), .mv (.t 13), none⟩,
 ⟨some 90, (some (85, false)), .bbin false (.t 88) (.t 89), none⟩,
 ⟨some 91, (some (78, true)), .pick (.t 85) (.c (.bool true)) (.t 90), none⟩,
 ⟨some 92, none, .pick (.t 78) (.t 91) (.c (.bool false)), none⟩,
 ⟨some 4, none, .mv (.t 92), none⟩])
 (.ret)))))))))))))))))))))⟩
theorem J_law22_LetterApart_ok : chkFn Try.prog 4 J_law22_LetterApart = true := by kernel_rfl
def J_law22_awake : AFn :=
 ⟨97, [.t 0], .seq (.ops [⟨some 0, none, .mv (.c (.bool false)), none⟩])
 (.keep [] (.seq (.ops [⟨some 13, none, .build [(.int .i64 0), (.int .u16 0), (.int .i64 0), (.int .i64 0), (.int .i64 0), (.int .i64 0), (.int .i64 0), (.lst .clip 0 []), (.int .i64 0), (.int .i64 0), (.str ⟨#[]⟩), (.lst .clip 0 [])] [(0, 1, (.c (.int .i64 3))), (1, 1, (.c (.int .u16 16385))), (2, 1, (.c (.int .i64 3))), (9, 1, (.c (.int .i64 8)))], none⟩,
 ⟨some 1, none, .new [(.int .i64 0), (.int .u16 0), (.int .i64 0), (.int .i64 0), (.int .i64 0), (.int .i64 0), (.int .i64 0), (.lst .clip 0 []), (.int .i64 0), (.int .i64 0), (.str ⟨#[]⟩), (.lst .clip 0 [])] [], none⟩,
 ⟨none, none, .stores 12 (.t 1) (.t 13), none⟩])
 (.keep [1] (.seq (.ops [⟨some 15, none, .load (some 12) (.t 1), none⟩,
 ⟨some 16, none, .call (.f 8) [(.t 15)], none⟩,
 ⟨some 14, none, .mv (.t 16), none⟩,
 ⟨some 17, none, .ext 0 (.t 14), none⟩,
 ⟨some 18, none, .ext 1 (.t 14), none⟩,
 ⟨some 2, none, .mv (.t 17), none⟩,
 ⟨some 3, none, .mv (.t 18), none⟩])
 (.keep [1, 2, 3] (.seq (.ops [⟨some 20, none, .mv (.t 2), none⟩,
 ⟨some 21, none, .call (.f 9) [(.t 20)], none⟩,
 ⟨some 19, none, .mv (.t 21), none⟩,
 ⟨some 22, none, .ext 0 (.t 19), none⟩,
 ⟨some 23, none, .ext 1 (.t 19), none⟩,
 ⟨some 4, none, .new [(.int .i64 0), (.int .u16 0), (.int .i64 0), (.int .i64 0), (.int .i64 0), (.int .i64 0), (.int .i64 0), (.lst .clip 0 []), (.int .i64 0), (.int .i64 0), (.str ⟨#[]⟩), (.lst .clip 0 [])] [], none⟩,
 ⟨none, none, .stores 12 (.t 4) (.t 22), none⟩,
 ⟨some 5, none, .mv (.t 23), none⟩])
 (.keep [1, 2, 3, 4, 5] (.seq (.ops [⟨some 25, none, .load (some 12) (.t 1), none⟩,
 ⟨some 26, none, .call (.f 13) [(.t 25)], none⟩,
 ⟨some 24, none, .mv (.t 26), none⟩,
 ⟨some 27, none, .ext 0 (.t 24), none⟩,
 ⟨some 28, none, .ext 1 (.t 24), none⟩,
 ⟨some 6, none, .new [(.int .u16 0), (.int .i64 0), (.int .i64 0), (.str ⟨#[]⟩)] [], none⟩,
 ⟨none, none, .stores 4 (.t 6) (.t 27), none⟩,
 ⟨some 7, none, .mv (.t 28), none⟩])
 (.keep [1, 2, 3, 4, 5, 6, 7] (.seq (.ops [⟨some 30, none, .bsl 23 1 1 [(.int .u16 0)] [(0, 1, (.c (.int .u16 8193)))], none⟩,
 ⟨some 31, none, .call (.f 14) [(.t 30)], none⟩,
 ⟨some 32, none, .build [(.int .i64 0), (.int .u16 0), (.int .i64 0), (.int .i64 0), (.int .i64 0), (.int .i64 0), (.int .i64 0), (.lst .clip 0 []), (.int .i64 0), (.int .i64 0), (.str ⟨#[]⟩), (.lst .clip 0 [])] [(0, 1, (.c (.int .i64 4))), (10, 1, (.t 31))], none⟩,
 ⟨some 33, none, .call (.f 13) [(.t 32)], none⟩,
 ⟨some 29, none, .mv (.t 33), none⟩,
 ⟨some 34, none, .ext 0 (.t 29), none⟩,
 ⟨some 35, none, .ext 1 (.t 29), none⟩,
 ⟨some 8, none, .new [(.int .u16 0), (.int .i64 0), (.int .i64 0), (.str ⟨#[]⟩)] [], none⟩,
 ⟨none, none, .stores 4 (.t 8) (.t 34), none⟩,
 ⟨some 9, none, .mv (.t 35), none⟩])
 (.keep [1, 2, 3, 4, 5, 6, 7, 9] (.seq (.ops [⟨some 37, none, .mv (.t 2), none⟩,
 ⟨some 38, none, .bin .add (.t 37) (.c (.str ⟨#[63]⟩)), none⟩,
 ⟨some 39, none, .call (.f 9) [(.t 38)], none⟩,
 ⟨some 36, none, .mv (.t 39), none⟩,
 ⟨some 40, none, .ext 0 (.t 36), none⟩,
 ⟨some 41, none, .ext 1 (.t 36), none⟩,
 ⟨some 10, none, .new [(.int .i64 0), (.int .u16 0), (.int .i64 0), (.int .i64 0), (.int .i64 0), (.int .i64 0), (.int .i64 0), (.lst .clip 0 []), (.int .i64 0), (.int .i64 0), (.str ⟨#[]⟩), (.lst .clip 0 [])] [], none⟩,
 ⟨none, none, .stores 12 (.t 10) (.t 40), none⟩,
 ⟨some 11, none, .mv (.t 41), none⟩])
 (.keep [1, 2, 3, 4, 5, 6, 7, 9, 11] (.seq (.ops [⟨some 42, none, .load (some 12) (.t 1), none⟩,
 ⟨some 12, none, .new [(.int .i64 0), (.int .u16 0), (.int .i64 0), (.int .i64 0), (.int .i64 0), (.int .i64 0), (.int .i64 0), (.lst .clip 0 []), (.int .i64 0), (.int .i64 0), (.str ⟨#[]⟩), (.lst .clip 0 [])] [], none⟩,
 ⟨none, none, .store 12 (.t 12) (.t 42), none⟩])
 (.keep [1, 2, 3, 4, 5, 6, 7, 9, 11, 12] (.seq (.ops [⟨some 43, none, .fld 10 (.t 12), none⟩,
 ⟨none, none, .store 1 (.t 43) (.c (.str ⟨#[120]⟩)), none⟩])
 (.keep [1, 2, 3, 4, 5, 6, 7, 9, 11, 12] (.seq (.ops [⟨some 44, none, .mv (.t 2), none⟩,
 ⟨some 45, none, .bin .eql (.t 44) (.c (.str ⟨#[3, 129, 128, 1, 3, 0, 8]⟩)), none⟩,
 ⟨some 46, none, .mv (.t 45), none⟩,
 ⟨some 47, (some (46, true)), .mv (.t 3), none⟩,
 ⟨some 48, (some (46, true)), .bin .eql (.t 47) (.c (.int .i64 0)), none⟩,
 ⟨some 49, none, .pick (.t 46) (.t 48) (.c (.bool false)), none⟩,
 ⟨some 50, none, .mv (.t 49), none⟩,
 ⟨some 51, (some (50, true)), .load (some 12) (.t 1), none⟩,
 ⟨some 52, (some (50, true)), .load (some 12) (.t 4), none⟩,
 ⟨some 53, (some (50, true)), .call (.f 10) [(.t 51), (.t 52)], none⟩,
 ⟨some 54, none, .pick (.t 50) (.t 53) (.c (.bool false)), none⟩,
 ⟨some 55, none, .mv (.t 54), none⟩,
 ⟨some 56, (some (55, true)), .load (some 12) (.t 1), none⟩,
 ⟨some 57, (some (55, true)), .load (some 12) (.t 12), none⟩,
 ⟨some 58, (some (55, true)), .call (.f 10) [(.t 56), (.t 57)], none⟩,
 ⟨some 59, (some (55, true)), .not (.t 58), none⟩,
 ⟨some 60, none, .pick (.t 55) (.t 59) (.c (.bool false)), none⟩,
 ⟨some 61, none, .mv (.t 60), none⟩,
 ⟨some 62, (some (61, true)), .mv (.t 5), none⟩,
 ⟨some 63, (some (61, true)), .bin .eql (.t 62) (.c (.int .i64 0)), none⟩,
 ⟨some 64, none, .pick (.t 61) (.t 63) (.c (.bool false)), none⟩,
 ⟨some 65, none, .mv (.t 64), none⟩,
 ⟨some 66, (some (65, true)), .load (some 4) (.t 6), none⟩,
 ⟨some 67, (some (65, true)), .mv (.t 2), none⟩,
 ⟨some 68, (some (65, true)), .build [(.int .u16 0), (.int .i64 0), (.int .i64 0), (.str ⟨#[]⟩)] [(0, 1, (.c (.int .u16 16385))), (1, 1, (.c (.int .i64 1))), (2, 1, (.c (.int .i64 3))), (3, 1, (.t 67))], none⟩,
 ⟨some 69, (some (65, true)), .ex (.aeq false [0, 0, 0, 1]) [(.t 66), (.t 68)], none⟩,
 ⟨some 70, none, .pick (.t 65) (.t 69) (.c (.bool false)), none⟩,
 ⟨some 71, none, .mv (.t 70), none⟩,
 ⟨some 72, (some (71, true)), .mv (.t 7), none⟩,
 ⟨some 73, (some (71, true)), .bin .eql (.t 72) (.c (.int .i64 0)), none⟩,
 ⟨some 74, none, .pick (.t 71) (.t 73) (.c (.bool false)), none⟩,
 ⟨some 75, none, .mv (.t 74), none⟩,
 ⟨some 76, (some (75, true)), .mv (.t 9), none⟩,
 ⟨some 77, (some (75, true)), .bin .eql (.t 76) (.c (.int .i64 1)), none⟩,
 ⟨some 78, none, .pick (.t 75) (.t 77) (.c (.bool false)), none⟩,
 ⟨some 79, none, .mv (.t 78), none⟩,
 ⟨some 80, (some (79, true)), .mv (.t 11), none⟩,
 ⟨some 81, (some (79, true)), .bin .eql (.t 80) (.c (.int .i64 2)), none⟩,
 ⟨some 82, none, .pick (.t 79) (.t 81) (.c (.bool false)), none⟩,
 ⟨some 83, none, .mv (.t 82), none⟩,
 ⟨some 84, (some (83, true)), .load (some 12) (.t 1), none⟩,
 ⟨some 85, (some (83, true)), .call (.f 12) [(.t 84)], none⟩,
 ⟨some 86, none, .pick (.t 83) (.t 85) (.c (.bool false)), none⟩,
 ⟨some 87, none, .mv (.t 86), none⟩,
 ⟨some 88, (some (87, true)), .load (some 12) (.t 12), none⟩,
 ⟨some 89, (some (87, true)), .call (.f 12) [(.t 88)], none⟩,
 ⟨some 90, (some (87, true)), .not (.t 89), none⟩,
 ⟨some 91, none, .pick (.t 87) (.t 90) (.c (.bool false)), none⟩,
 ⟨some 92, none, .mv (.t 91), none⟩,
 ⟨some 93, (some (92, true)), .build [(.int .i64 0), (.int .u16 0), (.int .i64 0), (.int .i64 0), (.int .i64 0), (.int .i64 0), (.int .i64 0), (.lst .clip 0 []), (.int .i64 0), (.int .i64 0), (.str ⟨#[]⟩), (.lst .clip 0 [])] [], none⟩,
 ⟨some 94, (some (92, true)), .call (.f 12) [(.t 93)], none⟩,
 ⟨some 95, (some (92, true)), .not (.t 94), none⟩,
 ⟨some 96, none, .pick (.t 92) (.t 95) (.c (.bool false)), none⟩,
 ⟨some 0, none, .mv (.t 96), none⟩])
 (.ret)))))))))))))))))))⟩
theorem J_law22_awake_ok : chkFn Try.prog 6 J_law22_awake = true := by kernel_rfl
def J_law22_large_j1 : ACode :=
 .keep [] (.seq (.ops [⟨some 2, none, .mv (.c (.bool false)), none⟩])
 (.ret))
def J_law22_large_j2 : ACode :=
 .seq (.ops [⟨some 64, none, .bin .lss (.t 63) (.t 62), none⟩])
 (.keep [3, 62, 63, 64] (.seq (.cond (.t 64)
 (.skip)
 (.exit 2))
 (.keep [3, 62, 63] (.seq (.block 3 (.seq (.ops [⟨some 65, none, .mv (.t 63), none⟩,
 ⟨some 5, none, .mv (.t 65), none⟩])
 (.keep [3, 5, 62, 63] (.seq (.ops [⟨some 66, none, .mv (.t 3), none⟩,
 ⟨some 67, none, .mv (.t 5), none⟩,
 ⟨some 68, none, .idxa 1 (.t 66) (.t 67), none⟩,
 ⟨some 69, none, .load none (.t 68), none⟩,
 ⟨some 70, none, .lens (.t 69), none⟩,
 ⟨some 71, none, .bin .gtr (.t 70) (.c (.int .i64 100)), none⟩])
 (.keep [3, 62, 63, 71] (.cond (.t 71)
 (.seq (.ops [⟨some 2, none, .mv (.c (.bool true)), none⟩])
 (.ret))
 (.skip)))))))
 (.keep [3, 62, 63] (.ops [⟨some 72, none, .bin .add (.t 63) (.c (.int .i64 1)), none⟩,
 ⟨some 63, none, .mv (.t 72), none⟩]))))))
def J_law22_large_j3 : ACode :=
 .keep [3] (.seq (.seq (.ops [⟨some 61, none, .mv (.t 3), none⟩,
 ⟨some 62, none, .lenl (.t 61), none⟩,
 ⟨some 63, none, .mv (.c (.int .i64 0)), none⟩])
 (.keep [3, 62, 63] (.block 2 (.loop [3, 62, 63] (J_law22_large_j2)))))
 (J_law22_large_j1))
def J_law22_large_j4 : ACode :=
 .seq (.ops [⟨some 34, none, .bin .lss (.t 33) (.t 32), none⟩])
 (.keep [1, 3, 32, 33, 34] (.seq (.cond (.t 34)
 (.skip)
 (.exit 0))
 (.keep [1, 3, 32, 33] (.seq (.block 1 (.seq (.ops [⟨some 35, none, .mv (.t 33), none⟩,
 ⟨some 4, none, .mv (.t 35), none⟩])
 (.keep [1, 3, 4, 32, 33] (.seq (.seq (.ops [⟨some 36, none, .fld 11 (.t 1), none⟩,
 ⟨some 37, none, .load none (.t 36), none⟩,
 ⟨some 38, none, .mv (.t 4), none⟩,
 ⟨some 39, none, .idxa 7 (.t 37) (.t 38), none⟩,
 ⟨some 40, none, .fld 3 (.t 39), none⟩,
 ⟨some 41, none, .load none (.t 40), none⟩,
 ⟨some 42, none, .lenl (.t 41), none⟩,
 ⟨some 43, none, .bin .gtr (.t 42) (.c (.int .i64 30)), none⟩])
 (.keep [1, 3, 4, 32, 33, 43] (.cond (.t 43)
 (.seq (.ops [⟨some 2, none, .mv (.c (.bool true)), none⟩])
 (.ret))
 (.skip))))
 (.keep [1, 3, 4, 32, 33] (.draw [1, 3, 32, 33] [⟨some 44, none, .mvo 3, none⟩,
 ⟨some 45, none, .fld 11 (.t 1), none⟩,
 ⟨some 46, none, .load none (.t 45), none⟩,
 ⟨some 47, none, .mv (.t 4), none⟩,
 ⟨some 48, none, .idxa 7 (.t 46) (.t 47), none⟩,
 ⟨some 49, none, .fld 2 (.t 48), none⟩,
 ⟨some 50, none, .load none (.t 49), none⟩,
 ⟨some 51, none, .bsl 31 1 1 [(.str ⟨#[]⟩)] [(0, 1, (.t 50))], none⟩,
 ⟨some 52, none, .appo 31 1 16 44 (.t 51), none⟩,
 ⟨some 53, none, .fld 11 (.t 1), none⟩,
 ⟨some 54, none, .load none (.t 53), none⟩,
 ⟨some 55, none, .mv (.t 4), none⟩,
 ⟨some 56, none, .idxa 7 (.t 54) (.t 55), none⟩,
 ⟨some 57, none, .fld 3 (.t 56), none⟩,
 ⟨some 58, none, .load none (.t 57), none⟩,
 ⟨some 59, none, .appo 31 1 16 52 (.t 58), none⟩,
 ⟨some 3, none, .mvo 59, none⟩]))))))
 (.keep [1, 3, 32, 33] (.ops [⟨some 60, none, .bin .add (.t 33) (.c (.int .i64 1)), none⟩,
 ⟨some 33, none, .mv (.t 60), none⟩]))))))
def J_law22_large : AFn :=
 ⟨73, [.t 2], .seq (.ops [⟨some 1, none, .box (.t 0) [], none⟩,
 ⟨some 2, none, .mv (.c (.bool false)), none⟩])
 (.keep [1] (.seq (.seq (.ops [⟨some 6, none, .fld 10 (.t 1), none⟩,
 ⟨some 7, none, .load none (.t 6), none⟩,
 ⟨some 8, none, .lens (.t 7), none⟩,
 ⟨some 9, none, .bin .gtr (.t 8) (.c (.int .i64 100)), none⟩,
 ⟨some 10, none, .mv (.t 9), none⟩,
 ⟨some 11, (some (10, false)), .fld 3 (.t 1), none⟩,
 ⟨some 12, (some (10, false)), .fld 3 (.t 11), none⟩,
 ⟨some 13, (some (10, false)), .fld 1 (.t 12), none⟩,
 ⟨some 14, (some (10, false)), .load none (.t 13), none⟩,
 ⟨some 15, (some (10, false)), .lenl (.t 14), none⟩,
 ⟨some 16, (some (10, false)), .bin .gtr (.t 15) (.c (.int .i64 30)), none⟩,
 ⟨some 17, none, .pick (.t 10) (.c (.bool true)) (.t 16), none⟩,
 ⟨some 18, none, .mv (.t 17), none⟩,
 ⟨some 19, (some (18, false)), .fld 11 (.t 1), none⟩,
 ⟨some 20, (some (18, false)), .load none (.t 19), none⟩,
 ⟨some 21, (some (18, false)), .lenl (.t 20), none⟩,
 ⟨some 22, (some (18, false)), .bin .gtr (.t 21) (.c (.int .i64 12)), none⟩,
 ⟨some 23, none, .pick (.t 18) (.c (.bool true)) (.t 22), none⟩])
 (.keep [1, 23] (.cond (.t 23)
 (.seq (.ops [⟨some 2, none, .mv (.c (.bool true)), none⟩])
 (.ret))
 (.skip))))
 (.keep [1] (.seq (.ops [⟨some 24, none, .bsl 31 1 0 [] [], none⟩,
 ⟨some 25, none, .fld 3 (.t 1), none⟩,
 ⟨some 26, none, .fld 3 (.t 25), none⟩,
 ⟨some 27, none, .fld 1 (.t 26), none⟩,
 ⟨some 28, none, .load none (.t 27), none⟩,
 ⟨some 29, none, .appo 31 1 16 24 (.t 28), none⟩,
 ⟨some 3, none, .mvo 29, none⟩])
 (.keep [1, 3] (.seq (.seq (.ops [⟨some 30, none, .fld 11 (.t 1), none⟩,
 ⟨some 31, none, .load none (.t 30), none⟩,
 ⟨some 32, none, .lenl (.t 31), none⟩,
 ⟨some 33, none, .mv (.c (.int .i64 0)), none⟩])
 (.keep [1, 3, 32, 33] (.block 0 (.loop [1, 3, 32, 33] (J_law22_large_j4)))))
 (J_law22_large_j3)))))))⟩
theorem J_law22_large_ok : chkFn Try.prog 7 J_law22_large = true := by kernel_rfl
def J_letter_Encode : AFn :=
 ⟨25, [.t 2, .t 3], .seq (.ops [⟨some 1, none, .box (.t 0) [], none⟩,
 ⟨some 2, none, .mv (.c (.str ⟨#[]⟩)), none⟩,
 ⟨some 3, none, .mv (.c (.int .i64 0)), none⟩])
 (.keep [1] (.seq (.seq (.ops [⟨some 7, none, .load (some 12) (.t 1), none⟩,
 ⟨some 8, none, .call (.f 15) [(.t 7)], none⟩,
 ⟨some 9, none, .not (.t 8), none⟩])
 (.keep [1, 9] (.cond (.t 9)
 (.seq (.ops [⟨some 2, none, .mv (.c (.str ⟨#[]⟩)), none⟩,
 ⟨some 3, none, .mv (.c (.int .i64 2)), none⟩])
 (.ret))
 (.skip))))
 (.keep [1] (.seq (.ops [⟨some 4, none, .new [(.int .i64 0), (.lst .clip 0 [])] [(1, 5, 1)], none⟩])
 (.keep [1, 4] (.seq (.ops [⟨some 10, none, .ex (.mkb 17) [(.t 4)], none⟩,
 ⟨some 11, none, .load (some 12) (.t 1), none⟩,
 ⟨some 12, none, .call (.f 16) [(.t 4), (.t 10), (.t 11)], none⟩])
 (.keep [4] (.seq (.ops [⟨some 14, none, .call (.f 18) [(.t 4)], none⟩,
 ⟨some 13, none, .mv (.t 14), none⟩,
 ⟨some 15, none, .ext 0 (.t 13), none⟩,
 ⟨some 16, none, .ext 1 (.t 13), none⟩,
 ⟨some 5, none, .mv (.t 15), none⟩,
 ⟨some 6, none, .mv (.t 16), none⟩])
 (.keep [5, 6] (.seq (.seq (.ops [⟨some 17, none, .mv (.t 6), none⟩,
 ⟨some 18, none, .bin .neq (.t 17) (.c (.int .i64 0)), none⟩,
 ⟨some 19, none, .mv (.t 18), none⟩,
 ⟨some 20, (some (19, false)), .mv (.t 5), none⟩,
 ⟨some 21, (some (19, false)), .lens (.t 20), none⟩,
 ⟨some 22, (some (19, false)), .bin .gtr (.t 21) (.c (.int .i64 4000)), none⟩,
 ⟨some 23, none, .pick (.t 19) (.c (.bool true)) (.t 22), none⟩])
 (.keep [5, 23] (.cond (.t 23)
 (.seq (.ops [⟨some 2, none, .mv (.c (.str ⟨#[]⟩)), none⟩,
 ⟨some 3, none, .mv (.c (.int .i64 2)), none⟩])
 (.ret))
 (.skip))))
 (.keep [5] (.seq (.ops [⟨some 24, none, .mv (.t 5), none⟩,
 ⟨some 2, none, .mv (.t 24), none⟩,
 ⟨some 3, none, .mv (.c (.int .i64 0)), none⟩])
 (.ret)))))))))))))⟩
theorem J_letter_Encode_ok : chkFn Try.prog 8 J_letter_Encode = true := by kernel_rfl
def J_letter_Decode : AFn :=
 ⟨34, [.c 2 (some 12), .t 3], .seq (.ops [⟨some 2, none, .new [(.int .i64 0), (.int .u16 0), (.int .i64 0), (.int .i64 0), (.int .i64 0), (.int .i64 0), (.int .i64 0), (.lst .clip 0 []), (.int .i64 0), (.int .i64 0), (.str ⟨#[]⟩), (.lst .clip 0 [])] [], none⟩,
 ⟨some 3, none, .mv (.c (.int .i64 0)), none⟩])
 (.keep [0, 2] (.seq (.seq (.ops [⟨some 7, none, .mv (.t 0), none⟩,
 ⟨some 8, none, .lens (.t 7), none⟩,
 ⟨some 9, none, .bin .gtr (.t 8) (.c (.int .i64 4000)), none⟩])
 (.keep [0, 2, 9] (.cond (.t 9)
 (.seq (.ops [⟨some 10, none, .build [(.int .i64 0), (.int .u16 0), (.int .i64 0), (.int .i64 0), (.int .i64 0), (.int .i64 0), (.int .i64 0), (.lst .clip 0 []), (.int .i64 0), (.int .i64 0), (.str ⟨#[]⟩), (.lst .clip 0 [])] [], none⟩,
 ⟨none, none, .store 12 (.t 2) (.t 10), none⟩,
 ⟨some 3, none, .mv (.c (.int .i64 2)), none⟩])
 (.ret))
 (.skip))))
 (.keep [0, 2] (.seq (.ops [⟨some 11, none, .mv (.t 0), none⟩,
 ⟨some 12, none, .call (.f 19) [(.t 11)], none⟩,
 ⟨some 4, none, .mv (.t 12), none⟩])
 (.keep [2, 4] (.seq (.ops [⟨some 14, none, .mv (.t 4), none⟩,
 ⟨some 15, none, .mv (.t 4), none⟩,
 ⟨some 16, none, .ex (.mkb 21) [(.t 15)], none⟩,
 ⟨some 17, none, .call (.f 20) [(.t 14), (.t 16)], none⟩,
 ⟨some 13, none, .mv (.t 17), none⟩,
 ⟨some 18, none, .ext 0 (.t 13), none⟩,
 ⟨some 19, none, .ext 1 (.t 13), none⟩,
 ⟨some 5, none, .new [(.int .i64 0), (.int .u16 0), (.int .i64 0), (.int .i64 0), (.int .i64 0), (.int .i64 0), (.int .i64 0), (.lst .clip 0 []), (.int .i64 0), (.int .i64 0), (.str ⟨#[]⟩), (.lst .clip 0 [])] [], none⟩,
 ⟨none, none, .stores 12 (.t 5) (.t 18), none⟩,
 ⟨some 6, none, .mv (.t 19), none⟩])
 (.keep [2, 4, 5, 6] (.seq (.seq (.ops [⟨some 20, none, .mv (.t 6), none⟩,
 ⟨some 21, none, .not (.t 20), none⟩,
 ⟨some 22, none, .mv (.t 21), none⟩,
 ⟨some 23, (some (22, false)), .mv (.t 4), none⟩,
 ⟨some 24, (some (22, false)), .call (.f 22) [(.t 23)], none⟩,
 ⟨some 25, (some (22, false)), .bin .neq (.t 24) (.c (.int .i64 0)), none⟩,
 ⟨some 26, none, .pick (.t 22) (.c (.bool true)) (.t 25), none⟩,
 ⟨some 27, none, .mv (.t 26), none⟩,
 ⟨some 28, (some (27, false)), .load (some 12) (.t 5), none⟩,
 ⟨some 29, (some (27, false)), .call (.f 12) [(.t 28)], none⟩,
 ⟨some 30, (some (27, false)), .not (.t 29), none⟩,
 ⟨some 31, none, .pick (.t 27) (.c (.bool true)) (.t 30), none⟩])
 (.keep [2, 5, 31] (.cond (.t 31)
 (.seq (.ops [⟨some 32, none, .build [(.int .i64 0), (.int .u16 0), (.int .i64 0), (.int .i64 0), (.int .i64 0), (.int .i64 0), (.int .i64 0), (.lst .clip 0 []), (.int .i64 0), (.int .i64 0), (.str ⟨#[]⟩), (.lst .clip 0 [])] [], none⟩,
 ⟨none, none, .store 12 (.t 2) (.t 32), none⟩,
 ⟨some 3, none, .mv (.c (.int .i64 2)), none⟩])
 (.ret))
 (.skip))))
 (.keep [2, 5] (.seq (.ops [⟨some 33, none, .load (some 12) (.t 5), none⟩,
 ⟨none, none, .store 12 (.t 2) (.t 33), none⟩,
 ⟨some 3, none, .mv (.c (.int .i64 0)), none⟩])
 (.ret)))))))))))⟩
theorem J_letter_Decode_ok : chkFn Try.prog 9 J_letter_Decode = true := by kernel_rfl
def J_letter_Same : AFn :=
 ⟨59, [.t 4], .seq (.ops [⟨some 2, none, .box (.t 0) [], none⟩,
 ⟨some 3, none, .box (.t 1) [], none⟩,
 ⟨some 4, none, .mv (.c (.bool false)), none⟩])
 (.keep [2, 3] (.seq (.ops [⟨some 5, none, .fld 0 (.t 2), none⟩,
 ⟨some 6, none, .load none (.t 5), none⟩,
 ⟨some 7, none, .fld 0 (.t 3), none⟩,
 ⟨some 8, none, .load none (.t 7), none⟩,
 ⟨some 9, none, .bin .eql (.t 6) (.t 8), none⟩,
 ⟨some 10, none, .mv (.t 9), none⟩,
 ⟨some 11, (some (10, true)), .fld 1 (.t 2), none⟩,
 ⟨some 12, (some (10, true)), .load none (.t 11), none⟩,
 ⟨some 13, (some (10, true)), .fld 1 (.t 3), none⟩,
 ⟨some 14, (some (10, true)), .load none (.t 13), none⟩,
 ⟨some 15, (some (10, true)), .bin .eql (.t 12) (.t 14), none⟩,
 ⟨some 16, none, .pick (.t 10) (.t 15) (.c (.bool false)), none⟩,
 ⟨some 17, none, .mv (.t 16), none⟩,
 ⟨some 18, (some (17, true)), .fld 2 (.t 2), none⟩,
 ⟨some 19, (some (17, true)), .load none (.t 18), none⟩,
 ⟨some 20, (some (17, true)), .fld 2 (.t 3), none⟩,
 ⟨some 21, (some (17, true)), .load none (.t 20), none⟩,
 ⟨some 22, (some (17, true)), .bin .eql (.t 19) (.t 21), none⟩,
 ⟨some 23, none, .pick (.t 17) (.t 22) (.c (.bool false)), none⟩,
 ⟨some 24, none, .mv (.t 23), none⟩,
 ⟨some 25, (some (24, true)), .fld 8 (.t 2), none⟩,
 ⟨some 26, (some (24, true)), .load none (.t 25), none⟩,
 ⟨some 27, (some (24, true)), .fld 8 (.t 3), none⟩,
 ⟨some 28, (some (24, true)), .load none (.t 27), none⟩,
 ⟨some 29, (some (24, true)), .bin .eql (.t 26) (.t 28), none⟩,
 ⟨some 30, none, .pick (.t 24) (.t 29) (.c (.bool false)), none⟩,
 ⟨some 31, none, .mv (.t 30), none⟩,
 ⟨some 32, (some (31, true)), .fld 9 (.t 2), none⟩,
 ⟨some 33, (some (31, true)), .load none (.t 32), none⟩,
 ⟨some 34, (some (31, true)), .fld 9 (.t 3), none⟩,
 ⟨some 35, (some (31, true)), .load none (.t 34), none⟩,
 ⟨some 36, (some (31, true)), .bin .eql (.t 33) (.t 35), none⟩,
 ⟨some 37, none, .pick (.t 31) (.t 36) (.c (.bool false)), none⟩,
 ⟨some 38, none, .mv (.t 37), none⟩,
 ⟨some 39, (some (38, true)), .fld 10 (.t 2), none⟩,
 ⟨some 40, (some (38, true)), .load none (.t 39), none⟩,
 ⟨some 41, (some (38, true)), .fld 10 (.t 3), none⟩,
 ⟨some 42, (some (38, true)), .load none (.t 41), none⟩,
 ⟨some 43, (some (38, true)), .bin .eql (.t 40) (.t 42), none⟩,
 ⟨some 44, none, .pick (.t 38) (.t 43) (.c (.bool false)), none⟩,
 ⟨some 45, none, .mv (.t 44), none⟩,
 ⟨some 46, (some (45, true)), .fld 3 (.t 2), none⟩,
 ⟨some 47, (some (45, true)), .load (some 5) (.t 46), none⟩,
 ⟨some 48, (some (45, true)), .fld 3 (.t 3), none⟩,
 ⟨some 49, (some (45, true)), .load (some 5) (.t 48), none⟩,
 ⟨some 50, (some (45, true)), .call (.f 23) [(.t 47), (.t 49)], none⟩,
 ⟨some 51, none, .pick (.t 45) (.t 50) (.c (.bool false)), none⟩,
 ⟨some 52, none, .mv (.t 51), none⟩,
 ⟨some 53, (some (52, true)), .fld 11 (.t 2), none⟩,
 ⟨some 54, (some (52, true)), .load none (.t 53), none⟩,
 ⟨some 55, (some (52, true)), .fld 11 (.t 3), none⟩,
 ⟨some 56, (some (52, true)), .load none (.t 55), none⟩,
 ⟨some 57, (some (52, true)), .call (.f 24) [(.t 54), (.t 56), (.f 25)], none⟩,
 ⟨some 58, none, .pick (.t 52) (.t 57) (.c (.bool false)), none⟩,
 ⟨some 4, none, .mv (.t 58), none⟩])
 (.ret)))⟩
theorem J_letter_Same_ok : chkFn Try.prog 10 J_letter_Same = true := by kernel_rfl
def J_ref22_Same_j1 : ACode :=
 .keep [] (.seq (.ops [⟨some 4, none, .mv (.c (.bool true)), none⟩])
 (.ret))
def J_ref22_Same_j2 : ACode :=
 .seq (.seq (.ops [⟨some 105, none, .mv (.t 5), none⟩,
 ⟨some 106, none, .fld 11 (.t 2), none⟩,
 ⟨some 107, none, .load none (.t 106), none⟩,
 ⟨some 108, none, .lenl (.t 107), none⟩,
 ⟨some 109, none, .bin .lss (.t 105) (.t 108), none⟩])
 (.keep [2, 3, 5, 109] (.cond (.t 109)
 (.skip)
 (.exit 0))))
 (.keep [2, 3, 5] (.seq (.block 1 (.seq (.draw [2, 3, 5, 123] [⟨some 112, none, .fld 11 (.t 2), none⟩,
 ⟨some 113, none, .load none (.t 112), none⟩,
 ⟨some 114, none, .mv (.t 5), none⟩,
 ⟨some 115, none, .idxa 7 (.t 113) (.t 114), none⟩,
 ⟨some 116, none, .load (some 7) (.t 115), none⟩,
 ⟨some 117, none, .fld 11 (.t 3), none⟩,
 ⟨some 118, none, .load none (.t 117), none⟩,
 ⟨some 119, none, .mv (.t 5), none⟩,
 ⟨some 120, none, .idxa 7 (.t 118) (.t 119), none⟩,
 ⟨some 121, none, .load (some 7) (.t 120), none⟩,
 ⟨some 122, none, .call (.f 27) [(.t 116), (.t 121)], none⟩,
 ⟨some 123, none, .not (.t 122), none⟩])
 (.keep [2, 3, 5, 123] (.cond (.t 123)
 (.seq (.ops [⟨some 4, none, .mv (.c (.bool false)), none⟩])
 (.ret))
 (.skip)))))
 (.keep [2, 3, 5] (.ops [⟨some 110, none, .mv (.t 5), none⟩,
 ⟨some 111, none, .bin .add (.t 110) (.c (.int .i64 1)), none⟩,
 ⟨some 5, none, .mv (.t 111), none⟩]))))
def J_ref22_Same : AFn :=
 ⟨124, [.t 4], .seq (.ops [⟨some 2, none, .box (.t 0) [], none⟩,
 ⟨some 3, none, .box (.t 1) [], none⟩,
 ⟨some 4, none, .mv (.c (.bool false)), none⟩])
 (.keep [2, 3] (.seq (.seq (.ops [⟨some 6, none, .fld 0 (.t 2), none⟩,
 ⟨some 7, none, .load none (.t 6), none⟩,
 ⟨some 8, none, .fld 0 (.t 3), none⟩,
 ⟨some 9, none, .load none (.t 8), none⟩,
 ⟨some 10, none, .bin .neq (.t 7) (.t 9), none⟩,
 ⟨some 11, none, .mv (.t 10), none⟩,
 ⟨some 12, (some (11, false)), .fld 1 (.t 2), none⟩,
 ⟨some 13, (some (11, false)), .load none (.t 12), none⟩,
 ⟨some 14, (some (11, false)), .fld 1 (.t 3), none⟩,
 ⟨some 15, (some (11, false)), .load none (.t 14), none⟩,
 ⟨some 16, (some (11, false)), .bin .neq (.t 13) (.t 15), none⟩,
 ⟨some 17, none, .pick (.t 11) (.c (.bool true)) (.t 16), none⟩,
 ⟨some 18, none, .mv (.t 17), none⟩,
 ⟨some 19, (some (18, false)), .fld 2 (.t 2), none⟩,
 ⟨some 20, (some (18, false)), .load none (.t 19), none⟩,
 ⟨some 21, (some (18, false)), .fld 2 (.t 3), none⟩,
 ⟨some 22, (some (18, false)), .load none (.t 21), none⟩,
 ⟨some 23, (some (18, false)), .bin .neq (.t 20) (.t 22), none⟩,
 ⟨some 24, none, .pick (.t 18) (.c (.bool true)) (.t 23), none⟩,
 ⟨some 25, none, .mv (.t 24), none⟩,
 ⟨some 26, (some (25, false)), .fld 3 (.t 2), none⟩,
 ⟨some 27, (some (25, false)), .fld 0 (.t 26), none⟩,
 ⟨some 28, (some (25, false)), .load none (.t 27), none⟩,
 ⟨some 29, (some (25, false)), .fld 3 (.t 3), none⟩,
 ⟨some 30, (some (25, false)), .fld 0 (.t 29), none⟩,
 ⟨some 31, (some (25, false)), .load none (.t 30), none⟩,
 ⟨some 32, (some (25, false)), .bin .neq (.t 28) (.t 31), none⟩,
 ⟨some 33, none, .pick (.t 25) (.c (.bool true)) (.t 32), none⟩,
 ⟨some 34, none, .mv (.t 33), none⟩,
 ⟨some 35, (some (34, false)), .fld 3 (.t 2), none⟩,
 ⟨some 36, (some (34, false)), .fld 1 (.t 35), none⟩,
 ⟨some 37, (some (34, false)), .load none (.t 36), none⟩,
 ⟨some 38, (some (34, false)), .fld 3 (.t 3), none⟩,
 ⟨some 39, (some (34, false)), .fld 1 (.t 38), none⟩,
 ⟨some 40, (some (34, false)), .load none (.t 39), none⟩,
 ⟨some 41, (some (34, false)), .bin .neq (.t 37) (.t 40), none⟩,
 ⟨some 42, none, .pick (.t 34) (.c (.bool true)) (.t 41), none⟩,
 ⟨some 43, none, .mv (.t 42), none⟩,
 ⟨some 44, (some (43, false)), .fld 3 (.t 2), none⟩,
 ⟨some 45, (some (43, false)), .fld 2 (.t 44), none⟩,
 ⟨some 46, (some (43, false)), .load none (.t 45), none⟩,
 ⟨some 47, (some (43, false)), .fld 3 (.t 3), none⟩,
 ⟨some 48, (some (43, false)), .fld 2 (.t 47), none⟩,
 ⟨some 49, (some (43, false)), .load none (.t 48), none⟩,
 ⟨some 50, (some (43, false)), .bin .neq (.t 46) (.t 49), none⟩,
 ⟨some 51, none, .pick (.t 43) (.c (.bool true)) (.t 50), none⟩,
 ⟨some 52, none, .mv (.t 51), none⟩,
 ⟨some 53, (some (52, false)), .fld 3 (.t 2), none⟩,
 ⟨some 54, (some (52, false)), .fld 3 (.t 53), none⟩,
 ⟨some 55, (some (52, false)), .fld 0 (.t 54), none⟩,
 ⟨some 56, (some (52, false)), .load none (.t 55), none⟩,
 ⟨some 57, (some (52, false)), .fld 3 (.t 3), none⟩,
 ⟨some 58, (some (52, false)), .fld 3 (.t 57), none⟩,
 ⟨some 59, (some (52, false)), .fld 0 (.t 58), none⟩,
 ⟨some 60, (some (52, false)), .load none (.t 59), none⟩,
 ⟨some 61, (some (52, false)), .bin .neq (.t 56) (.t 60), none⟩,
 ⟨some 62, none, .pick (.t 52) (.c (.bool true)) (.t 61), none⟩,
 ⟨some 63, none, .mv (.t 62), none⟩,
 ⟨some 64, (some (63, false)), .fld 3 (.t 2), none⟩,
 ⟨some 65, (some (63, false)), .fld 3 (.t 64), none⟩,
 ⟨some 66, (some (63, false)), .fld 1 (.t 65), none⟩,
 ⟨some 67, (some (63, false)), .load none (.t 66), none⟩,
 ⟨some 68, (some (63, false)), .fld 3 (.t 3), none⟩,
 ⟨some 69, (some (63, false)), .fld 3 (.t 68), none⟩,
 ⟨some 70, (some (63, false)), .fld 1 (.t 69), none⟩,
 ⟨some 71, (some (63, false)), .load none (.t 70), none⟩,
 ⟨some 72, (some (63, false)), .call (.f 26) [(.t 67), (.t 71)], none⟩,
 ⟨some 73, (some (63, false)), .not (.t 72), none⟩,
 ⟨some 74, none, .pick (.t 63) (.c (.bool true)) (.t 73), none⟩,
 ⟨some 75, none, .mv (.t 74), none⟩,
 ⟨some 76, (some (75, false)), .fld 8 (.t 2), none⟩,
 ⟨some 77, (some (75, false)), .load none (.t 76), none⟩,
 ⟨some 78, (some (75, false)), .fld 8 (.t 3), none⟩,
 ⟨some 79, (some (75, false)), .load none (.t 78), none⟩,
 ⟨some 80, (some (75, false)), .bin .neq (.t 77) (.t 79), none⟩,
 ⟨some 81, none, .pick (.t 75) (.c (.bool true)) (.t 80), none⟩,
 ⟨some 82, none, .mv (.t 81), none⟩,
 ⟨some 83, (some (82, false)), .fld 9 (.t 2), none⟩,
 ⟨some 84, (some (82, false)), .load none (.t 83), none⟩,
 ⟨some 85, (some (82, false)), .fld 9 (.t 3), none⟩,
 ⟨some 86, (some (82, false)), .load none (.t 85), none⟩,
 ⟨some 87, (some (82, false)), .bin .neq (.t 84) (.t 86), none⟩,
 ⟨some 88, none, .pick (.t 82) (.c (.bool true)) (.t 87), none⟩,
 ⟨some 89, none, .mv (.t 88), none⟩,
 ⟨some 90, (some (89, false)), .fld 10 (.t 2), none⟩,
 ⟨some 91, (some (89, false)), .load none (.t 90), none⟩,
 ⟨some 92, (some (89, false)), .fld 10 (.t 3), none⟩,
 ⟨some 93, (some (89, false)), .load none (.t 92), none⟩,
 ⟨some 94, (some (89, false)), .bin .neq (.t 91) (.t 93), none⟩,
 ⟨some 95, none, .pick (.t 89) (.c (.bool true)) (.t 94), none⟩,
 ⟨some 96, none, .mv (.t 95), none⟩,
 ⟨some 97, (some (96, false)), .fld 11 (.t 2), none⟩,
 ⟨some 98, (some (96, false)), .load none (.t 97), none⟩,
 ⟨some 99, (some (96, false)), .lenl (.t 98), none⟩,
 ⟨some 100, (some (96, false)), .fld 11 (.t 3), none⟩,
 ⟨some 101, (some (96, false)), .load none (.t 100), none⟩,
 ⟨some 102, (some (96, false)), .lenl (.t 101), none⟩,
 ⟨some 103, (some (96, false)), .bin .neq (.t 99) (.t 102), none⟩,
 ⟨some 104, none, .pick (.t 96) (.c (.bool true)) (.t 103), none⟩])
 (.keep [2, 3, 104] (.cond (.t 104)
 (.seq (.ops [⟨some 4, none, .mv (.c (.bool false)), none⟩])
 (.ret))
 (.skip))))
 (.keep [2, 3] (.seq (.seq (.ops [⟨some 5, none, .mv (.c (.int .i64 0)), none⟩])
 (.keep [2, 3, 5] (.block 0 (.loop [2, 3, 5] (J_ref22_Same_j2)))))
 (J_ref22_Same_j1)))))⟩
theorem J_ref22_Same_ok : chkFn Try.prog 11 J_ref22_Same = true := by kernel_rfl
def J_letter_May : AFn :=
 ⟨12, [.t 2], .seq (.ops [⟨some 1, none, .box (.t 0) [], none⟩,
 ⟨some 2, none, .mv (.c (.bool false)), none⟩])
 (.keep [1] (.seq (.ops [⟨some 6, none, .load (some 12) (.t 1), none⟩,
 ⟨some 7, none, .call (.f 8) [(.t 6)], none⟩,
 ⟨some 5, none, .mv (.t 7), none⟩,
 ⟨some 8, none, .ext 0 (.t 5), none⟩,
 ⟨some 9, none, .ext 1 (.t 5), none⟩,
 ⟨some 3, none, .mv (.t 8), none⟩,
 ⟨some 4, none, .mv (.t 9), none⟩])
 (.keep [4] (.seq (.ops [⟨some 10, none, .mv (.t 4), none⟩,
 ⟨some 11, none, .bin .eql (.t 10) (.c (.int .i64 0)), none⟩,
 ⟨some 2, none, .mv (.t 11), none⟩])
 (.ret)))))⟩
theorem J_letter_May_ok : chkFn Try.prog 12 J_letter_May = true := by kernel_rfl
def J_letter_Mac_j1 : ACode :=
 .keep [1, 2, 4, 6] (.seq (.ops [⟨some 28, none, .fld 1 (.t 1), none⟩,
 ⟨some 29, none, .load none (.t 28), none⟩,
 ⟨some 30, none, .mv (.t 6), none⟩,
 ⟨some 31, none, .fld 2 (.t 1), none⟩,
 ⟨some 32, none, .load none (.t 31), none⟩,
 ⟨some 33, none, .mv (.t 4), none⟩,
 ⟨some 34, none, .build [(.int .u16 0), (.int .i64 0), (.int .i64 0), (.str ⟨#[]⟩)] [(0, 1, (.t 29)), (1, 1, (.t 30)), (2, 1, (.t 32)), (3, 1, (.t 33))], none⟩,
 ⟨none, none, .store 4 (.t 2) (.t 34), none⟩,
 ⟨some 3, none, .mv (.c (.int .i64 0)), none⟩])
 (.ret))
def J_letter_Mac : AFn :=
 ⟨35, [.c 2 (some 4), .t 3], .seq (.ops [⟨some 1, none, .box (.t 0) [], none⟩,
 ⟨some 2, none, .new [(.int .u16 0), (.int .i64 0), (.int .i64 0), (.str ⟨#[]⟩)] [], none⟩,
 ⟨some 3, none, .mv (.c (.int .i64 0)), none⟩])
 (.keep [1, 2] (.seq (.seq (.ops [⟨some 7, none, .fld 0 (.t 1), none⟩,
 ⟨some 8, none, .load none (.t 7), none⟩,
 ⟨some 9, none, .bin .neq (.t 8) (.c (.int .i64 2)), none⟩,
 ⟨some 10, none, .mv (.t 9), none⟩,
 ⟨some 11, (some (10, true)), .fld 0 (.t 1), none⟩,
 ⟨some 12, (some (10, true)), .load none (.t 11), none⟩,
 ⟨some 13, (some (10, true)), .bin .neq (.t 12) (.c (.int .i64 3)), none⟩,
 ⟨some 14, none, .pick (.t 10) (.t 13) (.c (.bool false)), none⟩])
 (.keep [1, 2, 14] (.cond (.t 14)
 (.seq (.ops [⟨some 15, none, .build [(.int .u16 0), (.int .i64 0), (.int .i64 0), (.str ⟨#[]⟩)] [], none⟩,
 ⟨none, none, .store 4 (.t 2) (.t 15), none⟩,
 ⟨some 3, none, .mv (.c (.int .i64 1)), none⟩])
 (.ret))
 (.skip))))
 (.keep [1, 2] (.seq (.ops [⟨some 17, none, .load (some 12) (.t 1), none⟩,
 ⟨some 18, none, .call (.f 8) [(.t 17)], none⟩,
 ⟨some 16, none, .mv (.t 18), none⟩,
 ⟨some 19, none, .ext 0 (.t 16), none⟩,
 ⟨some 20, none, .ext 1 (.t 16), none⟩,
 ⟨some 4, none, .mv (.t 19), none⟩,
 ⟨some 5, none, .mv (.t 20), none⟩])
 (.keep [1, 2, 4, 5] (.seq (.seq (.ops [⟨some 21, none, .mv (.t 5), none⟩,
 ⟨some 22, none, .bin .neq (.t 21) (.c (.int .i64 0)), none⟩])
 (.keep [1, 2, 4, 5, 22] (.cond (.t 22)
 (.seq (.ops [⟨some 23, none, .build [(.int .u16 0), (.int .i64 0), (.int .i64 0), (.str ⟨#[]⟩)] [], none⟩,
 ⟨some 24, none, .mv (.t 5), none⟩,
 ⟨none, none, .store 4 (.t 2) (.t 23), none⟩,
 ⟨some 3, none, .mv (.t 24), none⟩])
 (.ret))
 (.skip))))
 (.keep [1, 2, 4] (.seq (.ops [⟨some 6, none, .mv (.c (.int .i64 0)), none⟩])
 (.keep [1, 2, 4, 6] (.seq (.seq (.ops [⟨some 25, none, .fld 0 (.t 1), none⟩,
 ⟨some 26, none, .load none (.t 25), none⟩,
 ⟨some 27, none, .bin .eql (.t 26) (.c (.int .i64 3)), none⟩])
 (.keep [1, 2, 4, 6, 27] (.cond (.t 27)
 (.ops [⟨some 6, none, .mv (.c (.int .i64 1)), none⟩])
 (.skip))))
 (J_letter_Mac_j1)))))))))))⟩
theorem J_letter_Mac_ok : chkFn Try.prog 13 J_letter_Mac = true := by kernel_rfl
def J_letter_right : AFn :=
 ⟨99, [.t 2], .seq (.ops [⟨some 1, none, .box (.t 0) [], none⟩,
 ⟨some 2, none, .mv (.c (.bool false)), none⟩])
 (.keep [1] (.seq (.ops [⟨some 4, none, .load (some 12) (.t 1), none⟩,
 ⟨some 3, none, .new [(.int .i64 0), (.int .u16 0), (.int .i64 0), (.int .i64 0), (.int .i64 0), (.int .i64 0), (.int .i64 0), (.lst .clip 0 []), (.int .i64 0), (.int .i64 0), (.str ⟨#[]⟩), (.lst .clip 0 [])] [], none⟩,
 ⟨none, none, .store 12 (.t 3) (.t 4), none⟩])
 (.keep [1, 3] (.seq (.seq (.ops [⟨some 5, none, .fld 0 (.t 1), none⟩,
 ⟨some 6, none, .load none (.t 5), none⟩])
 (.keep [1, 3, 6] (.block 0 (.seq (.ops [⟨some 8, none, .bin .eql (.t 6) (.c (.int .i64 1)), none⟩,
 ⟨some 7, none, .mv (.t 8), none⟩])
 (.keep [1, 3, 6, 7] (.cond (.t 7)
 (.seq (.ops [⟨some 9, none, .fld 1 (.t 3), none⟩,
 ⟨none, none, .store 1 (.t 9) (.c (.int .u16 0)), none⟩,
 ⟨some 10, none, .fld 11 (.t 3), none⟩,
 ⟨none, none, .store 1 (.t 10) (.c (.lst .clip 0 [])), none⟩])
 (.keep [1, 3] (.seq (.ops [⟨some 11, none, .fld 1 (.t 1), none⟩,
 ⟨some 12, none, .load none (.t 11), none⟩,
 ⟨some 13, none, .call (.f 28) [(.t 12)], none⟩,
 ⟨some 14, none, .mv (.t 13), none⟩,
 ⟨some 15, (some (14, true)), .fld 11 (.t 1), none⟩,
 ⟨some 16, (some (14, true)), .load none (.t 15), none⟩,
 ⟨some 17, (some (14, true)), .call (.f 29) [(.t 16)], none⟩,
 ⟨some 18, none, .pick (.t 14) (.t 17) (.c (.bool false)), none⟩,
 ⟨some 19, none, .mv (.t 18), none⟩,
 ⟨some 20, (some (19, true)), .load (some 12) (.t 3), none⟩,
 ⟨some 21, (some (19, true)), .call (.f 30) [(.t 20)], none⟩,
 ⟨some 22, none, .pick (.t 19) (.t 21) (.c (.bool false)), none⟩,
 ⟨some 2, none, .mv (.t 22), none⟩])
 (.ret))))
 (.seq (.ops [⟨some 24, none, .bin .eql (.t 6) (.c (.int .i64 2)), none⟩,
 ⟨some 23, none, .mv (.t 24), none⟩])
 (.keep [1, 3, 6, 23] (.cond (.t 23)
 (.seq (.ops [⟨some 25, none, .build [(.int .i64 0), (.int .i64 0), (.int .i64 0), (.int .i64 0), (.lst .clip 0 [])] [], none⟩,
 ⟨some 26, none, .fld 1 (.t 3), none⟩,
 ⟨none, none, .store 1 (.t 26) (.c (.int .u16 0)), none⟩,
 ⟨some 27, none, .fld 2 (.t 3), none⟩,
 ⟨none, none, .store 1 (.t 27) (.c (.int .i64 0)), none⟩,
 ⟨some 28, none, .fld 3 (.t 3), none⟩,
 ⟨none, none, .store 5 (.t 28) (.t 25), none⟩])
 (.keep [1, 3] (.seq (.ops [⟨some 29, none, .fld 1 (.t 1), none⟩,
 ⟨some 30, none, .load none (.t 29), none⟩,
 ⟨some 31, none, .call (.f 28) [(.t 30)], none⟩,
 ⟨some 32, none, .mv (.t 31), none⟩,
 ⟨some 33, (some (32, true)), .fld 2 (.t 1), none⟩,
 ⟨some 34, (some (32, true)), .load none (.t 33), none⟩,
 ⟨some 35, (some (32, true)), .call (.f 31) [(.t 34)], none⟩,
 ⟨some 36, none, .pick (.t 32) (.t 35) (.c (.bool false)), none⟩,
 ⟨some 37, none, .mv (.t 36), none⟩,
 ⟨some 38, (some (37, true)), .fld 3 (.t 1), none⟩,
 ⟨some 39, (some (37, true)), .load (some 5) (.t 38), none⟩,
 ⟨some 40, (some (37, true)), .call (.f 32) [(.t 39)], none⟩,
 ⟨some 41, none, .pick (.t 37) (.t 40) (.c (.bool false)), none⟩,
 ⟨some 42, none, .mv (.t 41), none⟩,
 ⟨some 43, (some (42, true)), .load (some 12) (.t 3), none⟩,
 ⟨some 44, (some (42, true)), .call (.f 30) [(.t 43)], none⟩,
 ⟨some 45, none, .pick (.t 42) (.t 44) (.c (.bool false)), none⟩,
 ⟨some 2, none, .mv (.t 45), none⟩])
 (.ret))))
 (.seq (.ops [⟨some 47, none, .bin .eql (.t 6) (.c (.int .i64 3)), none⟩,
 ⟨some 46, none, .mv (.t 47), none⟩])
 (.keep [1, 3, 6, 46] (.cond (.t 46)
 (.seq (.ops [⟨some 48, none, .fld 1 (.t 3), none⟩,
 ⟨none, none, .store 1 (.t 48) (.c (.int .u16 0)), none⟩,
 ⟨some 49, none, .fld 2 (.t 3), none⟩,
 ⟨none, none, .store 1 (.t 49) (.c (.int .i64 0)), none⟩,
 ⟨some 50, none, .fld 8 (.t 3), none⟩,
 ⟨none, none, .store 1 (.t 50) (.c (.int .i64 0)), none⟩,
 ⟨some 51, none, .fld 9 (.t 3), none⟩,
 ⟨none, none, .store 1 (.t 51) (.c (.int .i64 0)), none⟩])
 (.keep [1, 3] (.seq (.ops [⟨some 52, none, .fld 1 (.t 1), none⟩,
 ⟨some 53, none, .load none (.t 52), none⟩,
 ⟨some 54, none, .call (.f 28) [(.t 53)], none⟩,
 ⟨some 55, none, .mv (.t 54), none⟩,
 ⟨some 56, (some (55, true)), .fld 2 (.t 1), none⟩,
 ⟨some 57, (some (55, true)), .load none (.t 56), none⟩,
 ⟨some 58, (some (55, true)), .call (.f 31) [(.t 57)], none⟩,
 ⟨some 59, none, .pick (.t 55) (.t 58) (.c (.bool false)), none⟩,
 ⟨some 60, none, .mv (.t 59), none⟩,
 ⟨some 61, (some (60, true)), .fld 8 (.t 1), none⟩,
 ⟨some 62, (some (60, true)), .load none (.t 61), none⟩,
 ⟨some 63, (some (60, true)), .bin .geq (.t 62) (.c (.int .i64 0)), none⟩,
 ⟨some 64, none, .pick (.t 60) (.t 63) (.c (.bool false)), none⟩,
 ⟨some 65, none, .mv (.t 64), none⟩,
 ⟨some 66, (some (65, true)), .fld 8 (.t 1), none⟩,
 ⟨some 67, (some (65, true)), .load none (.t 66), none⟩,
 ⟨some 68, (some (65, true)), .bin .leq (.t 67) (.c (.int .i64 100)), none⟩,
 ⟨some 69, none, .pick (.t 65) (.t 68) (.c (.bool false)), none⟩,
 ⟨some 70, none, .mv (.t 69), none⟩,
 ⟨some 71, (some (70, true)), .fld 9 (.t 1), none⟩,
 ⟨some 72, (some (70, true)), .load none (.t 71), none⟩,
 ⟨some 73, (some (70, true)), .call (.f 31) [(.t 72)], none⟩,
 ⟨some 74, none, .pick (.t 70) (.t 73) (.c (.bool false)), none⟩,
 ⟨some 75, none, .mv (.t 74), none⟩,
 ⟨some 76, (some (75, true)), .load (some 12) (.t 3), none⟩,
 ⟨some 77, (some (75, true)), .call (.f 30) [(.t 76)], none⟩,
 ⟨some 78, none, .pick (.t 75) (.t 77) (.c (.bool false)), none⟩,
 ⟨some 2, none, .mv (.t 78), none⟩])
 (.ret))))
 (.seq (.ops [⟨some 80, none, .bin .eql (.t 6) (.c (.int .i64 4)), none⟩,
 ⟨some 79, none, .mv (.t 80), none⟩])
 (.keep [1, 3, 6, 79] (.cond (.t 79)
 (.seq (.ops [⟨some 81, none, .fld 10 (.t 3), none⟩,
 ⟨none, none, .store 1 (.t 81) (.c (.str ⟨#[]⟩)), none⟩])
 (.keep [1, 3] (.seq (.ops [⟨some 82, none, .fld 10 (.t 1), none⟩,
 ⟨some 83, none, .load none (.t 82), none⟩,
 ⟨some 84, none, .call (.f 33) [(.t 83)], none⟩,
 ⟨some 85, none, .mv (.t 84), none⟩,
 ⟨some 86, (some (85, true)), .load (some 12) (.t 3), none⟩,
 ⟨some 87, (some (85, true)), .call (.f 30) [(.t 86)], none⟩,
 ⟨some 88, none, .pick (.t 85) (.t 87) (.c (.bool false)), none⟩,
 ⟨some 2, none, .mv (.t 88), none⟩])
 (.ret))))
 (.seq (.ops [⟨some 90, none, .bin .eql (.t 6) (.c (.int .i64 5)), none⟩,
 ⟨some 89, none, .mv (.t 90), none⟩])
 (.keep [1, 3, 89] (.cond (.t 89)
 (.seq (.ops [⟨some 91, none, .fld 11 (.t 3), none⟩,
 ⟨none, none, .store 1 (.t 91) (.c (.lst .clip 0 [])), none⟩])
 (.keep [1, 3] (.seq (.ops [⟨some 92, none, .fld 11 (.t 1), none⟩,
 ⟨some 93, none, .load none (.t 92), none⟩,
 ⟨some 94, none, .call (.f 29) [(.t 93)], none⟩,
 ⟨some 95, none, .mv (.t 94), none⟩,
 ⟨some 96, (some (95, true)), .load (some 12) (.t 3), none⟩,
 ⟨some 97, (some (95, true)), .call (.f 30) [(.t 96)], none⟩,
 ⟨some 98, none, .pick (.t 95) (.t 97) (.c (.bool false)), none⟩,
 ⟨some 2, none, .mv (.t 98), none⟩])
 (.ret))))
 (.skip)))))))))))))))))))
 (.keep [] (.seq (.ops [⟨some 2, none, .mv (.c (.bool false)), none⟩])
 (.ret)))))))⟩
theorem J_letter_right_ok : chkFn Try.prog 15 J_letter_right = true := by kernel_rfl
def J_letter_write_j1 : ACode :=
 .keep [0, 1, 5] (.seq (.ops [⟨some 27, none, .mv (.t 0), none⟩,
 ⟨some 28, none, .mv (.t 1), none⟩,
 ⟨some 29, none, .fld 11 (.t 5), none⟩,
 ⟨some 30, none, .load none (.t 29), none⟩,
 ⟨some 31, none, .call (.f 34) [(.t 27), (.t 28), (.t 30)], none⟩])
 (.exit 0))
def J_letter_write : AFn :=
 ⟨67, [], .seq (.ops [⟨some 5, none, .box (.t 2) [], none⟩])
 (.keep [0, 1, 5] (.seq (.ops [⟨some 6, none, .mv (.t 1), none⟩,
 ⟨some 7, none, .fld 0 (.t 5), none⟩,
 ⟨some 8, none, .load none (.t 7), none⟩,
 ⟨some 9, none, .call (.t 6) [(.t 8)], none⟩])
 (.keep [0, 1, 5] (.seq (.ops [⟨some 10, none, .fld 0 (.t 5), none⟩,
 ⟨some 11, none, .load none (.t 10), none⟩])
 (.keep [0, 1, 5, 11] (.block 0 (.seq (.block 5 (.seq (.block 4 (.seq (.block 3 (.seq (.block 2 (.seq (.block 1 (.seq (.seq (.seq (.ops [⟨some 13, none, .bin .eql (.t 11) (.c (.int .i64 1)), none⟩,
 ⟨some 12, none, .mv (.t 13), none⟩])
 (.keep [0, 1, 5, 11, 12] (.cond (.t 12)
 (.exit 1)
 (.skip))))
 (.keep [0, 1, 5, 11] (.seq (.seq (.ops [⟨some 15, none, .bin .eql (.t 11) (.c (.int .i64 5)), none⟩,
 ⟨some 14, none, .mv (.t 15), none⟩])
 (.keep [0, 1, 5, 11, 14] (.cond (.t 14)
 (.exit 2)
 (.skip))))
 (.keep [0, 1, 5, 11] (.seq (.seq (.ops [⟨some 17, none, .bin .eql (.t 11) (.c (.int .i64 2)), none⟩,
 ⟨some 16, none, .mv (.t 17), none⟩])
 (.keep [0, 1, 5, 11, 16] (.cond (.t 16)
 (.exit 3)
 (.skip))))
 (.keep [0, 1, 5, 11] (.seq (.seq (.ops [⟨some 19, none, .bin .eql (.t 11) (.c (.int .i64 3)), none⟩,
 ⟨some 18, none, .mv (.t 19), none⟩])
 (.keep [0, 1, 5, 11, 18] (.cond (.t 18)
 (.exit 4)
 (.skip))))
 (.keep [0, 5, 11] (.seq (.ops [⟨some 21, none, .bin .eql (.t 11) (.c (.int .i64 4)), none⟩,
 ⟨some 20, none, .mv (.t 21), none⟩])
 (.keep [0, 5, 20] (.cond (.t 20)
 (.exit 5)
 (.skip))))))))))))
 (.exit 0)))
 (.keep [0, 1, 5] (.ops [⟨some 22, none, .mv (.t 1), none⟩,
 ⟨some 23, none, .fld 1 (.t 5), none⟩,
 ⟨some 24, none, .load none (.t 23), none⟩,
 ⟨some 25, none, .conv .i64 (.t 24), none⟩,
 ⟨some 26, none, .call (.t 22) [(.t 25)], none⟩]))))
 (J_letter_write_j1)))
 (.keep [0, 1, 5] (.seq (.seq (.ops [⟨some 32, none, .mv (.t 1), none⟩,
 ⟨some 33, none, .fld 1 (.t 5), none⟩,
 ⟨some 34, none, .load none (.t 33), none⟩,
 ⟨some 35, none, .conv .i64 (.t 34), none⟩,
 ⟨some 36, none, .call (.t 32) [(.t 35)], none⟩])
 (.keep [0, 1, 5] (.seq (.ops [⟨some 37, none, .mv (.t 1), none⟩,
 ⟨some 38, none, .fld 2 (.t 5), none⟩,
 ⟨some 39, none, .load none (.t 38), none⟩,
 ⟨some 40, none, .call (.t 37) [(.t 39)], none⟩])
 (.keep [0, 1, 5] (.ops [⟨some 41, none, .mv (.t 0), none⟩,
 ⟨some 42, none, .mv (.t 1), none⟩,
 ⟨some 43, none, .fld 3 (.t 5), none⟩,
 ⟨some 44, none, .load (some 5) (.t 43), none⟩,
 ⟨some 45, none, .call (.f 35) [(.t 41), (.t 42), (.t 44)], none⟩])))))
 (.exit 0)))))
 (.keep [1, 5] (.seq (.seq (.ops [⟨some 46, none, .mv (.t 1), none⟩,
 ⟨some 47, none, .fld 1 (.t 5), none⟩,
 ⟨some 48, none, .load none (.t 47), none⟩,
 ⟨some 49, none, .conv .i64 (.t 48), none⟩,
 ⟨some 50, none, .call (.t 46) [(.t 49)], none⟩])
 (.keep [1, 5] (.seq (.ops [⟨some 51, none, .mv (.t 1), none⟩,
 ⟨some 52, none, .fld 2 (.t 5), none⟩,
 ⟨some 53, none, .load none (.t 52), none⟩,
 ⟨some 54, none, .call (.t 51) [(.t 53)], none⟩])
 (.keep [1, 5] (.seq (.ops [⟨some 55, none, .mv (.t 1), none⟩,
 ⟨some 56, none, .fld 8 (.t 5), none⟩,
 ⟨some 57, none, .load none (.t 56), none⟩,
 ⟨some 58, none, .call (.t 55) [(.t 57)], none⟩])
 (.keep [1, 5] (.ops [⟨some 59, none, .mv (.t 1), none⟩,
 ⟨some 60, none, .fld 9 (.t 5), none⟩,
 ⟨some 61, none, .load none (.t 60), none⟩,
 ⟨some 62, none, .call (.t 59) [(.t 61)], none⟩])))))))
 (.exit 0)))))
 (.keep [0, 5] (.seq (.ops [⟨some 63, none, .mv (.t 0), none⟩,
 ⟨some 64, none, .fld 10 (.t 5), none⟩,
 ⟨some 65, none, .load none (.t 64), none⟩,
 ⟨some 66, none, .call (.f 36) [(.t 63), (.t 65)], none⟩])
 (.exit 0))))))))))⟩
theorem J_letter_write_ok : chkFn Try.prog 16 J_letter_write = true := by kernel_rfl
def J_letter_read_j1 : ACode :=
 .keep [4, 6, 7] (.seq (.ops [⟨some 61, none, .load (some 12) (.t 6), none⟩,
 ⟨some 62, none, .mv (.t 7), none⟩,
 ⟨none, none, .store 12 (.t 4) (.t 61), none⟩,
 ⟨some 5, none, .mv (.t 62), none⟩])
 (.ret))
def J_letter_read_j2 : ACode :=
 .keep [0, 1, 4, 6] (.seq (.ops [⟨some 28, none, .mv (.t 0), none⟩,
 ⟨some 29, none, .mv (.t 1), none⟩,
 ⟨some 30, none, .call (.f 39) [(.t 28), (.t 29)], none⟩,
 ⟨some 27, none, .mv (.t 30), none⟩,
 ⟨some 31, none, .ext 0 (.t 27), none⟩,
 ⟨some 32, none, .ext 1 (.t 27), none⟩,
 ⟨some 33, none, .fld 11 (.t 6), none⟩,
 ⟨none, none, .store 1 (.t 33) (.t 31), none⟩,
 ⟨some 7, none, .mv (.t 32), none⟩])
 (.exit 0))
def J_letter_read : AFn :=
 ⟨63, [.c 4 (some 12), .t 5], .seq (.ops [⟨some 4, none, .new [(.int .i64 0), (.int .u16 0), (.int .i64 0), (.int .i64 0), (.int .i64 0), (.int .i64 0), (.int .i64 0), (.lst .clip 0 []), (.int .i64 0), (.int .i64 0), (.str ⟨#[]⟩), (.lst .clip 0 [])] [], none⟩,
 ⟨some 5, none, .mv (.c (.bool false)), none⟩])
 (.keep [0, 1, 4] (.seq (.ops [⟨some 8, none, .mv (.t 1), none⟩,
 ⟨some 9, none, .call (.t 8) [(.c (.int .i64 5))], none⟩,
 ⟨some 10, none, .build [(.int .i64 0), (.int .u16 0), (.int .i64 0), (.int .i64 0), (.int .i64 0), (.int .i64 0), (.int .i64 0), (.lst .clip 0 []), (.int .i64 0), (.int .i64 0), (.str ⟨#[]⟩), (.lst .clip 0 [])] [(0, 1, (.t 9))], none⟩,
 ⟨some 6, none, .new [(.int .i64 0), (.int .u16 0), (.int .i64 0), (.int .i64 0), (.int .i64 0), (.int .i64 0), (.int .i64 0), (.lst .clip 0 []), (.int .i64 0), (.int .i64 0), (.str ⟨#[]⟩), (.lst .clip 0 [])] [], none⟩,
 ⟨none, none, .store 12 (.t 6) (.t 10), none⟩])
 (.keep [0, 1, 4, 6] (.seq (.ops [⟨some 7, none, .mv (.c (.bool true)), none⟩])
 (.keep [0, 1, 4, 6, 7] (.seq (.seq (.ops [⟨some 11, none, .fld 0 (.t 6), none⟩,
 ⟨some 12, none, .load none (.t 11), none⟩])
 (.keep [0, 1, 4, 6, 7, 12] (.block 0 (.seq (.block 5 (.seq (.block 4 (.seq (.block 3 (.seq (.block 2 (.seq (.block 1 (.seq (.seq (.seq (.ops [⟨some 14, none, .bin .eql (.t 12) (.c (.int .i64 1)), none⟩,
 ⟨some 13, none, .mv (.t 14), none⟩])
 (.keep [0, 1, 4, 6, 7, 12, 13] (.cond (.t 13)
 (.exit 1)
 (.skip))))
 (.keep [0, 1, 4, 6, 7, 12] (.seq (.seq (.ops [⟨some 16, none, .bin .eql (.t 12) (.c (.int .i64 5)), none⟩,
 ⟨some 15, none, .mv (.t 16), none⟩])
 (.keep [0, 1, 4, 6, 7, 12, 15] (.cond (.t 15)
 (.exit 2)
 (.skip))))
 (.keep [0, 1, 4, 6, 7, 12] (.seq (.seq (.ops [⟨some 18, none, .bin .eql (.t 12) (.c (.int .i64 2)), none⟩,
 ⟨some 17, none, .mv (.t 18), none⟩])
 (.keep [0, 1, 4, 6, 7, 12, 17] (.cond (.t 17)
 (.exit 3)
 (.skip))))
 (.keep [0, 1, 4, 6, 7, 12] (.seq (.seq (.ops [⟨some 20, none, .bin .eql (.t 12) (.c (.int .i64 3)), none⟩,
 ⟨some 19, none, .mv (.t 20), none⟩])
 (.keep [0, 1, 4, 6, 7, 12, 19] (.cond (.t 19)
 (.exit 4)
 (.skip))))
 (.keep [0, 4, 6, 7, 12] (.seq (.ops [⟨some 22, none, .bin .eql (.t 12) (.c (.int .i64 4)), none⟩,
 ⟨some 21, none, .mv (.t 22), none⟩])
 (.keep [0, 4, 6, 7, 21] (.cond (.t 21)
 (.exit 5)
 (.skip))))))))))))
 (.exit 0)))
 (.keep [0, 1, 4, 6] (.ops [⟨some 23, none, .mv (.t 1), none⟩,
 ⟨some 24, none, .call (.t 23) [(.c (.int .i64 65535))], none⟩,
 ⟨some 25, none, .conv .u16 (.t 24), none⟩,
 ⟨some 26, none, .fld 1 (.t 6), none⟩,
 ⟨none, none, .store 1 (.t 26) (.t 25), none⟩]))))
 (J_letter_read_j2)))
 (.keep [0, 1, 4, 6, 7] (.seq (.seq (.ops [⟨some 34, none, .mv (.t 1), none⟩,
 ⟨some 35, none, .call (.t 34) [(.c (.int .i64 65535))], none⟩,
 ⟨some 36, none, .conv .u16 (.t 35), none⟩,
 ⟨some 37, none, .fld 1 (.t 6), none⟩,
 ⟨none, none, .store 1 (.t 37) (.t 36), none⟩])
 (.keep [0, 1, 4, 6, 7] (.seq (.ops [⟨some 38, none, .mv (.t 1), none⟩,
 ⟨some 39, none, .call (.t 38) [(.c (.int .i64 4611686018427387904))], none⟩,
 ⟨some 40, none, .fld 2 (.t 6), none⟩,
 ⟨none, none, .store 1 (.t 40) (.t 39), none⟩])
 (.keep [0, 1, 4, 6, 7] (.ops [⟨some 41, none, .mv (.t 0), none⟩,
 ⟨some 42, none, .mv (.t 1), none⟩,
 ⟨some 43, none, .call (.f 40) [(.t 41), (.t 42)], none⟩,
 ⟨some 44, none, .fld 3 (.t 6), none⟩,
 ⟨none, none, .store 5 (.t 44) (.t 43), none⟩])))))
 (.exit 0)))))
 (.keep [1, 4, 6, 7] (.seq (.seq (.ops [⟨some 45, none, .mv (.t 1), none⟩,
 ⟨some 46, none, .call (.t 45) [(.c (.int .i64 65535))], none⟩,
 ⟨some 47, none, .conv .u16 (.t 46), none⟩,
 ⟨some 48, none, .fld 1 (.t 6), none⟩,
 ⟨none, none, .store 1 (.t 48) (.t 47), none⟩])
 (.keep [1, 4, 6, 7] (.seq (.ops [⟨some 49, none, .mv (.t 1), none⟩,
 ⟨some 50, none, .call (.t 49) [(.c (.int .i64 4611686018427387904))], none⟩,
 ⟨some 51, none, .fld 2 (.t 6), none⟩,
 ⟨none, none, .store 1 (.t 51) (.t 50), none⟩])
 (.keep [1, 4, 6, 7] (.seq (.ops [⟨some 52, none, .mv (.t 1), none⟩,
 ⟨some 53, none, .call (.t 52) [(.c (.int .i64 100))], none⟩,
 ⟨some 54, none, .fld 8 (.t 6), none⟩,
 ⟨none, none, .store 1 (.t 54) (.t 53), none⟩])
 (.keep [1, 4, 6, 7] (.ops [⟨some 55, none, .mv (.t 1), none⟩,
 ⟨some 56, none, .call (.t 55) [(.c (.int .i64 4611686018427387904))], none⟩,
 ⟨some 57, none, .fld 9 (.t 6), none⟩,
 ⟨none, none, .store 1 (.t 57) (.t 56), none⟩])))))))
 (.exit 0)))))
 (.keep [0, 4, 6, 7] (.seq (.ops [⟨some 58, none, .mv (.t 0), none⟩,
 ⟨some 59, none, .call (.f 41) [(.t 58)], none⟩,
 ⟨some 60, none, .fld 10 (.t 6), none⟩,
 ⟨none, none, .store 1 (.t 60) (.t 59), none⟩])
 (.exit 0)))))))
 (J_letter_read_j1)))))))⟩
theorem J_letter_read_ok : chkFn Try.prog 20 J_letter_read = true := by kernel_rfl
def J_letter_sameAsk : AFn :=
 ⟨42, [.t 4], .seq (.ops [⟨some 2, none, .box (.t 0) [], none⟩,
 ⟨some 3, none, .box (.t 1) [], none⟩,
 ⟨some 4, none, .mv (.c (.bool false)), none⟩])
 (.keep [2, 3] (.seq (.ops [⟨some 5, none, .fld 0 (.t 2), none⟩,
 ⟨some 6, none, .load none (.t 5), none⟩,
 ⟨some 7, none, .fld 0 (.t 3), none⟩,
 ⟨some 8, none, .load none (.t 7), none⟩,
 ⟨some 9, none, .bin .eql (.t 6) (.t 8), none⟩,
 ⟨some 10, none, .mv (.t 9), none⟩,
 ⟨some 11, (some (10, true)), .fld 1 (.t 2), none⟩,
 ⟨some 12, (some (10, true)), .load none (.t 11), none⟩,
 ⟨some 13, (some (10, true)), .fld 1 (.t 3), none⟩,
 ⟨some 14, (some (10, true)), .load none (.t 13), none⟩,
 ⟨some 15, (some (10, true)), .bin .eql (.t 12) (.t 14), none⟩,
 ⟨some 16, none, .pick (.t 10) (.t 15) (.c (.bool false)), none⟩,
 ⟨some 17, none, .mv (.t 16), none⟩,
 ⟨some 18, (some (17, true)), .fld 2 (.t 2), none⟩,
 ⟨some 19, (some (17, true)), .load none (.t 18), none⟩,
 ⟨some 20, (some (17, true)), .fld 2 (.t 3), none⟩,
 ⟨some 21, (some (17, true)), .load none (.t 20), none⟩,
 ⟨some 22, (some (17, true)), .bin .eql (.t 19) (.t 21), none⟩,
 ⟨some 23, none, .pick (.t 17) (.t 22) (.c (.bool false)), none⟩,
 ⟨some 24, none, .mv (.t 23), none⟩,
 ⟨some 25, (some (24, true)), .fld 3 (.t 2), none⟩,
 ⟨some 26, (some (24, true)), .fld 0 (.t 25), none⟩,
 ⟨some 27, (some (24, true)), .load none (.t 26), none⟩,
 ⟨some 28, (some (24, true)), .fld 3 (.t 3), none⟩,
 ⟨some 29, (some (24, true)), .fld 0 (.t 28), none⟩,
 ⟨some 30, (some (24, true)), .load none (.t 29), none⟩,
 ⟨some 31, (some (24, true)), .bin .eql (.t 27) (.t 30), none⟩,
 ⟨some 32, none, .pick (.t 24) (.t 31) (.c (.bool false)), none⟩,
 ⟨some 33, none, .mv (.t 32), none⟩,
 ⟨some 34, (some (33, true)), .fld 3 (.t 2), none⟩,
 ⟨some 35, (some (33, true)), .fld 1 (.t 34), none⟩,
 ⟨some 36, (some (33, true)), .load none (.t 35), none⟩,
 ⟨some 37, (some (33, true)), .fld 3 (.t 3), none⟩,
 ⟨some 38, (some (33, true)), .fld 1 (.t 37), none⟩,
 ⟨some 39, (some (33, true)), .load none (.t 38), none⟩,
 ⟨some 40, (some (33, true)), .call (.f 44) [(.t 36), (.t 39)], none⟩,
 ⟨some 41, none, .pick (.t 33) (.t 40) (.c (.bool false)), none⟩,
 ⟨some 4, none, .mv (.t 41), none⟩])
 (.ret)))⟩
theorem J_letter_sameAsk_ok : chkFn Try.prog 23 J_letter_sameAsk = true := by kernel_rfl
def J_letter_channel : AFn :=
 ⟨6, [.t 2], .seq (.ops [⟨some 2, none, .mv (.c (.bool false)), none⟩])
 (.keep [0] (.seq (.ops [⟨some 3, none, .mv (.t 0), none⟩,
 ⟨some 4, none, .bin .quo (.t 3) (.c (.int .u16 8192)), none⟩,
 ⟨some 5, none, .bin .eql (.t 4) (.c (.int .u16 2)), none⟩,
 ⟨some 2, none, .mv (.t 5), none⟩])
 (.ret)))⟩
theorem J_letter_channel_ok : chkFn Try.prog 28 J_letter_channel = true := by kernel_rfl
def J_letter_certs_j1 : ACode :=
 .keep [] (.seq (.ops [⟨some 2, none, .mv (.c (.bool true)), none⟩])
 (.ret))
def J_letter_certs_j2 : ACode :=
 .seq (.ops [⟨some 11, none, .bin .lss (.t 10) (.t 9), none⟩])
 (.keep [8, 9, 10, 11] (.seq (.cond (.t 11)
 (.skip)
 (.exit 0))
 (.keep [8, 9, 10] (.seq (.block 1 (.seq (.ops [⟨some 12, none, .idxa 7 (.t 8) (.t 10), none⟩,
 ⟨some 13, none, .load (some 7) (.t 12), none⟩,
 ⟨some 4, none, .new [(.int .i64 0), (.int .u16 0), (.str ⟨#[]⟩), (.lst .clip 0 []), (.int .i64 0), (.int .i64 0), (.int .i64 0)] [], none⟩,
 ⟨none, none, .stores 7 (.t 4) (.t 13), none⟩])
 (.keep [4, 8, 9, 10] (.seq (.ops [⟨some 14, none, .load (some 7) (.t 4), none⟩,
 ⟨some 15, none, .call (.f 45) [(.t 14)], none⟩,
 ⟨some 16, none, .bin .neq (.t 15) (.c (.int .i64 0)), none⟩])
 (.keep [8, 9, 10, 16] (.cond (.t 16)
 (.seq (.ops [⟨some 2, none, .mv (.c (.bool false)), none⟩])
 (.ret))
 (.skip)))))))
 (.keep [8, 9, 10] (.ops [⟨some 17, none, .bin .add (.t 10) (.c (.int .i64 1)), none⟩,
 ⟨some 10, none, .mv (.t 17), none⟩]))))))
def J_letter_certs : AFn :=
 ⟨18, [.t 2], .seq (.ops [⟨some 2, none, .mv (.c (.bool false)), none⟩])
 (.keep [0] (.seq (.seq (.ops [⟨some 5, none, .mv (.t 0), none⟩,
 ⟨some 6, none, .lenl (.t 5), none⟩,
 ⟨some 7, none, .bin .gtr (.t 6) (.c (.int .i64 8)), none⟩])
 (.keep [0, 7] (.cond (.t 7)
 (.seq (.ops [⟨some 2, none, .mv (.c (.bool false)), none⟩])
 (.ret))
 (.skip))))
 (.keep [0] (.seq (.seq (.ops [⟨some 8, none, .mv (.t 0), none⟩,
 ⟨some 9, none, .lenl (.t 8), none⟩,
 ⟨some 10, none, .mv (.c (.int .i64 0)), none⟩])
 (.keep [8, 9, 10] (.block 0 (.loop [8, 9, 10] (J_letter_certs_j2)))))
 (J_letter_certs_j1)))))⟩
theorem J_letter_certs_ok : chkFn Try.prog 29 J_letter_certs = true := by kernel_rfl
def J_letter_bare : AFn :=
 ⟨8, [.t 2], .seq (.ops [⟨some 1, none, .box (.t 0) [], none⟩,
 ⟨some 2, none, .mv (.c (.bool false)), none⟩])
 (.keep [1] (.seq (.ops [⟨some 3, none, .load (some 12) (.t 1), none⟩,
 ⟨some 4, none, .fld 0 (.t 1), none⟩,
 ⟨some 5, none, .load none (.t 4), none⟩,
 ⟨some 6, none, .build [(.int .i64 0), (.int .u16 0), (.int .i64 0), (.int .i64 0), (.int .i64 0), (.int .i64 0), (.int .i64 0), (.lst .clip 0 []), (.int .i64 0), (.int .i64 0), (.str ⟨#[]⟩), (.lst .clip 0 [])] [(0, 1, (.t 5))], none⟩,
 ⟨some 7, none, .call (.f 10) [(.t 3), (.t 6)], none⟩,
 ⟨some 2, none, .mv (.t 7), none⟩])
 (.ret)))⟩
theorem J_letter_bare_ok : chkFn Try.prog 30 J_letter_bare = true := by kernel_rfl
def J_letter_number : AFn :=
 ⟨9, [.t 2], .seq (.ops [⟨some 2, none, .mv (.c (.bool false)), none⟩])
 (.keep [0] (.seq (.ops [⟨some 3, none, .mv (.t 0), none⟩,
 ⟨some 4, none, .bin .geq (.t 3) (.c (.int .i64 0)), none⟩,
 ⟨some 5, none, .mv (.t 4), none⟩,
 ⟨some 6, (some (5, true)), .mv (.t 0), none⟩,
 ⟨some 7, (some (5, true)), .bin .leq (.t 6) (.c (.int .i64 4611686018427387904)), none⟩,
 ⟨some 8, none, .pick (.t 5) (.t 7) (.c (.bool false)), none⟩,
 ⟨some 2, none, .mv (.t 8), none⟩])
 (.ret)))⟩
theorem J_letter_number_ok : chkFn Try.prog 31 J_letter_number = true := by kernel_rfl
def J_record_Asks_j1 : ACode :=
 .keep [1, 42] (.cond (.t 42)
 (.seq (.ops [⟨some 45, none, .fld 2 (.t 1), none⟩,
 ⟨some 46, none, .load none (.t 45), none⟩,
 ⟨some 47, none, .bin .eql (.t 46) (.c (.int .i64 0)), none⟩,
 ⟨some 48, none, .mv (.t 47), none⟩,
 ⟨some 49, (some (48, true)), .fld 3 (.t 1), none⟩,
 ⟨some 50, (some (48, true)), .fld 0 (.t 49), none⟩,
 ⟨some 51, (some (48, true)), .load none (.t 50), none⟩,
 ⟨some 52, (some (48, true)), .bin .geq (.t 51) (.c (.int .i64 0)), none⟩,
 ⟨some 53, none, .pick (.t 48) (.t 52) (.c (.bool false)), none⟩,
 ⟨some 54, none, .mv (.t 53), none⟩,
 ⟨some 55, (some (54, true)), .fld 3 (.t 1), none⟩,
 ⟨some 56, (some (54, true)), .fld 0 (.t 55), none⟩,
 ⟨some 57, (some (54, true)), .load none (.t 56), none⟩,
 ⟨some 58, (some (54, true)), .bin .lss (.t 57) (.c (.int .i64 8)), none⟩,
 ⟨some 59, none, .pick (.t 54) (.t 58) (.c (.bool false)), none⟩,
 ⟨some 60, none, .mv (.t 59), none⟩,
 ⟨some 61, (some (60, true)), .fld 3 (.t 1), none⟩,
 ⟨some 62, (some (60, true)), .fld 1 (.t 61), none⟩,
 ⟨some 63, (some (60, true)), .load none (.t 62), none⟩,
 ⟨some 64, (some (60, true)), .call (.f 47) [(.t 63)], none⟩,
 ⟨some 65, none, .pick (.t 60) (.t 64) (.c (.bool false)), none⟩,
 ⟨some 2, none, .mv (.t 65), none⟩])
 (.ret))
 (.skip))
def J_record_Asks : AFn :=
 ⟨66, [.t 2], .seq (.ops [⟨some 1, none, .box (.t 0) [], none⟩,
 ⟨some 2, none, .mv (.c (.bool false)), none⟩])
 (.keep [1] (.seq (.seq (.ops [⟨some 4, none, .fld 0 (.t 1), none⟩,
 ⟨some 5, none, .load none (.t 4), none⟩,
 ⟨some 6, none, .bin .lss (.t 5) (.c (.int .i64 0)), none⟩,
 ⟨some 7, none, .mv (.t 6), none⟩,
 ⟨some 8, (some (7, false)), .fld 0 (.t 1), none⟩,
 ⟨some 9, (some (7, false)), .load none (.t 8), none⟩,
 ⟨some 10, (some (7, false)), .bin .geq (.t 9) (.c (.int .i64 4)), none⟩,
 ⟨some 11, none, .pick (.t 7) (.c (.bool true)) (.t 10), none⟩,
 ⟨some 12, none, .mv (.t 11), none⟩,
 ⟨some 13, (some (12, false)), .fld 2 (.t 1), none⟩,
 ⟨some 14, (some (12, false)), .load none (.t 13), none⟩,
 ⟨some 15, (some (12, false)), .call (.f 46) [(.t 14)], none⟩,
 ⟨some 16, (some (12, false)), .not (.t 15), none⟩,
 ⟨some 17, none, .pick (.t 12) (.c (.bool true)) (.t 16), none⟩])
 (.keep [1, 17] (.cond (.t 17)
 (.seq (.ops [⟨some 2, none, .mv (.c (.bool false)), none⟩])
 (.ret))
 (.skip))))
 (.keep [1] (.seq (.ops [⟨some 18, none, .fld 3 (.t 1), none⟩,
 ⟨some 19, none, .fld 0 (.t 18), none⟩,
 ⟨some 20, none, .load none (.t 19), none⟩,
 ⟨some 21, none, .bin .eql (.t 20) (.c (.int .i64 0)), none⟩,
 ⟨some 22, none, .mv (.t 21), none⟩,
 ⟨some 23, (some (22, true)), .fld 3 (.t 1), none⟩,
 ⟨some 24, (some (22, true)), .fld 1 (.t 23), none⟩,
 ⟨some 25, (some (22, true)), .load none (.t 24), none⟩,
 ⟨some 26, (some (22, true)), .lenl (.t 25), none⟩,
 ⟨some 27, (some (22, true)), .bin .eql (.t 26) (.c (.int .i64 0)), none⟩,
 ⟨some 28, none, .pick (.t 22) (.t 27) (.c (.bool false)), none⟩,
 ⟨some 3, none, .mv (.t 28), none⟩])
 (.keep [1, 3] (.seq (.seq (.ops [⟨some 29, none, .fld 1 (.t 1), none⟩,
 ⟨some 30, none, .load none (.t 29), none⟩])
 (.keep [1, 3, 30] (.block 0 (.seq (.ops [⟨some 32, none, .bin .eql (.t 30) (.c (.int .i64 0)), none⟩,
 ⟨some 31, none, .mv (.t 32), none⟩])
 (.keep [1, 3, 30, 31] (.cond (.t 31)
 (.seq (.ops [⟨some 33, none, .fld 2 (.t 1), none⟩,
 ⟨some 34, none, .load none (.t 33), none⟩,
 ⟨some 35, none, .bin .eql (.t 34) (.c (.int .i64 0)), none⟩,
 ⟨some 36, none, .mv (.t 35), none⟩,
 ⟨some 37, (some (36, true)), .mv (.t 3), none⟩,
 ⟨some 38, none, .pick (.t 36) (.t 37) (.c (.bool false)), none⟩,
 ⟨some 2, none, .mv (.t 38), none⟩])
 (.ret))
 (.seq (.ops [⟨some 40, none, .bin .eql (.t 30) (.c (.int .i64 1)), none⟩,
 ⟨some 39, none, .mv (.t 40), none⟩])
 (.keep [1, 3, 30, 39] (.cond (.t 39)
 (.seq (.ops [⟨some 41, none, .mv (.t 3), none⟩,
 ⟨some 2, none, .mv (.t 41), none⟩])
 (.ret))
 (.seq (.seq (.ops [⟨some 43, none, .bin .eql (.t 30) (.c (.int .i64 2)), none⟩,
 ⟨some 42, none, .mv (.t 43), none⟩])
 (.keep [1, 30, 42] (.cond (.t 42)
 (.skip)
 (.ops [⟨some 44, none, .bin .eql (.t 30) (.c (.int .i64 3)), none⟩,
 ⟨some 42, none, .mv (.t 44), none⟩]))))
 (J_record_Asks_j1)))))))))))
 (.keep [] (.seq (.ops [⟨some 2, none, .mv (.c (.bool false)), none⟩])
 (.ret)))))))))⟩
theorem J_record_Asks_ok : chkFn Try.prog 32 J_record_Asks = true := by kernel_rfl
def J_letter_writeCerts_j1 : ACode :=
 .seq (.ops [⟨some 17, none, .bin .lss (.t 16) (.t 15), none⟩])
 (.keep [0, 14, 15, 16, 17] (.seq (.cond (.t 17)
 (.skip)
 (.exit 0))
 (.keep [0, 14, 15, 16] (.seq (.block 1 (.seq (.ops [⟨some 18, none, .idxa 7 (.t 14) (.t 16), none⟩,
 ⟨some 19, none, .load (some 7) (.t 18), none⟩,
 ⟨some 7, none, .new [(.int .i64 0), (.int .u16 0), (.str ⟨#[]⟩), (.lst .clip 0 []), (.int .i64 0), (.int .i64 0), (.int .i64 0)] [], none⟩,
 ⟨none, none, .stores 7 (.t 7) (.t 19), none⟩])
 (.keep [0, 7, 14, 15, 16] (.seq (.ops [⟨some 21, none, .load (some 7) (.t 7), none⟩,
 ⟨some 22, none, .call (.f 51) [(.t 21)], none⟩,
 ⟨some 20, none, .mv (.t 22), none⟩,
 ⟨some 23, none, .ext 0 (.t 20), none⟩,
 ⟨some 24, none, .ext 1 (.t 20), none⟩,
 ⟨some 8, none, .mv (.t 23), none⟩,
 ⟨some 9, none, .mv (.t 24), none⟩])
 (.keep [0, 8, 14, 15, 16] (.ops [⟨some 25, none, .mv (.t 0), none⟩,
 ⟨some 26, none, .mv (.t 8), none⟩,
 ⟨some 27, none, .call (.f 52) [(.t 25), (.t 26)], none⟩]))))))
 (.keep [0, 14, 15, 16] (.ops [⟨some 28, none, .bin .add (.t 16) (.c (.int .i64 1)), none⟩,
 ⟨some 16, none, .mv (.t 28), none⟩]))))))
def J_letter_writeCerts : AFn :=
 ⟨29, [], .seq (.ops [⟨some 10, none, .mv (.t 1), none⟩,
 ⟨some 11, none, .mv (.t 2), none⟩,
 ⟨some 12, none, .lenl (.t 11), none⟩,
 ⟨some 13, none, .call (.t 10) [(.t 12)], none⟩])
 (.keep [0, 2] (.seq (.ops [⟨some 14, none, .mv (.t 2), none⟩,
 ⟨some 15, none, .lenl (.t 14), none⟩,
 ⟨some 16, none, .mv (.c (.int .i64 0)), none⟩])
 (.keep [0, 14, 15, 16] (.block 0 (.loop [0, 14, 15, 16] (J_letter_writeCerts_j1))))))⟩
theorem J_letter_writeCerts_ok : chkFn Try.prog 34 J_letter_writeCerts = true := by kernel_rfl
def J_letter_writeAsk : AFn :=
 ⟨36, [], .seq (.ops [⟨some 5, none, .box (.t 2) [], none⟩])
 (.keep [0, 1, 5] (.seq (.ops [⟨some 6, none, .mv (.t 1), none⟩,
 ⟨some 7, none, .fld 0 (.t 5), none⟩,
 ⟨some 8, none, .load none (.t 7), none⟩,
 ⟨some 9, none, .call (.t 6) [(.t 8)], none⟩])
 (.keep [0, 1, 5] (.seq (.ops [⟨some 10, none, .mv (.t 1), none⟩,
 ⟨some 11, none, .fld 1 (.t 5), none⟩,
 ⟨some 12, none, .load none (.t 11), none⟩,
 ⟨some 13, none, .call (.t 10) [(.t 12)], none⟩])
 (.keep [0, 1, 5] (.seq (.ops [⟨some 14, none, .mv (.t 1), none⟩,
 ⟨some 15, none, .fld 2 (.t 5), none⟩,
 ⟨some 16, none, .load none (.t 15), none⟩,
 ⟨some 17, none, .call (.t 14) [(.t 16)], none⟩])
 (.keep [0, 1, 5] (.seq (.ops [⟨some 18, none, .fld 1 (.t 5), none⟩,
 ⟨some 19, none, .load none (.t 18), none⟩,
 ⟨some 20, none, .bin .eql (.t 19) (.c (.int .i64 2)), none⟩,
 ⟨some 21, none, .mv (.t 20), none⟩,
 ⟨some 22, (some (21, false)), .fld 1 (.t 5), none⟩,
 ⟨some 23, (some (21, false)), .load none (.t 22), none⟩,
 ⟨some 24, (some (21, false)), .bin .eql (.t 23) (.c (.int .i64 3)), none⟩,
 ⟨some 25, none, .pick (.t 21) (.c (.bool true)) (.t 24), none⟩])
 (.keep [0, 1, 5, 25] (.cond (.t 25)
 (.seq (.ops [⟨some 26, none, .mv (.t 1), none⟩,
 ⟨some 27, none, .fld 3 (.t 5), none⟩,
 ⟨some 28, none, .fld 0 (.t 27), none⟩,
 ⟨some 29, none, .load none (.t 28), none⟩,
 ⟨some 30, none, .call (.t 26) [(.t 29)], none⟩])
 (.keep [0, 5] (.ops [⟨some 31, none, .mv (.t 0), none⟩,
 ⟨some 32, none, .fld 3 (.t 5), none⟩,
 ⟨some 33, none, .fld 1 (.t 32), none⟩,
 ⟨some 34, none, .load none (.t 33), none⟩,
 ⟨some 35, none, .call (.f 53) [(.t 31), (.t 34)], none⟩])))
 (.skip)))))))))))⟩
theorem J_letter_writeAsk_ok : chkFn Try.prog 35 J_letter_writeAsk = true := by kernel_rfl
def J_letter_readCerts_j1 : ACode :=
 .keep [6] (.seq (.ops [⟨some 26, none, .mv (.t 6), none⟩,
 ⟨some 4, none, .mv (.t 26), none⟩,
 ⟨some 5, none, .mv (.c (.bool true)), none⟩])
 (.ret))
def J_letter_readCerts_j2 : ACode :=
 .seq (.ops [⟨some 12, none, .bin .lss (.t 11) (.t 10), none⟩])
 (.keep [0, 6, 10, 11, 12] (.seq (.cond (.t 12)
 (.skip)
 (.exit 0))
 (.keep [0, 6, 10, 11] (.seq (.block 1 (.seq (.ops [⟨some 14, none, .mv (.t 0), none⟩,
 ⟨some 15, none, .call (.f 55) [(.t 14), (.c (.int .i64 4000))], none⟩,
 ⟨some 16, none, .call (.f 54) [(.t 15)], none⟩,
 ⟨some 13, none, .mv (.t 16), none⟩,
 ⟨some 17, none, .ext 0 (.t 13), none⟩,
 ⟨some 18, none, .ext 1 (.t 13), none⟩,
 ⟨some 7, none, .new [(.int .i64 0), (.int .u16 0), (.str ⟨#[]⟩), (.lst .clip 0 []), (.int .i64 0), (.int .i64 0), (.int .i64 0)] [], none⟩,
 ⟨none, none, .stores 7 (.t 7) (.t 17), none⟩,
 ⟨some 8, none, .mv (.t 18), none⟩])
 (.keep [0, 6, 7, 8, 10, 11] (.seq (.seq (.ops [⟨some 19, none, .mv (.t 8), none⟩,
 ⟨some 20, none, .bin .neq (.t 19) (.c (.int .i64 0)), none⟩])
 (.keep [0, 6, 7, 10, 11, 20] (.cond (.t 20)
 (.seq (.ops [⟨some 4, none, .mv (.c (.lst .clip 0 [])), none⟩,
 ⟨some 5, none, .mv (.c (.bool false)), none⟩])
 (.ret))
 (.skip))))
 (.keep [0, 6, 7, 10, 11] (.ops [⟨some 21, none, .mvo 6, none⟩,
 ⟨some 22, none, .load (some 7) (.t 7), none⟩,
 ⟨some 23, none, .bsl 50 7 1 [(.int .i64 0), (.int .u16 0), (.str ⟨#[]⟩), (.lst .clip 0 []), (.int .i64 0), (.int .i64 0), (.int .i64 0)] [(0, 7, (.t 22))], none⟩,
 ⟨some 24, none, .appo 50 7 80 21 (.t 23), none⟩,
 ⟨some 6, none, .mvo 24, none⟩]))))))
 (.keep [0, 6, 10, 11] (.ops [⟨some 25, none, .bin .add (.t 11) (.c (.int .i64 1)), none⟩,
 ⟨some 11, none, .mv (.t 25), none⟩]))))))
def J_letter_readCerts : AFn :=
 ⟨27, [.t 4, .t 5], .seq (.ops [⟨some 4, none, .mv (.c (.lst .clip 0 [])), none⟩,
 ⟨some 5, none, .mv (.c (.bool false)), none⟩])
 (.keep [0, 1] (.seq (.ops [⟨some 6, none, .mvu 50 7 (.c (.lst .clip 0 [])), none⟩])
 (.keep [0, 1, 6] (.seq (.seq (.ops [⟨some 9, none, .mv (.t 1), none⟩,
 ⟨some 10, none, .call (.t 9) [(.c (.int .i64 8))], none⟩,
 ⟨some 11, none, .mv (.c (.int .i64 0)), none⟩])
 (.keep [0, 6, 10, 11] (.block 0 (.loop [0, 6, 10, 11] (J_letter_readCerts_j2)))))
 (J_letter_readCerts_j1)))))⟩
theorem J_letter_readCerts_ok : chkFn Try.prog 39 J_letter_readCerts = true := by kernel_rfl
def J_letter_readAsk_j1 : ACode :=
 .keep [4, 5] (.seq (.ops [⟨some 29, none, .load (some 5) (.t 5), none⟩,
 ⟨none, none, .store 5 (.t 4) (.t 29), none⟩])
 (.ret))
def J_letter_readAsk : AFn :=
 ⟨30, [.c 4 (some 5)], .seq (.ops [⟨some 4, none, .new [(.int .i64 0), (.int .i64 0), (.int .i64 0), (.int .i64 0), (.lst .clip 0 [])] [], none⟩])
 (.keep [0, 1, 4] (.seq (.ops [⟨some 6, none, .mv (.t 1), none⟩,
 ⟨some 7, none, .call (.t 6) [(.c (.int .i64 3))], none⟩,
 ⟨some 8, none, .mv (.t 1), none⟩,
 ⟨some 9, none, .call (.t 8) [(.c (.int .i64 3))], none⟩,
 ⟨some 10, none, .mv (.t 1), none⟩,
 ⟨some 11, none, .call (.t 10) [(.c (.int .i64 4611686018427387904))], none⟩,
 ⟨some 12, none, .build [(.int .i64 0), (.int .i64 0), (.int .i64 0), (.int .i64 0), (.lst .clip 0 [])] [(0, 1, (.t 7)), (1, 1, (.t 9)), (2, 1, (.t 11))], none⟩,
 ⟨some 5, none, .new [(.int .i64 0), (.int .i64 0), (.int .i64 0), (.int .i64 0), (.lst .clip 0 [])] [], none⟩,
 ⟨none, none, .store 5 (.t 5) (.t 12), none⟩])
 (.keep [0, 1, 4, 5] (.seq (.seq (.ops [⟨some 13, none, .fld 1 (.t 5), none⟩,
 ⟨some 14, none, .load none (.t 13), none⟩,
 ⟨some 15, none, .bin .eql (.t 14) (.c (.int .i64 2)), none⟩,
 ⟨some 16, none, .mv (.t 15), none⟩,
 ⟨some 17, (some (16, false)), .fld 1 (.t 5), none⟩,
 ⟨some 18, (some (16, false)), .load none (.t 17), none⟩,
 ⟨some 19, (some (16, false)), .bin .eql (.t 18) (.c (.int .i64 3)), none⟩,
 ⟨some 20, none, .pick (.t 16) (.c (.bool true)) (.t 19), none⟩])
 (.keep [0, 1, 4, 5, 20] (.cond (.t 20)
 (.seq (.ops [⟨some 21, none, .mv (.t 1), none⟩,
 ⟨some 22, none, .call (.t 21) [(.c (.int .i64 7))], none⟩,
 ⟨some 23, none, .fld 3 (.t 5), none⟩,
 ⟨some 24, none, .fld 0 (.t 23), none⟩,
 ⟨none, none, .store 1 (.t 24) (.t 22), none⟩])
 (.keep [0, 4, 5] (.ops [⟨some 25, none, .mv (.t 0), none⟩,
 ⟨some 26, none, .call (.f 56) [(.t 25)], none⟩,
 ⟨some 27, none, .fld 3 (.t 5), none⟩,
 ⟨some 28, none, .fld 1 (.t 27), none⟩,
 ⟨none, none, .store 1 (.t 28) (.t 26), none⟩])))
 (.skip))))
 (J_letter_readAsk_j1)))))⟩
theorem J_letter_readAsk_ok : chkFn Try.prog 40 J_letter_readAsk = true := by kernel_rfl
def J_record_number : AFn :=
 ⟨9, [.t 2], .seq (.ops [⟨some 2, none, .mv (.c (.bool false)), none⟩])
 (.keep [0] (.seq (.ops [⟨some 3, none, .mv (.t 0), none⟩,
 ⟨some 4, none, .bin .geq (.t 3) (.c (.int .i64 0)), none⟩,
 ⟨some 5, none, .mv (.t 4), none⟩,
 ⟨some 6, (some (5, true)), .mv (.t 0), none⟩,
 ⟨some 7, (some (5, true)), .bin .leq (.t 6) (.c (.int .i64 4611686018427387904)), none⟩,
 ⟨some 8, none, .pick (.t 5) (.t 7) (.c (.bool false)), none⟩,
 ⟨some 2, none, .mv (.t 8), none⟩])
 (.ret)))⟩
theorem J_record_number_ok : chkFn Try.prog 46 J_record_number = true := by kernel_rfl
end Go.Proofs.Ytpjlkefadnbgdaa
