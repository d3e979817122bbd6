/- Texts of one proof, laid together: Pr Inr Rs Rt Ru Rv Rw Rx Ry Qa Qb Ay Qc. -/
import Derived.Test.YtcbcnbefaggnhaaMR10
import Derived.Test.YtcbcnbefaggnhaaMR11
import Derived.Test.YtcbcnbefaggnhaaMR9

/- What the reference's In does, over the abstract code. -/
namespace Go.Proofs.Ytcbcnbefaggnhaa
set_option linter.unusedSimpArgs false
set_option linter.unusedVariables false
open Go.RowKit Go.Lib

/-- how many bytes are looked at where there is no number -/
def rdStop : Nat → List UInt8 → Nat
  | _, [] => 0
  | k, c :: r => if 9 ≤ k then 0 else if 0 < k ∧ c.toNat = 0 then 1 else if 128 ≤ c.toNat then 1 + rdStop (k + 1) r else 1
theorem rdStop_le : ∀ (l : List UInt8) (k : Nat), rdStop k l ≤ l.length
  | [], _ => by simp [rdStop]
  | c :: r, k => by
    have := rdStop_le r (k + 1)
    rw [rdStop, List.length_cons]
    split
    · omega
    · split
      · omega
      · split <;> omega
/-- the place behind what was looked at -/
def jStop (S : ByteArray) (s : Bool × Nat) : Nat := if s.1 then s.2 else s.2 + rdStop 0 (S.data.toList.drop s.2)
theorem jStop_le {S : ByteArray} {s : Bool × Nat} (h : s.2 ≤ S.size) : jStop S s ≤ S.size := by
  unfold jStop
  split
  · exact h
  · have := rdStop_le (S.data.toList.drop s.2) 0
    rw [List.length_drop, ba_len] at this; omega
set_option maxRecDepth 100000 in
set_option maxRecDepth 100000 in
set_option maxHeartbeats 2000000 in
theorem r_inum {h : Hp} {id : Nat} {S : ByteArray} {s : Bool × Nat} (most : Int) (ho : h[id]? = some (jObj S s)) (hs : S.size ≤ 1000000000000) (hp : s.2 ≤ S.size) :
    ACalls Try.prog 63 [.ptr id 0, .int .i64 most] h (fun a h' => a = vI (if s.1 then none else rNum S most s.2) ∧ h' = h.set id (jObj S (stO (if s.1 then none else rNum S most s.2) (jStop S s)))) := by
  obtain ⟨bad, p⟩ := s
  simp only [jObj] at ho hp ⊢
  refine acalls_of mixed J_ref07_In_Num_ok (Nat.le_of_ble_eq_true rfl) ?_; simp only [J_ref07_In_Num, wk,if_true,if_false,forall_const,implies_true,ne_eq,eq_self,Nat.reduceEqDiff,Nat.reduceAdd,Nat.reduceMul,Nat.reduceSub,Nat.reduceLeDiff,Nat.reduceLT,Int.reduceEq,Int.reduceLT,Int.reduceLE,Int.reduceAdd,Int.reduceSub,Int.reduceMul,Int.reduceNeg,Int.reduceNe,reduceCtorEq,Int.reduceToNat,↓reduceIte]
  simp only [wk,if_true,if_false,forall_const,implies_true,ne_eq,eq_self,Nat.reduceEqDiff,Nat.reduceAdd,Nat.reduceMul,Nat.reduceSub,Nat.reduceLeDiff,Nat.reduceLT,Int.reduceEq,Int.reduceLT,Int.reduceLE,Int.reduceAdd,Int.reduceSub,Int.reduceMul,Int.reduceNeg,Int.reduceNe,reduceCtorEq,Int.reduceToNat,↓reduceIte, ho]
  cases bad with
  | true =>
    refine ⟨fun _ => ⟨rfl, ?_⟩, fun hb => (nomatch hb)⟩
    simp only [stO, if_true, jStop]
    exact (hself ho).symm
  | false =>
    refine ⟨fun hb => (nomatch hb), fun _ => ?_⟩
    simp only [Bool.false_eq_true, if_false, jStop]
    refine W_loop (fun n fr h' => ∃ (k acc : Nat), k ≤ 9 ∧ n = 9 - k ∧ p + k ≤ S.size ∧ acc < 128 ^ k ∧ (∃ part : Int, (k ≤ 8 → part = ((128 ^ k : Nat) : Int)) ∧ fr = [(0, .ptr id 0), (1, .int .i64 most), (5, .int .i64 acc), (6, .int .i64 part), (7, .int .i64 k)]) ∧ h' = h.set id (jObj S (false, p + k)) ∧ rdNum (S.data.toList.drop p) = rdNumAt k acc (S.data.toList.drop (p + k)) ∧ rdStop 0 (S.data.toList.drop p) = k + rdStop k (S.data.toList.drop (p + k))) 9
      ⟨0, 0, by omega, rfl, by omega, by simp, ⟨1, fun _ => rfl, rfl⟩, by rw [Nat.add_zero]; exact (hself ho).symm, rfl, by simp⟩ ?_
    rintro n fr h' ⟨k, acc, hk9, rfl, hks, hacc, ⟨part, hpart, rfl⟩, rfl, hrd, hst⟩
    have hone : ∀ (q : Nat) (fr0 : Fr) (Q : Exit → Fr → Hp → Prop), restr [0] fr0 = [(0, .ptr id 0)] → (∀ fr, ev fr (.t 4) = some (.int .i64 0) → Q .ret fr (h.set id (jObj S (true, q)))) → W Try.prog J_ref07_In_Num_j1 fr0 (h.set id (jObj S (false, q))) Q := by
      intro q fr0 Q hf0 hQ
      simp only [J_ref07_In_Num_j1, W_keep]
      rw [hf0]
      simp only [wk,if_true,if_false,forall_const,implies_true,ne_eq,eq_self,Nat.reduceEqDiff,Nat.reduceAdd,Nat.reduceMul,Nat.reduceSub,Nat.reduceLeDiff,Nat.reduceLT,Int.reduceEq,Int.reduceLT,Int.reduceLE,Int.reduceAdd,Int.reduceSub,Int.reduceMul,Int.reduceNeg,Int.reduceNe,reduceCtorEq,Int.reduceToNat,↓reduceIte, hset ho]
      exact hQ _ (by rfl)
    have hnone : rNum S most p = none → AV.int .i64 0 = vI (rNum S most p) ∧ ∀ q, p + rdStop 0 (S.data.toList.drop p) = q → h.set id (jObj S (true, q)) = h.set id (jObj S (stO (rNum S most p) (p + rdStop 0 (S.data.toList.drop p)))) := by
      intro hn
      rw [hn]
      exact ⟨rfl, fun q hq => by rw [hq]; rfl⟩
    by_cases hk : k < 9
    · simp only [J_ref07_In_Num_j2, hset ho, show ((k : Int) < 9) = True from eq_true (by omega), wk,if_true,if_false,forall_const,implies_true,ne_eq,eq_self,Nat.reduceEqDiff,Nat.reduceAdd,Nat.reduceMul,Nat.reduceSub,Nat.reduceLeDiff,Nat.reduceLT,Int.reduceEq,Int.reduceLT,Int.reduceLE,Int.reduceAdd,Int.reduceSub,Int.reduceMul,Int.reduceNeg,Int.reduceNe,reduceCtorEq,Int.reduceToNat,↓reduceIte]
      refine ⟨fun hge => ?_, fun hlt => ?_⟩
      · -- the end
        have hd : S.data.toList.drop (p + k) = [] := List.drop_eq_nil_of_le (by rw [ba_len]; omega)
        have hn : rNum S most p = none := by unfold rNum; rw [hrd, hd]; rfl
        refine hone _ _ _ rfl fun fr hb => ?_
        simp only [wk,if_true,if_false,forall_const,implies_true,ne_eq,eq_self,Nat.reduceEqDiff,Nat.reduceAdd,Nat.reduceMul,Nat.reduceSub,Nat.reduceLeDiff,Nat.reduceLT,Int.reduceEq,Int.reduceLT,Int.reduceLE,Int.reduceAdd,Int.reduceSub,Int.reduceMul,Int.reduceNeg,Int.reduceNe,reduceCtorEq,Int.reduceToNat,↓reduceIte, hb]
        refine ⟨(hnone hn).1, (hnone hn).2 _ ?_⟩
        rw [hst, hd]; rfl
      · have hkd : p + k < S.data.toList.length := by rw [ba_len]; omega
        have hkl : p + k < S.size := by omega
        have hdrop : S.data.toList.drop (p + k) = S[p + k] :: S.data.toList.drop (p + k + 1) := by rw [List.drop_eq_getElem_cons hkd]; rfl
        have hb := S[p + k].toNat_lt
        rw [hdrop, rdNumAt, if_neg (by omega)] at hrd
        rw [hdrop, rdStop, if_neg (by omega)] at hst
        have hpart := hpart (by omega)
        subst hpart
        have hp1 : 128 ^ k ≤ 128 ^ 8 := Nat.pow_le_pow_right (by omega) (by omega)
        have hp2 : S[p + k].toNat % 128 * 128 ^ k ≤ 127 * 128 ^ 8 := Nat.mul_le_mul (by omega) hp1
        have hp3 : acc + S[p + k].toNat % 128 * 128 ^ k < 128 ^ (k + 1) := by
          have : S[p + k].toNat % 128 * 128 ^ k ≤ 127 * 128 ^ k := Nat.mul_le_mul (by omega) (Nat.le_refl _)
          rw [Nat.pow_succ]; omega
        have hbyte : IntKind.i64.wrap (byteAt S ((p + k : Nat) : Int).toNat : Int) = (S[p + k].toNat : Int) := by
          rw [show ((p + k : Nat) : Int).toNat = p + k by omega, byteAt_eq hkl, wrap_byte _ hb]
        have hmod : (S[p + k].toNat : Int).tmod 128 = ((S[p + k].toNat % 128 : Nat) : Int) := by
          rw [Int.tmod_eq_emod_of_nonneg (by omega)]; omega
        have hmul : IntKind.i64.wrap (((S[p + k].toNat % 128 : Nat) : Int) * ((128 ^ k : Nat) : Int)) = ((S[p + k].toNat % 128 * 128 ^ k : Nat) : Int) := by
          rw [← Int.natCast_mul, IntKind.wrap_i64]; omega
        refine ⟨⟨by omega, by omega⟩, ?_⟩
        simp only [hbyte, hset ho, hmod, hmul, wk,if_true,if_false,forall_const,implies_true,ne_eq,eq_self,Nat.reduceEqDiff,Nat.reduceAdd,Nat.reduceMul,Nat.reduceSub,Nat.reduceLeDiff,Nat.reduceLT,Int.reduceEq,Int.reduceLT,Int.reduceLE,Int.reduceAdd,Int.reduceSub,Int.reduceMul,Int.reduceNeg,Int.reduceNe,reduceCtorEq,Int.reduceToNat,↓reduceIte]
        refine ⟨inR_of (by omega) (by omega), ?_⟩
        by_cases hz : 0 < k ∧ S[p + k].toNat = 0
        · have hn : rNum S most p = none := by unfold rNum; rw [hrd, if_pos hz]
          rw [if_pos hz] at hst
          refine ⟨fun h0 => ⟨fun h1 => ?_, fun h1 => absurd hz.2 (by omega)⟩, fun h0 => absurd hz.1 (by omega)⟩
          refine hone (p + k + 1) _ _ rfl fun fr hb => ?_
          simp only [wk,if_true,if_false,forall_const,implies_true,ne_eq,eq_self,Nat.reduceEqDiff,Nat.reduceAdd,Nat.reduceMul,Nat.reduceSub,Nat.reduceLeDiff,Nat.reduceLT,Int.reduceEq,Int.reduceLT,Int.reduceLE,Int.reduceAdd,Int.reduceSub,Int.reduceMul,Int.reduceNeg,Int.reduceNe,reduceCtorEq,Int.reduceToNat,↓reduceIte, hb]
          exact ⟨(hnone hn).1, (hnone hn).2 _ (by omega)⟩
        rw [if_neg hz] at hrd hst
        refine ⟨fun h0 => ⟨fun h1 => absurd ⟨by omega, by omega⟩ hz, fun h1 => ?_⟩, fun h0 => ?_⟩
        all_goals
          refine ⟨inR_of (by omega) (by omega), ?_⟩
          refine ⟨fun hlt8 => ?_, fun hge8 => ?_⟩
          · have hm : S[p + k].toNat % 128 = S[p + k].toNat := Nat.mod_eq_of_lt (by omega)
            rw [if_neg (by omega)] at hrd hst
            rw [hm] at hp2 hp3 ⊢
            refine ⟨fun hmo => ⟨fun hmx => ?_, fun hmx => ?_⟩, fun hmo => ?_⟩
            rotate_left 2
            · have hn : rNum S most p = none := by
                unfold rNum; rw [hrd]
                by_cases hbig : acc + S[p + k].toNat * 128 ^ k > 4611686018427387904
                · rw [if_pos hbig]
                · rw [if_neg hbig]; simp only; rw [if_neg (by omega)]
              refine hone (p + k + 1) _ _ rfl fun fr hb => ?_
              simp only [wk,if_true,if_false,forall_const,implies_true,ne_eq,eq_self,Nat.reduceEqDiff,Nat.reduceAdd,Nat.reduceMul,Nat.reduceSub,Nat.reduceLeDiff,Nat.reduceLT,Int.reduceEq,Int.reduceLT,Int.reduceLE,Int.reduceAdd,Int.reduceSub,Int.reduceMul,Int.reduceNeg,Int.reduceNe,reduceCtorEq,Int.reduceToNat,↓reduceIte, hb]
              exact ⟨(hnone hn).1, (hnone hn).2 _ (by omega)⟩
            · have hn : rNum S most p = none := by
                unfold rNum; rw [hrd, if_pos (by omega)]
              refine hone (p + k + 1) _ _ rfl fun fr hb => ?_
              simp only [wk,if_true,if_false,forall_const,implies_true,ne_eq,eq_self,Nat.reduceEqDiff,Nat.reduceAdd,Nat.reduceMul,Nat.reduceSub,Nat.reduceLeDiff,Nat.reduceLT,Int.reduceEq,Int.reduceLT,Int.reduceLE,Int.reduceAdd,Int.reduceSub,Int.reduceMul,Int.reduceNeg,Int.reduceNe,reduceCtorEq,Int.reduceToNat,↓reduceIte, hb]
              exact ⟨(hnone hn).1, (hnone hn).2 _ (by omega)⟩
            · have hn : rNum S most p = some (acc + S[p + k].toNat * 128 ^ k, p + (k + 1)) := by
                unfold rNum; rw [hrd, if_neg (by omega)]; simp only; rw [if_pos (by omega)]
              rw [hn]
              exact ⟨rfl, rfl⟩
          · rw [if_pos (by omega)] at hrd hst
            refine ⟨inR_of (by omega) (by omega), 9 - (k + 1), by omega, k + 1, _, by omega, rfl, by omega, hp3, ⟨_, fun h8 => ?_, rfl⟩, rfl, hrd, by rw [hst, show p + (k + 1) = p + k + 1 from rfl]; omega⟩
            rw [IntKind.wrap_i64, Nat.pow_succ]
            have hp8 : 128 ^ k ≤ 128 ^ 7 := Nat.pow_le_pow_right (by omega) (by omega)
            omega
    · have hk9' : k = 9 := by omega
      subst hk9'
      have hn : rNum S most p = none := by unfold rNum; rw [hrd, rdNumAt_nine (by omega)]
      simp only [J_ref07_In_Num_j2, show ((9 : Nat) : Int) = 9 from rfl, wk,if_true,if_false,forall_const,implies_true,ne_eq,eq_self,Nat.reduceEqDiff,Nat.reduceAdd,Nat.reduceMul,Nat.reduceSub,Nat.reduceLeDiff,Nat.reduceLT,Int.reduceEq,Int.reduceLT,Int.reduceLE,Int.reduceAdd,Int.reduceSub,Int.reduceMul,Int.reduceNeg,Int.reduceNe,reduceCtorEq,Int.reduceToNat,↓reduceIte]
      refine hone _ _ _ rfl fun fr hb => ?_
      simp only [wk,if_true,if_false,forall_const,implies_true,ne_eq,eq_self,Nat.reduceEqDiff,Nat.reduceAdd,Nat.reduceMul,Nat.reduceSub,Nat.reduceLeDiff,Nat.reduceLT,Int.reduceEq,Int.reduceLT,Int.reduceLE,Int.reduceAdd,Int.reduceSub,Int.reduceMul,Int.reduceNeg,Int.reduceNe,reduceCtorEq,Int.reduceToNat,↓reduceIte, hb]
      refine ⟨(hnone hn).1, (hnone hn).2 _ ?_⟩
      rw [hst]
      cases S.data.toList.drop (p + 9) with
      | nil => rfl
      | cons c r => rw [rdStop, if_pos (by omega)]
theorem r_idone {h : Hp} {id : Nat} {S : ByteArray} {s : Bool × Nat} (ho : h[id]? = some (jObj S s)) (hs : S.size ≤ 1000000000000) (hp : s.2 ≤ S.size) :
    ACalls Try.prog 65 [.ptr id 0] h (fun a h' => a = .int .i64 (eI (s.1 || decide (s.2 < S.size))) ∧ h' = h.set id (jObj S (s.1 || decide (s.2 < S.size), s.2))) := by
  obtain ⟨bad, p⟩ := s
  simp only [jObj] at ho hp ⊢
  refine acalls_of mixed J_ref07_In_Done_ok (Nat.le_of_ble_eq_true rfl) ?_; simp only [J_ref07_In_Done, wk,if_true,if_false,forall_const,implies_true,ne_eq,eq_self,Nat.reduceEqDiff,Nat.reduceAdd,Nat.reduceMul,Nat.reduceSub,Nat.reduceLeDiff,Nat.reduceLT,Int.reduceEq,Int.reduceLT,Int.reduceLE,Int.reduceAdd,Int.reduceSub,Int.reduceMul,Int.reduceNeg,Int.reduceNe,reduceCtorEq,Int.reduceToNat,↓reduceIte]
  simp only [wk,if_true,if_false,forall_const,implies_true,ne_eq,eq_self,Nat.reduceEqDiff,Nat.reduceAdd,Nat.reduceMul,Nat.reduceSub,Nat.reduceLeDiff,Nat.reduceLT,Int.reduceEq,Int.reduceLT,Int.reduceLE,Int.reduceAdd,Int.reduceSub,Int.reduceMul,Int.reduceNeg,Int.reduceNe,reduceCtorEq,Int.reduceToNat,↓reduceIte, ho]
  cases bad with
  | true =>
    refine ⟨fun hb => (nomatch hb), fun _ => ?_⟩
    exact ⟨rfl, rfl⟩
  | false =>
    refine ⟨fun _ => ⟨fun hl => ?_, fun hl => ?_⟩, fun hb => (nomatch hb)⟩
    · rw [decide_eq_true (show p < S.size by omega)]; exact ⟨rfl, rfl⟩
    · rw [decide_eq_false (show ¬ p < S.size by omega)]; exact ⟨rfl, (hself ho).symm⟩
set_option maxRecDepth 100000 in
set_option maxHeartbeats 2000000 in
theorem r_iword {h : Hp} {id : Nat} {S : ByteArray} {s : Bool × Nat} (ho : h[id]? = some (jObj S s)) (hs : S.size ≤ 1000000000000) (hp : s.2 ≤ S.size) :
    ACalls Try.prog 99 [.ptr id 0] h (fun a h' => a = vS (if s.1 then none else rWord S s.2) ∧ h' = h.set id (jObj S (stO (if s.1 then none else rWord S s.2) s.2))) := by
  obtain ⟨bad, p⟩ := s
  simp only [jObj] at ho hp ⊢
  refine acalls_of mixed J_ref07_In_Word_ok (Nat.le_of_ble_eq_true rfl) ?_; simp only [J_ref07_In_Word, wk,if_true,if_false,forall_const,implies_true,ne_eq,eq_self,Nat.reduceEqDiff,Nat.reduceAdd,Nat.reduceMul,Nat.reduceSub,Nat.reduceLeDiff,Nat.reduceLT,Int.reduceEq,Int.reduceLT,Int.reduceLE,Int.reduceAdd,Int.reduceSub,Int.reduceMul,Int.reduceNeg,Int.reduceNe,reduceCtorEq,Int.reduceToNat,↓reduceIte]
  simp only [wk,if_true,if_false,forall_const,implies_true,ne_eq,eq_self,Nat.reduceEqDiff,Nat.reduceAdd,Nat.reduceMul,Nat.reduceSub,Nat.reduceLeDiff,Nat.reduceLT,Int.reduceEq,Int.reduceLT,Int.reduceLE,Int.reduceAdd,Int.reduceSub,Int.reduceMul,Int.reduceNeg,Int.reduceNe,reduceCtorEq,Int.reduceToNat,↓reduceIte, ho]
  cases bad with
  | true =>
    refine ⟨fun hb => (nomatch hb), fun _ => ?_⟩
    exact ⟨rfl, rfl⟩
  | false =>
    refine ⟨fun _ => ⟨fun hge => ?_, fun hlt => ?_⟩, fun hb => (nomatch hb)⟩
    · simp only [rWord, Bool.false_eq_true, if_false]
      rw [if_pos (by omega)]; exact ⟨rfl, rfl⟩
    · have hb := byteAt_lt S p
      refine ⟨⟨by omega, by omega⟩, ?_⟩
      rw [show (p : Int).toNat = p by omega, wrap_byte _ hb]
      refine ⟨inR_of (by omega) (by omega), inR_of (by omega) (by omega), inR_of (by omega) (by omega), ?_⟩
      simp only [Bool.false_eq_true, if_false, rWord]
      refine ⟨fun hng => ?_, fun hgt => ?_⟩
      · refine ⟨inR_of (by omega) (by omega), inR_of (by omega) (by omega), inR_of (by omega) (by omega), ⟨by omega, by omega, by omega⟩, ?_⟩
        rw [show ((p : Int) + 1).toNat = p + 1 by omega, show ((p : Int) + 1 + 2 * (byteAt S p : Int)).toNat = p + 1 + 2 * byteAt S p by omega, if_neg (by omega), if_neg (by omega)]
        refine ⟨_, p_rwmay (S.extract (p + 1) (p + 1 + 2 * byteAt S p)) (by simp; omega), ?_⟩
        simp only [wk,if_true,if_false,forall_const,implies_true,ne_eq,eq_self,Nat.reduceEqDiff,Nat.reduceAdd,Nat.reduceMul,Nat.reduceSub,Nat.reduceLeDiff,Nat.reduceLT,Int.reduceEq,Int.reduceLT,Int.reduceLE,Int.reduceAdd,Int.reduceSub,Int.reduceMul,Int.reduceNeg,Int.reduceNe,reduceCtorEq,Int.reduceToNat,↓reduceIte]
        refine ⟨fun hm => ?_, fun hm => ?_⟩
        · simp only [wk,if_true,if_false,forall_const,implies_true,ne_eq,eq_self,Nat.reduceEqDiff,Nat.reduceAdd,Nat.reduceMul,Nat.reduceSub,Nat.reduceLeDiff,Nat.reduceLT,Int.reduceEq,Int.reduceLT,Int.reduceLE,Int.reduceAdd,Int.reduceSub,Int.reduceMul,Int.reduceNeg,Int.reduceNe,reduceCtorEq,Int.reduceToNat,↓reduceIte, hm, ho]
          exact ⟨rfl, rfl⟩
        · simp only [wk,if_true,if_false,forall_const,implies_true,ne_eq,eq_self,Nat.reduceEqDiff,Nat.reduceAdd,Nat.reduceMul,Nat.reduceSub,Nat.reduceLeDiff,Nat.reduceLT,Int.reduceEq,Int.reduceLT,Int.reduceLE,Int.reduceAdd,Int.reduceSub,Int.reduceMul,Int.reduceNeg,Int.reduceNe,reduceCtorEq,Int.reduceToNat,↓reduceIte, hm, ho]
          refine ⟨inR_of (by omega) (by omega), inR_of (by omega) (by omega), inR_of (by omega) (by omega), ⟨by omega, by omega, by omega⟩, inR_of (by omega) (by omega), inR_of (by omega) (by omega), ?_⟩
          refine ⟨rfl, ?_⟩
          rw [show (p : Int) + (1 + 2 * (byteAt S p : Int)) = ((p + 1 + 2 * byteAt S p : Nat) : Int) by omega]
          rfl
      · rw [if_neg (by omega), if_pos (by omega)]; exact ⟨rfl, rfl⟩
set_option maxRecDepth 100000 in
set_option maxHeartbeats 2000000 in
theorem r_iset {h : Hp} {id : Nat} {S : ByteArray} {s : Bool × Nat} (ho : h[id]? = some (jObj S s)) (hs : S.size ≤ 1000000000000) (hp : s.2 ≤ S.size) :
    ACalls Try.prog 64 [.ptr id 0] h (fun a h' => a = vL (if s.1 then none else rSet S s.2) ∧ ∃ q, q ≤ S.size ∧ h' = h.set id (jObj S (stO (if s.1 then none else rSet S s.2) q))) := by
  obtain ⟨bad, p⟩ := s
  simp only [jObj] at ho hp ⊢
  refine acalls_of mixed J_ref07_In_Set_ok (Nat.le_of_ble_eq_true rfl) ?_; simp only [J_ref07_In_Set, wk,if_true,if_false,forall_const,implies_true,ne_eq,eq_self,Nat.reduceEqDiff,Nat.reduceAdd,Nat.reduceMul,Nat.reduceSub,Nat.reduceLeDiff,Nat.reduceLT,Int.reduceEq,Int.reduceLT,Int.reduceLE,Int.reduceAdd,Int.reduceSub,Int.reduceMul,Int.reduceNeg,Int.reduceNe,reduceCtorEq,Int.reduceToNat,↓reduceIte]
  simp only [wk,if_true,if_false,forall_const,implies_true,ne_eq,eq_self,Nat.reduceEqDiff,Nat.reduceAdd,Nat.reduceMul,Nat.reduceSub,Nat.reduceLeDiff,Nat.reduceLT,Int.reduceEq,Int.reduceLT,Int.reduceLE,Int.reduceAdd,Int.reduceSub,Int.reduceMul,Int.reduceNeg,Int.reduceNe,reduceCtorEq,Int.reduceToNat,↓reduceIte, ho]
  cases bad with
  | true =>
    refine ⟨fun hb => (nomatch hb), fun _ => ?_⟩
    exact ⟨rfl, _, hp, rfl⟩
  | false =>
    refine ⟨fun _ => ⟨fun hge => ?_, fun hlt => ?_⟩, fun hb => (nomatch hb)⟩
    · simp only [rSet, Bool.false_eq_true, if_false]
      rw [if_pos (by omega)]; exact ⟨rfl, _, hp, rfl⟩
    · have hb := byteAt_lt S p
      refine ⟨⟨by omega, by omega⟩, ?_⟩
      rw [show (p : Int).toNat = p by omega, wrap_byte _ hb]
      refine ⟨inR_of (by omega) (by omega), ?_⟩
      simp only [Bool.false_eq_true, if_false, rSet]
      rw [if_neg (by omega)]
      obtain ⟨n, hn⟩ : ∃ n, n = byteAt S p := ⟨_, rfl⟩
      rw [← hn] at hb ⊢
      rw [show (p : Int) + 1 = ((p + 1 : Nat) : Int) by omega]
      refine W_loop (fun k fr h' => ∃ (i q' : Nat) (ws : List ByteArray), i ≤ n ∧ k = n - i ∧ ws.length = i ∧ q' ≤ S.size ∧ fr = [(0, .ptr id 0), (3, .int .i64 n), (4, .lst (.own 44) i (ws.map .str)), (5, .int .i64 i)] ∧ h' = h.set id (jObj S (stO (rWords S (p + 1) i) q')) ∧ ∀ l q'', rWords S (p + 1) i = some (l, q'') → ws = l) n ⟨0, p, [], by omega, by omega, rfl, hp, rfl, rfl, fun l q'' h => by simp only [rWords, Option.some.injEq, Prod.mk.injEq] at h; exact h.1⟩ ?_
      rintro k fr h' ⟨i, q', ws, hi, rfl, hwl, hq', rfl, rfl, hws⟩
      have hdone : (rWords S (p + 1) i = none ∨ i = n) → ∀ Q, (∀ fr a h', ev fr (.t 2) = some a → a = vL (match rWords S (p + 1) n with | some (l, q) => if setMay l then some (l, q) else none | none => none) → (∃ q, q ≤ S.size ∧ h' = h.set id (jObj S (stO (match rWords S (p + 1) n with | some (l, q) => if setMay l then some (l, q) else none | none => none) q))) → Q .ret fr h') → ∀ fr0, restr [0, 4] fr0 = [(0, .ptr id 0), (4, .lst (.own 44) i (ws.map .str))] → W Try.prog J_ref07_In_Set_j1 fr0 (h.set id (jObj S (stO (rWords S (p + 1) i) q'))) Q := by
        intro hcase Q hQ fr0 hf0
        simp only [J_ref07_In_Set_j1, W_keep]
        rw [hf0]
        cases hw : rWords S (p + 1) i with
        | none =>
          have hwn : rWords S (p + 1) n = none := by
            have : ∀ j, rWords S (p + 1) (i + j) = none := by
              intro j
              induction j with
              | zero => exact hw
              | succ j ih => show rWords S (p + 1) (i + j + 1) = none; simp only [rWords, ih]
            have := this (n - i)
            rwa [show i + (n - i) = n by omega] at this
          simp only [hset ho, stO, wk,if_true,if_false,forall_const,implies_true,ne_eq,eq_self,Nat.reduceEqDiff,Nat.reduceAdd,Nat.reduceMul,Nat.reduceSub,Nat.reduceLeDiff,Nat.reduceLT,Int.reduceEq,Int.reduceLT,Int.reduceLE,Int.reduceAdd,Int.reduceSub,Int.reduceMul,Int.reduceNeg,Int.reduceNe,reduceCtorEq,Int.reduceToNat,↓reduceIte]
          rw [hwn] at hQ
          exact hQ _ _ _ (by rfl) rfl ⟨q', hq', rfl⟩
        | some x =>
          obtain ⟨l, q3⟩ := x
          have hin : i = n := by rcases hcase with h | h; (rw [h] at hw; cases hw); exact h
          subst hin
          have hl := hws l q3 hw
          subst hl
          have hwl' := rWords_le (by omega) hw
          simp only [hset ho, stO, wk,if_true,if_false,forall_const,implies_true,ne_eq,eq_self,Nat.reduceEqDiff,Nat.reduceAdd,Nat.reduceMul,Nat.reduceSub,Nat.reduceLeDiff,Nat.reduceLT,Int.reduceEq,Int.reduceLT,Int.reduceLE,Int.reduceAdd,Int.reduceSub,Int.reduceMul,Int.reduceNeg,Int.reduceNe,reduceCtorEq,Int.reduceToNat,↓reduceIte]
          rw [← hwl]
          refine PCalls.use (p_rsmay ws (by omega) (fun x hx => by have := wordMay_size (hwl'.2.2.2 x hx); omega)) ?_; simp only [wk,if_true,if_false,forall_const,implies_true,ne_eq,eq_self,Nat.reduceEqDiff,Nat.reduceAdd,Nat.reduceMul,Nat.reduceSub,Nat.reduceLeDiff,Nat.reduceLT,Int.reduceEq,Int.reduceLT,Int.reduceLE,Int.reduceAdd,Int.reduceSub,Int.reduceMul,Int.reduceNeg,Int.reduceNe,reduceCtorEq,Int.reduceToNat,↓reduceIte]
          rw [hw] at hQ
          simp only at hQ
          refine ⟨fun hm => ?_, fun hm => ?_⟩
          · simp only [wk,if_true,if_false,forall_const,implies_true,ne_eq,eq_self,Nat.reduceEqDiff,Nat.reduceAdd,Nat.reduceMul,Nat.reduceSub,Nat.reduceLeDiff,Nat.reduceLT,Int.reduceEq,Int.reduceLT,Int.reduceLE,Int.reduceAdd,Int.reduceSub,Int.reduceMul,Int.reduceNeg,Int.reduceNe,reduceCtorEq,Int.reduceToNat,↓reduceIte, hset ho]
            rw [hm] at hQ
            exact hQ _ _ _ (by rfl) rfl ⟨q3, hwl'.2.2.1, rfl⟩
          · rw [hm] at hQ
            exact hQ _ _ _ (by rfl) rfl ⟨q3, hwl'.2.2.1, rfl⟩
      have hret : ∀ {fr : Fr} {a : AV} {h' : Hp}, ev fr (.t 2) = some a → a = vL (match rWords S (p + 1) n with | some (l, q) => if setMay l then some (l, q) else none | none => none) → (∃ q, q ≤ S.size ∧ h' = h.set id (jObj S (stO (match rWords S (p + 1) n with | some (l, q) => if setMay l then some (l, q) else none | none => none) q))) → resL fr h' [.t 2] (res1 fun a => a = vL (match rWords S (p + 1) n with | some (l, q) => if setMay l then some (l, q) else none | none => none) ∧ ∃ q, q ≤ S.size ∧ h' = h.set id (jObj S (stO (match rWords S (p + 1) n with | some (l, q) => if setMay l then some (l, q) else none | none => none) q))) := by
        intro fr a h' h1 h2 h3
        simp only [wk,if_true,if_false,forall_const,implies_true,ne_eq,eq_self,Nat.reduceEqDiff,Nat.reduceAdd,Nat.reduceMul,Nat.reduceSub,Nat.reduceLeDiff,Nat.reduceLT,Int.reduceEq,Int.reduceLT,Int.reduceLE,Int.reduceAdd,Int.reduceSub,Int.reduceMul,Int.reduceNeg,Int.reduceNe,reduceCtorEq,Int.reduceToNat,↓reduceIte, h1]
        exact ⟨h2, h3⟩
      cases hw : rWords S (p + 1) i with
      | none =>
        rw [hw] at hdone
        simp only [J_ref07_In_Set_j2, stO, hset ho, wk,if_true,if_false,forall_const,implies_true,ne_eq,eq_self,Nat.reduceEqDiff,Nat.reduceAdd,Nat.reduceMul,Nat.reduceSub,Nat.reduceLeDiff,Nat.reduceLT,Int.reduceEq,Int.reduceLT,Int.reduceLE,Int.reduceAdd,Int.reduceSub,Int.reduceMul,Int.reduceNeg,Int.reduceNe,reduceCtorEq,Int.reduceToNat,↓reduceIte]
        refine ⟨fun hlt2 => hdone (.inl rfl) _ (fun fr a h' h1 h2 h3 => ?_) _ rfl, fun hge => hdone (.inl rfl) _ (fun fr a h' h1 h2 h3 => ?_) _ rfl⟩
        · simp only [wk,if_true,if_false,forall_const,implies_true,ne_eq,eq_self,Nat.reduceEqDiff,Nat.reduceAdd,Nat.reduceMul,Nat.reduceSub,Nat.reduceLeDiff,Nat.reduceLT,Int.reduceEq,Int.reduceLT,Int.reduceLE,Int.reduceAdd,Int.reduceSub,Int.reduceMul,Int.reduceNeg,Int.reduceNe,reduceCtorEq,Int.reduceToNat,↓reduceIte]
          exact hret h1 h2 h3
        · simp only [wk,if_true,if_false,forall_const,implies_true,ne_eq,eq_self,Nat.reduceEqDiff,Nat.reduceAdd,Nat.reduceMul,Nat.reduceSub,Nat.reduceLeDiff,Nat.reduceLT,Int.reduceEq,Int.reduceLT,Int.reduceLE,Int.reduceAdd,Int.reduceSub,Int.reduceMul,Int.reduceNeg,Int.reduceNe,reduceCtorEq,Int.reduceToNat,↓reduceIte]
          exact hret h1 h2 h3
      | some x =>
        obtain ⟨l, q3⟩ := x
        have hl := hws l q3 hw
        subst hl
        have hwl' := rWords_le (by omega) hw
        rw [hw] at hdone
        simp only [J_ref07_In_Set_j2, stO, hset ho, wk,if_true,if_false,forall_const,implies_true,ne_eq,eq_self,Nat.reduceEqDiff,Nat.reduceAdd,Nat.reduceMul,Nat.reduceSub,Nat.reduceLeDiff,Nat.reduceLT,Int.reduceEq,Int.reduceLT,Int.reduceLE,Int.reduceAdd,Int.reduceSub,Int.reduceMul,Int.reduceNeg,Int.reduceNe,reduceCtorEq,Int.reduceToNat,↓reduceIte]
        refine ⟨fun hlt2 => ?_, fun hge => hdone (.inr (by omega)) _ (fun fr a h' h1 h2 h3 => ?_) _ rfl⟩
        · have hword := r_iword (s := (false, q3)) (hset ho (jObj S (false, q3))) hs hwl'.2.2.1
          simp only [Bool.false_eq_true, if_false, List.set_set] at hword
          have hstep : rWords S (p + 1) (i + 1) = match rWord S q3 with | some (w, q'') => some (ws ++ [w], q'') | none => none := by
            simp only [rWords, hw] <;> (cases rWord S q3 <;> rfl)
          obtain ⟨w, hwv, hwx⟩ := vS_str (rWord S q3)
          rw [hwv] at hword
          refine ACalls.use (hword) ?_; rintro _ _ ⟨rfl, rfl⟩; simp only [wk,if_true,if_false,forall_const,implies_true,ne_eq,eq_self,Nat.reduceEqDiff,Nat.reduceAdd,Nat.reduceMul,Nat.reduceSub,Nat.reduceLeDiff,Nat.reduceLT,Int.reduceEq,Int.reduceLT,Int.reduceLE,Int.reduceAdd,Int.reduceSub,Int.reduceMul,Int.reduceNeg,Int.reduceNe,reduceCtorEq,Int.reduceToNat,↓reduceIte]
          (repeat (refine And.intro (by first | omega | exact inR_of (by omega) (by omega) | exact ⟨by omega, by omega⟩ | exact ⟨by omega, by omega, by omega⟩ | rfl) ?_))
          refine ⟨n - (i + 1), by omega, i + 1, q3, ws ++ [w], by omega, rfl, by simp [hwl], hwl'.2.2.1, by simp, ?_, ?_⟩
          · rw [hstep] <;> (cases rWord S q3 <;> rfl)
          · intro l q'' he
            rw [hstep] at he
            cases hw2 : rWord S q3 with
            | none => rw [hw2] at he; cases he
            | some y =>
              obtain ⟨w', q4⟩ := y
              rw [hw2] at he
              simp only [Option.some.injEq, Prod.mk.injEq] at he
              rw [← hwx w' q4 hw2, he.1]
        · simp only [wk,if_true,if_false,forall_const,implies_true,ne_eq,eq_self,Nat.reduceEqDiff,Nat.reduceAdd,Nat.reduceMul,Nat.reduceSub,Nat.reduceLeDiff,Nat.reduceLT,Int.reduceEq,Int.reduceLT,Int.reduceLE,Int.reduceAdd,Int.reduceSub,Int.reduceMul,Int.reduceNeg,Int.reduceNe,reduceCtorEq,Int.reduceToNat,↓reduceIte]
          exact hret h1 h2 h3
end Go.Proofs.Ytcbcnbefaggnhaa

/- What the reference reads of bytes. -/
namespace Go.Proofs.Ytcbcnbefaggnhaa
set_option linter.unusedSimpArgs false
set_option linter.unusedVariables false
open Go.RowKit Go.Lib

theorem b_num' {h : Hp} {id : Nat} {S : ByteArray} {s : Bool × Nat} (most : Int) (ho : h[id]? = some (jObj S s)) (hs : S.size ≤ 1000000) (hp : s.2 ≤ S.size) {r : Option (Nat × Nat)} (e : r = rN S most s) {s' : Bool × Nat} (d : s' = stO r (jStop S s)) :
    ACalls Try.prog 63 [.ptr id 0, .int .i64 most] h (fun a h' => a = .int .i64 (nI r) ∧ h' = h.set id (jObj S s')) := by
  have := r_inum most ho (by omega) hp
  rw [rN_eq, ← e, vI_n, ← d] at this
  exact this
theorem b_word' {h : Hp} {id : Nat} {S : ByteArray} {s : Bool × Nat} (ho : h[id]? = some (jObj S s)) (hs : S.size ≤ 1000000) (hp : s.2 ≤ S.size) {r : Option (ByteArray × Nat)} (e : r = rW S s) {s' : Bool × Nat} (d : s' = stO r s.2) :
    ACalls Try.prog 99 [.ptr id 0] h (fun a h' => a = .str (nS r) ∧ h' = h.set id (jObj S s')) := by
  have := r_iword ho (by omega) hp
  rw [rW_eq, ← e, vS_n, ← d] at this
  exact this
theorem b_set' {h : Hp} {id : Nat} {S : ByteArray} {s : Bool × Nat} (ho : h[id]? = some (jObj S s)) (hs : S.size ≤ 1000000) (hp : s.2 ≤ S.size) {r : Option (List ByteArray × Nat)} (e : r = rL S s) :
    ACalls Try.prog 64 [.ptr id 0] h (fun a h' => a = .lst (fL r) (nL r).length ((nL r).map .str) ∧ ∃ q, q ≤ S.size ∧ h' = h.set id (jObj S (stO r q))) := by
  have := r_iset ho (by omega) hp
  rw [rL_eq, ← e, vL_n] at this
  exact this
theorem str_app2 (a b : List UInt8) : (⟨a.toArray⟩ ++ ⟨b.toArray⟩ : ByteArray) = ⟨(a ++ b).toArray⟩ := by
  apply ByteArray.ext; apply Array.ext'; simp
end Go.Proofs.Ytcbcnbefaggnhaa

/- Records in the reference: Same, Encode. -/
namespace Go.Proofs.Ytcbcnbefaggnhaa
set_option linter.unusedSimpArgs false
set_option linter.unusedVariables false
open Go.RowKit Go.Lib

set_option maxRecDepth 100000 in
set_option maxHeartbeats 8000000 in
theorem p_rrsame (a b : Rcd) (ha : smallR a) (hb : smallR b) : PCalls Try.prog 20 [vR a, vR b] (.bool (sameR a b)) := by
  refine pcalls_of (by simp [free.frees, free_vR]) rfl (acalls_of mixed J_ref21_Same_ok (Nat.le_of_ble_eq_true rfl) ?_); simp only [J_ref21_Same, vR, rC, wk,if_true,if_false,forall_const,implies_true,ne_eq,eq_self,Nat.reduceEqDiff,Nat.reduceAdd,Nat.reduceMul,Nat.reduceSub,Nat.reduceLeDiff,Nat.reduceLT,Int.reduceEq,Int.reduceLT,Int.reduceLE,Int.reduceAdd,Int.reduceSub,Int.reduceMul,Int.reduceNeg,Int.reduceNe,reduceCtorEq,Int.reduceToNat,↓reduceIte]
  have no : sameR a b = false → AV.bool false = .bool (sameR a b) := fun e => by rw [e]
  refine ⟨fun e1 => ⟨fun e2 => no (by have : ¬ a.objs.length = b.objs.length := by omega
                                      simp [sameR, this]), fun e2 => ?_⟩, fun e1 => no (by simp [sameR, e1])⟩
  have hn : a.objs.length = b.objs.length := by omega
  have hla := ha.1
  refine W_loop (fun n fr h' => ∃ (i : Nat) (ex : Hp), i ≤ a.objs.length ∧ n = a.objs.length - i ∧ h' = some (false, [.int .i64 a.boot, .lst .ro a.objs.length (objsC a.objs)]) :: some (false, [.int .i64 b.boot, .lst .ro b.objs.length (objsC b.objs)]) :: ex ∧ fr = [(2, .ptr 0 0), (3, .ptr 1 0), (5, .int .i64 i)] ∧ ∀ (k : Nat) (h1 : k < a.objs.length) (h2 : k < b.objs.length), k < i → sameO a.objs[k] b.objs[k] = true) a.objs.length ⟨0, [], by omega, by omega, rfl, rfl, fun k _ _ h => by omega⟩ ?_
  rintro n fr h' ⟨i, ex, hi, rfl, rfl, rfl, hall⟩
  simp only [J_ref21_Same_j4, wk,if_true,if_false,forall_const,implies_true,ne_eq,eq_self,Nat.reduceEqDiff,Nat.reduceAdd,Nat.reduceMul,Nat.reduceSub,Nat.reduceLeDiff,Nat.reduceLT,Int.reduceEq,Int.reduceLT,Int.reduceLE,Int.reduceAdd,Int.reduceSub,Int.reduceMul,Int.reduceNeg,Int.reduceNe,reduceCtorEq,Int.reduceToNat,↓reduceIte]
  refine ⟨fun hlt => ?_, fun hge => ?_⟩
  · have hil : i < a.objs.length := by omega
    have hil2 : i < b.objs.length := by omega
    have hd : (objsC a.objs).drop ((i : Int).toNat * 3) = .int .i64 a.objs[i].value :: .lst .ro a.objs[i].ents.length (entsC a.objs[i].ents) :: .int .i64 a.objs[i].version :: (objsC a.objs).drop ((i + 1) * 3) := by rw [show (i : Int).toNat = i by omega]; exact objsC_drop hil
    have hd2 : (objsC b.objs).drop ((i : Int).toNat * 3) = .int .i64 b.objs[i].value :: .lst .ro b.objs[i].ents.length (entsC b.objs[i].ents) :: .int .i64 b.objs[i].version :: (objsC b.objs).drop ((i + 1) * 3) := by rw [show (i : Int).toNat = i by omega]; exact objsC_drop hil2
    have hin : ((0 ≤ (i : Int)) ∧ (i : Int) < (a.objs.length : Int)) = True := by simp; omega
    have hin2 : ((0 ≤ (i : Int)) ∧ (i : Int) < (b.objs.length : Int)) = True := by simp; omega
    simp only [hin, hin2, hd, hd2, true_and, wk,if_true,if_false,forall_const,implies_true,ne_eq,eq_self,Nat.reduceEqDiff,Nat.reduceAdd,Nat.reduceMul,Nat.reduceSub,Nat.reduceLeDiff,Nat.reduceLT,Int.reduceEq,Int.reduceLT,Int.reduceLE,Int.reduceAdd,Int.reduceSub,Int.reduceMul,Int.reduceNeg,Int.reduceNe,reduceCtorEq,Int.reduceToNat,↓reduceIte]
    simp only [two0, two1, two2, wk,if_true,if_false,forall_const,implies_true,ne_eq,eq_self,Nat.reduceEqDiff,Nat.reduceAdd,Nat.reduceMul,Nat.reduceSub,Nat.reduceLeDiff,Nat.reduceLT,Int.reduceEq,Int.reduceLT,Int.reduceLE,Int.reduceAdd,Int.reduceSub,Int.reduceMul,Int.reduceNeg,Int.reduceNe,reduceCtorEq,Int.reduceToNat,↓reduceIte]
    have nox : sameO a.objs[i] b.objs[i] = false → AV.bool false = .bool (sameR a b) := fun e => no (sameR_no hil hil2 e)
    refine ⟨fun v1 => ⟨fun v2 => ⟨fun v3 => nox (by have : ¬ a.objs[i].ents.length = b.objs[i].ents.length := by omega
                                                    simp [sameO, this]), fun v3 => ?_⟩, fun v2 => nox (by simp [sameO, v2])⟩, fun v1 => nox (by simp [sameO, v1])⟩
    have hne : a.objs[i].ents.length = b.objs[i].ents.length := by omega
    have hso := ha.2 _ (List.getElem_mem hil)
    have hsl := hso.1
    obtain ⟨H, hH⟩ : ∃ H : Hp, H = some (false, [.int .i64 a.boot, .lst .ro a.objs.length (objsC a.objs)]) :: some (false, [.int .i64 b.boot, .lst .ro b.objs.length (objsC b.objs)]) :: (ex ++ [some (true, [.int .i64 a.objs[i].value, .lst .ro a.objs[i].ents.length (entsC a.objs[i].ents), .int .i64 a.objs[i].version])] ++ [some (true, [.int .i64 b.objs[i].value, .lst .ro b.objs[i].ents.length (entsC b.objs[i].ents), .int .i64 b.objs[i].version])]) := ⟨_, rfl⟩
    rw [← hH]
    have g6 : H[ex.length + 1 + 1]? = some (some (true, [.int .i64 a.objs[i].value, .lst .ro a.objs[i].ents.length (entsC a.objs[i].ents), .int .i64 a.objs[i].version])) := by rw [hH]; simp
    have g7 : H[ex.length + 1 + 1 + 1]? = some (some (true, [.int .i64 b.objs[i].value, .lst .ro b.objs[i].ents.length (entsC b.objs[i].ents), .int .i64 b.objs[i].version])) := by rw [hH]; simp
    refine W_loop (fun n fr h' => ∃ (j : Nat), j ≤ a.objs[i].ents.length ∧ n = a.objs[i].ents.length - j ∧ h' = H ∧ fr = [(2, .ptr 0 0), (3, .ptr 1 0), (5, .int .i64 i), (6, .ptr (ex.length + 1 + 1) 0), (7, .ptr (ex.length + 1 + 1 + 1) 0), (8, .int .i64 j)] ∧ ∀ (k : Nat) (h1 : k < a.objs[i].ents.length) (h2 : k < b.objs[i].ents.length), k < j → sameEnt a.objs[i].ents[k] b.objs[i].ents[k] = true) a.objs[i].ents.length ⟨0, by omega, by omega, rfl, rfl, fun k _ _ h => by omega⟩ ?_
    rintro n fr h' ⟨j, hj, rfl, rfl, rfl, hall2⟩
    simp only [J_ref21_Same_j3, g6, g7, wk,if_true,if_false,forall_const,implies_true,ne_eq,eq_self,Nat.reduceEqDiff,Nat.reduceAdd,Nat.reduceMul,Nat.reduceSub,Nat.reduceLeDiff,Nat.reduceLT,Int.reduceEq,Int.reduceLT,Int.reduceLE,Int.reduceAdd,Int.reduceSub,Int.reduceMul,Int.reduceNeg,Int.reduceNe,reduceCtorEq,Int.reduceToNat,↓reduceIte]
    refine ⟨fun hlt2 => ?_, fun hge2 => ?_⟩
    · have hjl : j < a.objs[i].ents.length := by omega
      have hjl2 : j < b.objs[i].ents.length := by omega
      have hf : (entsC a.objs[i].ents).drop ((j : Int).toNat * 2) = .int .i64 a.objs[i].ents[j].op :: .lst .ro a.objs[i].ents[j].who.length (a.objs[i].ents[j].who.map .str) :: (entsC a.objs[i].ents).drop ((j + 1) * 2) := by rw [show (j : Int).toNat = j by omega]; exact entsC_drop hjl
      have hf2 : (entsC b.objs[i].ents).drop ((j : Int).toNat * 2) = .int .i64 b.objs[i].ents[j].op :: .lst .ro b.objs[i].ents[j].who.length (b.objs[i].ents[j].who.map .str) :: (entsC b.objs[i].ents).drop ((j + 1) * 2) := by rw [show (j : Int).toNat = j by omega]; exact entsC_drop hjl2
      have hjn : ((0 ≤ (j : Int)) ∧ (j : Int) < (a.objs[i].ents.length : Int)) = True := by simp; omega
      have hjn2 : ((0 ≤ (j : Int)) ∧ (j : Int) < (b.objs[i].ents.length : Int)) = True := by simp; omega
      have hw := (hso.2 _ (List.getElem_mem hjl)).1
      have qs := p_resame a.objs[i].ents[j] b.objs[i].ents[j] (by omega)
      simp only [vE, eC] at qs
      simp only [hjn, hjn2, hf, hf2, true_and, wk,if_true,if_false,forall_const,implies_true,ne_eq,eq_self,Nat.reduceEqDiff,Nat.reduceAdd,Nat.reduceMul,Nat.reduceSub,Nat.reduceLeDiff,Nat.reduceLT,Int.reduceEq,Int.reduceLT,Int.reduceLE,Int.reduceAdd,Int.reduceSub,Int.reduceMul,Int.reduceNeg,Int.reduceNe,reduceCtorEq,Int.reduceToNat,↓reduceIte]
      refine ⟨_, qs, ?_⟩
      simp only [wk,if_true,if_false,forall_const,implies_true,ne_eq,eq_self,Nat.reduceEqDiff,Nat.reduceAdd,Nat.reduceMul,Nat.reduceSub,Nat.reduceLeDiff,Nat.reduceLT,Int.reduceEq,Int.reduceLT,Int.reduceLE,Int.reduceAdd,Int.reduceSub,Int.reduceMul,Int.reduceNeg,Int.reduceNe,reduceCtorEq,Int.reduceToNat,↓reduceIte]
      refine ⟨fun e => nox (sameO_no hjl hjl2 e), fun e => ⟨inR_of (by omega) (by omega), a.objs[i].ents.length - (j + 1), by omega, j + 1, by omega, rfl, by simp, fun k h1 h2 hk => ?_⟩⟩
      by_cases hkj : k < j
      · exact hall2 k h1 h2 hkj
      · obtain rfl : k = j := by omega
        exact e
    · have hyes : sameO a.objs[i] b.objs[i] = true := by
        simp only [sameO, Bool.and_eq_true, decide_eq_true_eq]
        exact ⟨v1, v2, hne, all_zip hne (fun k h1 h2 => hall2 k h1 h2 (by omega))⟩
      simp only [J_ref21_Same_j2, wk,if_true,if_false,forall_const,implies_true,ne_eq,eq_self,Nat.reduceEqDiff,Nat.reduceAdd,Nat.reduceMul,Nat.reduceSub,Nat.reduceLeDiff,Nat.reduceLT,Int.reduceEq,Int.reduceLT,Int.reduceLE,Int.reduceAdd,Int.reduceSub,Int.reduceMul,Int.reduceNeg,Int.reduceNe,reduceCtorEq,Int.reduceToNat,↓reduceIte]
      refine ⟨inR_of (by omega) (by omega), a.objs.length - (i + 1), by omega, i + 1, _, by omega, rfl, hH, by simp, fun k h1 h2 hk => ?_⟩
      by_cases hki : k < i
      · exact hall k h1 h2 hki
      · obtain rfl : k = i := by omega
        exact hyes
  · simp only [J_ref21_Same_j1, wk,if_true,if_false,forall_const,implies_true,ne_eq,eq_self,Nat.reduceEqDiff,Nat.reduceAdd,Nat.reduceMul,Nat.reduceSub,Nat.reduceLeDiff,Nat.reduceLT,Int.reduceEq,Int.reduceLT,Int.reduceLE,Int.reduceAdd,Int.reduceSub,Int.reduceMul,Int.reduceNeg,Int.reduceNe,reduceCtorEq,Int.reduceToNat,↓reduceIte]
    congr 1
    symm
    simp only [sameR, Bool.and_eq_true, decide_eq_true_eq]
    exact ⟨e1, hn, all_zip hn (fun k h1 h2 => hall k h1 h2 (by omega))⟩
set_option maxRecDepth 100000 in
set_option maxHeartbeats 8000000 in
theorem p_rrenc (r : Rcd) (hr : smallR r) : PCalls Try.prog 27 [vR r] (encR r) := by
  have m1 := p_rrmay r hr
  simp only [vR, rC] at m1
  refine pcalls_of (by simp [free.frees, free_vR]) (free_encR r) (acalls_of mixed J_ref21_Encode_ok (Nat.le_of_ble_eq_true rfl) ?_); simp only [J_ref21_Encode, vR, rC, wk,if_true,if_false,forall_const,implies_true,ne_eq,eq_self,Nat.reduceEqDiff,Nat.reduceAdd,Nat.reduceMul,Nat.reduceSub,Nat.reduceLeDiff,Nat.reduceLT,Int.reduceEq,Int.reduceLT,Int.reduceLE,Int.reduceAdd,Int.reduceSub,Int.reduceMul,Int.reduceNeg,Int.reduceNe,reduceCtorEq,Int.reduceToNat,↓reduceIte]
  refine PCalls.use (m1) ?_; simp only [wk,if_true,if_false,forall_const,implies_true,ne_eq,eq_self,Nat.reduceEqDiff,Nat.reduceAdd,Nat.reduceMul,Nat.reduceSub,Nat.reduceLeDiff,Nat.reduceLT,Int.reduceEq,Int.reduceLT,Int.reduceLE,Int.reduceAdd,Int.reduceSub,Int.reduceMul,Int.reduceNeg,Int.reduceNe,reduceCtorEq,Int.reduceToNat,↓reduceIte]
  refine ⟨fun e1 => by unfold encR; rw [if_neg (by simp [e1])], fun e1 => ?_⟩
  have e1' := e1
  simp only [mayR, Bool.and_eq_true, decide_eq_true_eq, List.all_eq_true] at e1'
  obtain ⟨hboot, h4, hmo⟩ := e1'
  have lb : (num r.boot.toNat).length ≤ 9 := (num_len9 (by omega)).2
  have ln : (num r.objs.length).length ≤ 9 := (num_len9 (by omega)).2
  have p1 := p_rnum r.boot.toNat (by omega)
  rw [Int.toNat_of_nonneg (by omega)] at p1
  refine ⟨_, p1, ?_⟩; simp only [wk,if_true,if_false,forall_const,implies_true,ne_eq,eq_self,Nat.reduceEqDiff,Nat.reduceAdd,Nat.reduceMul,Nat.reduceSub,Nat.reduceLeDiff,Nat.reduceLT,Int.reduceEq,Int.reduceLT,Int.reduceLE,Int.reduceAdd,Int.reduceSub,Int.reduceMul,Int.reduceNeg,Int.reduceNe,reduceCtorEq,Int.reduceToNat,↓reduceIte]
  refine ⟨_, p_rnum r.objs.length (by omega), ?_⟩; simp only [wk,if_true,if_false,forall_const,implies_true,ne_eq,eq_self,Nat.reduceEqDiff,Nat.reduceAdd,Nat.reduceMul,Nat.reduceSub,Nat.reduceLeDiff,Nat.reduceLT,Int.reduceEq,Int.reduceLT,Int.reduceLE,Int.reduceAdd,Int.reduceSub,Int.reduceMul,Int.reduceNeg,Int.reduceNe,reduceCtorEq,Int.reduceToNat,↓reduceIte]
  refine ⟨by rw [ba_size, ba_size]; omega, ?_⟩
  rw [str_app2]
  obtain ⟨hd0, hhd⟩ : ∃ b : List UInt8, b = num r.boot.toNat ++ num r.objs.length := ⟨_, rfl⟩
  have lh : hd0.length ≤ 18 := by rw [hhd]; simp; omega
  rw [← hhd]
  have hpre : ∀ i, ((r.objs.take i).flatMap objB).length ≤ 16000 := fun i => by
    have := flat_len (f := objB) (c := 4000) (r.objs.take i) (fun x hx => objB_len (hmo x (List.mem_of_mem_take hx)))
    have h2 : (r.objs.take i).length ≤ 4 := by simp; omega
    omega
  refine W_loop (fun n fr h' => ∃ (i : Nat) (ex : Hp), i ≤ r.objs.length ∧ n = r.objs.length - i ∧ h' = some (false, [.int .i64 r.boot, .lst .ro r.objs.length (objsC r.objs)]) :: ex ∧ fr = [(1, .ptr 0 0), (4, .str ⟨(hd0 ++ (r.objs.take i).flatMap objB).toArray⟩), (5, .int .i64 i)]) r.objs.length ⟨0, [], by omega, by omega, rfl, by simp only [List.take_zero, List.flatMap_nil, List.append_nil]; rfl⟩ ?_
  rintro n fr h' ⟨i, ex, hi, rfl, rfl, rfl⟩
  simp only [J_ref21_Encode_j4, wk,if_true,if_false,forall_const,implies_true,ne_eq,eq_self,Nat.reduceEqDiff,Nat.reduceAdd,Nat.reduceMul,Nat.reduceSub,Nat.reduceLeDiff,Nat.reduceLT,Int.reduceEq,Int.reduceLT,Int.reduceLE,Int.reduceAdd,Int.reduceSub,Int.reduceMul,Int.reduceNeg,Int.reduceNe,reduceCtorEq,Int.reduceToNat,↓reduceIte]
  refine ⟨fun hlt => ?_, fun hge => ?_⟩
  · have hil : i < r.objs.length := by omega
    have hd : (objsC r.objs).drop ((i : Int).toNat * 3) = .int .i64 r.objs[i].value :: .lst .ro r.objs[i].ents.length (entsC r.objs[i].ents) :: .int .i64 r.objs[i].version :: (objsC r.objs).drop ((i + 1) * 3) := by rw [show (i : Int).toNat = i by omega]; exact objsC_drop hil
    have hmi := hmo _ (List.getElem_mem hil)
    have hmi' := hmi
    simp only [mayO, Bool.and_eq_true, numOk, decide_eq_true_eq] at hmi'
    obtain ⟨n1, n2, n3⟩ := hmi'
    obtain ⟨me, ml⟩ := newE_ok n3 (by simp)
    simp only [List.length_nil, Nat.zero_add] at ml
    have lp := hpre i
    have l1 : (num r.objs[i].value.toNat).length ≤ 9 := (num_len9 (by omega)).2
    have l2 : (num r.objs[i].version.toNat).length ≤ 9 := (num_len9 (by omega)).2
    have l3 : (num r.objs[i].ents.length).length ≤ 9 := (num_len9 (by omega)).2
    obtain ⟨B0, hB0⟩ : ∃ b : List UInt8, b = hd0 ++ (r.objs.take i).flatMap objB := ⟨_, rfl⟩
    have lB0 : B0.length ≤ 16018 := by rw [hB0, List.length_append]; omega
    rw [← hB0]
    refine ⟨⟨by omega, by omega⟩, ?_⟩
    simp only [hd, wk,if_true,if_false,forall_const,implies_true,ne_eq,eq_self,Nat.reduceEqDiff,Nat.reduceAdd,Nat.reduceMul,Nat.reduceSub,Nat.reduceLeDiff,Nat.reduceLT,Int.reduceEq,Int.reduceLT,Int.reduceLE,Int.reduceAdd,Int.reduceSub,Int.reduceMul,Int.reduceNeg,Int.reduceNe,reduceCtorEq,Int.reduceToNat,↓reduceIte]
    have p2 := p_rnum r.objs[i].value.toNat (by omega)
    rw [Int.toNat_of_nonneg (by omega)] at p2
    have p3 := p_rnum r.objs[i].version.toNat (by omega)
    rw [Int.toNat_of_nonneg (by omega)] at p3
    refine ⟨_, p2, ?_⟩; simp only [wk,if_true,if_false,forall_const,implies_true,ne_eq,eq_self,Nat.reduceEqDiff,Nat.reduceAdd,Nat.reduceMul,Nat.reduceSub,Nat.reduceLeDiff,Nat.reduceLT,Int.reduceEq,Int.reduceLT,Int.reduceLE,Int.reduceAdd,Int.reduceSub,Int.reduceMul,Int.reduceNeg,Int.reduceNe,reduceCtorEq,Int.reduceToNat,↓reduceIte]
    refine ⟨_, p3, ?_⟩; simp only [wk,if_true,if_false,forall_const,implies_true,ne_eq,eq_self,Nat.reduceEqDiff,Nat.reduceAdd,Nat.reduceMul,Nat.reduceSub,Nat.reduceLeDiff,Nat.reduceLT,Int.reduceEq,Int.reduceLT,Int.reduceLE,Int.reduceAdd,Int.reduceSub,Int.reduceMul,Int.reduceNeg,Int.reduceNe,reduceCtorEq,Int.reduceToNat,↓reduceIte]
    refine ⟨by rw [ba_size, ba_size]; omega, ?_⟩
    rw [str_app2]
    refine ⟨_, p_rnum r.objs[i].ents.length (by omega), ?_⟩; simp only [wk,if_true,if_false,forall_const,implies_true,ne_eq,eq_self,Nat.reduceEqDiff,Nat.reduceAdd,Nat.reduceMul,Nat.reduceSub,Nat.reduceLeDiff,Nat.reduceLT,Int.reduceEq,Int.reduceLT,Int.reduceLE,Int.reduceAdd,Int.reduceSub,Int.reduceMul,Int.reduceNeg,Int.reduceNe,reduceCtorEq,Int.reduceToNat,↓reduceIte]
    refine ⟨by rw [ba_size, ba_size, List.length_append]; omega, by rw [str_app2, ba_size, ba_size]; simp only [List.length_append]; omega, ?_⟩
    rw [str_app2, str_app2]
    obtain ⟨B1, hB1⟩ : ∃ b : List UInt8, b = B0 ++ (num r.objs[i].value.toNat ++ num r.objs[i].version.toNat ++ num r.objs[i].ents.length) := ⟨_, rfl⟩
    have lB1 : B1.length ≤ 16045 := by rw [hB1]; simp only [List.length_append]; omega
    rw [← hB1]
    have hpre2 : ∀ j, ((r.objs[i].ents.take j).flatMap entB).length ≤ 4000 := fun j => by
      have := flat_len (f := entB) (c := 309) (r.objs[i].ents.take j) (fun x hx => entB_len (me x (List.mem_of_mem_take hx)))
      have h2 : (r.objs[i].ents.take j).length ≤ 12 := by simp; omega
      omega
    obtain ⟨H, hH⟩ : ∃ H : Hp, H = some (false, [.int .i64 r.boot, .lst .ro r.objs.length (objsC r.objs)]) :: (ex ++ [some (true, [.int .i64 r.objs[i].value, .lst .ro r.objs[i].ents.length (entsC r.objs[i].ents), .int .i64 r.objs[i].version])]) := ⟨_, rfl⟩
    rw [← hH]
    have g6 : H[ex.length + 1]? = some (some (true, [.int .i64 r.objs[i].value, .lst .ro r.objs[i].ents.length (entsC r.objs[i].ents), .int .i64 r.objs[i].version])) := by rw [hH]; simp
    refine W_loop (fun n fr h' => ∃ (j : Nat), j ≤ r.objs[i].ents.length ∧ n = r.objs[i].ents.length - j ∧ h' = H ∧ fr = [(1, .ptr 0 0), (4, .str ⟨(B1 ++ (r.objs[i].ents.take j).flatMap entB).toArray⟩), (5, .int .i64 i), (6, .ptr (ex.length + 1) 0), (7, .int .i64 j)]) r.objs[i].ents.length ⟨0, by omega, by omega, rfl, by simp only [List.take_zero, List.flatMap_nil, List.append_nil]; rfl⟩ ?_
    rintro n fr h' ⟨j, hj, rfl, rfl, rfl⟩
    simp only [J_ref21_Encode_j3, g6, wk,if_true,if_false,forall_const,implies_true,ne_eq,eq_self,Nat.reduceEqDiff,Nat.reduceAdd,Nat.reduceMul,Nat.reduceSub,Nat.reduceLeDiff,Nat.reduceLT,Int.reduceEq,Int.reduceLT,Int.reduceLE,Int.reduceAdd,Int.reduceSub,Int.reduceMul,Int.reduceNeg,Int.reduceNe,reduceCtorEq,Int.reduceToNat,↓reduceIte]
    refine ⟨fun hlt2 => ?_, fun hge2 => ?_⟩
    · have hjl : j < r.objs[i].ents.length := by omega
      have hf : (entsC r.objs[i].ents).drop ((j : Int).toNat * 2) = .int .i64 r.objs[i].ents[j].op :: .lst .ro r.objs[i].ents[j].who.length (r.objs[i].ents[j].who.map .str) :: (entsC r.objs[i].ents).drop ((j + 1) * 2) := by rw [show (j : Int).toNat = j by omega]; exact entsC_drop hjl
      obtain ⟨p1, p2, p3⟩ := mayEnt_ok (me _ (List.getElem_mem hjl))
      obtain ⟨w16, ws⟩ := setMay_small p3
      have lq := hpre2 j
      have lq2 := hpre2 (j + 1)
      have l4 : (num r.objs[i].ents[j].op.toNat).length ≤ 9 := (num_len9 (by omega)).2
      have l5 : (setBytes r.objs[i].ents[j].who).length ≤ 1002000 := setBytes_len _ (by omega) (fun x hx => by have := ws x hx; omega)
      have pn := p_rnum r.objs[i].ents[j].op.toNat (by omega)
      rw [Int.toNat_of_nonneg (by omega)] at pn
      have ps := p_rset r.objs[i].ents[j].who (by omega) (fun x hx => by have := ws x hx; omega)
      have hjn : ((0 ≤ (j : Int)) ∧ (j : Int) < (r.objs[i].ents.length : Int)) = True := by simp; omega
      simp only [hjn, hf, true_and, wk,if_true,if_false,forall_const,implies_true,ne_eq,eq_self,Nat.reduceEqDiff,Nat.reduceAdd,Nat.reduceMul,Nat.reduceSub,Nat.reduceLeDiff,Nat.reduceLT,Int.reduceEq,Int.reduceLT,Int.reduceLE,Int.reduceAdd,Int.reduceSub,Int.reduceMul,Int.reduceNeg,Int.reduceNe,reduceCtorEq,Int.reduceToNat,↓reduceIte]
      refine ⟨_, pn, ?_⟩
      simp only [g6, hjn, hf, true_and, wk,if_true,if_false,forall_const,implies_true,ne_eq,eq_self,Nat.reduceEqDiff,Nat.reduceAdd,Nat.reduceMul,Nat.reduceSub,Nat.reduceLeDiff,Nat.reduceLT,Int.reduceEq,Int.reduceLT,Int.reduceLE,Int.reduceAdd,Int.reduceSub,Int.reduceMul,Int.reduceNeg,Int.reduceNe,reduceCtorEq,Int.reduceToNat,↓reduceIte]
      refine ⟨_, ps, ?_⟩
      simp only [wk,if_true,if_false,forall_const,implies_true,ne_eq,eq_self,Nat.reduceEqDiff,Nat.reduceAdd,Nat.reduceMul,Nat.reduceSub,Nat.reduceLeDiff,Nat.reduceLT,Int.reduceEq,Int.reduceLT,Int.reduceLE,Int.reduceAdd,Int.reduceSub,Int.reduceMul,Int.reduceNeg,Int.reduceNe,reduceCtorEq,Int.reduceToNat,↓reduceIte]
      refine ⟨by rw [ba_size, ba_size]; omega, by rw [str_app2, ba_size, ba_size]; simp only [List.length_append]; omega, ?_⟩
      rw [str_app2, str_app2]
      refine ⟨inR_of (by omega) (by omega), r.objs[i].ents.length - (j + 1), by omega, j + 1, by omega, rfl, ?_⟩
      rw [List.take_succ_eq_append_getElem hjl, List.flatMap_append]
      simp [entB, List.append_assoc]
    · have : j = r.objs[i].ents.length := by omega
      subst this
      simp only [J_ref21_Encode_j2, wk,if_true,if_false,forall_const,implies_true,ne_eq,eq_self,Nat.reduceEqDiff,Nat.reduceAdd,Nat.reduceMul,Nat.reduceSub,Nat.reduceLeDiff,Nat.reduceLT,Int.reduceEq,Int.reduceLT,Int.reduceLE,Int.reduceAdd,Int.reduceSub,Int.reduceMul,Int.reduceNeg,Int.reduceNe,reduceCtorEq,Int.reduceToNat,↓reduceIte]
      refine ⟨inR_of (by omega) (by omega), r.objs.length - (i + 1), by omega, i + 1, _, by omega, rfl, hH, ?_⟩
      rw [List.take_succ_eq_append_getElem hil, List.flatMap_append, hB1, hB0, List.take_length]
      simp [objB, List.append_assoc]
  · have : i = r.objs.length := by omega
    subst this
    simp only [J_ref21_Encode_j1, wk,if_true,if_false,forall_const,implies_true,ne_eq,eq_self,Nat.reduceEqDiff,Nat.reduceAdd,Nat.reduceMul,Nat.reduceSub,Nat.reduceLeDiff,Nat.reduceLT,Int.reduceEq,Int.reduceLT,Int.reduceLE,Int.reduceAdd,Int.reduceSub,Int.reduceMul,Int.reduceNeg,Int.reduceNe,reduceCtorEq,Int.reduceToNat,↓reduceIte]
    unfold encR
    rw [if_pos e1, List.take_length, hhd]
    simp [recB, List.append_assoc]
end Go.Proofs.Ytcbcnbefaggnhaa

/- Records in the reference: Decode. -/
namespace Go.Proofs.Ytcbcnbefaggnhaa
set_option linter.unusedSimpArgs false
set_option linter.unusedVariables false
open Go.RowKit Go.Lib

theorem t_len (ex ey : Hp) (o : Option (Bool × List AV)) : (ex ++ o :: ey).length = ex.length + (ey.length + 1) := by simp
theorem t_g1 (ex ey : Hp) (o n : Option (Bool × List AV)) : ((ex ++ o :: ey) ++ [n])[ex.length]? = some o := by simp
theorem t_g2 (ex ey : Hp) (o n : Option (Bool × List AV)) : ((ex ++ o :: ey) ++ [n])[ex.length + (ey.length + 1)]? = some n := by
  rw [show ex.length + (ey.length + 1) = (ex ++ o :: ey).length by simp]; simp
theorem t_s1 (ex ey : Hp) (o n m : Option (Bool × List AV)) : ((ex ++ o :: ey) ++ [n]).set ex.length m = (ex ++ m :: ey) ++ [n] := by simp
theorem t_s2 (ex ey : Hp) (o n m : Option (Bool × List AV)) : ((ex ++ o :: ey) ++ [n]).set (ex.length + (ey.length + 1)) m = (ex ++ o :: ey) ++ [m] := by
  rw [show ex.length + (ey.length + 1) = (ex ++ o :: ey).length by simp]; simp
set_option maxRecDepth 100000 in
set_option maxHeartbeats 4000000 in
theorem p_rrdec (S : ByteArray) (hs : S.size ≤ 1000000) : PCalls Try.prog 29 [.str S] (decRV (decR S)) := by
  refine pcalls_of rfl (free_decRV _) (ACalls.deep (acalls_of mixed J_ref21_Decode_ok (Nat.le_of_ble_eq_true rfl) ?_)); simp only [J_ref21_Decode, wk,if_true,if_false,forall_const,implies_true,ne_eq,eq_self,Nat.reduceEqDiff,Nat.reduceAdd,Nat.reduceMul,Nat.reduceSub,Nat.reduceLeDiff,Nat.reduceLT,Int.reduceEq,Int.reduceLT,Int.reduceLE,Int.reduceAdd,Int.reduceSub,Int.reduceMul,Int.reduceNeg,Int.reduceNe,reduceCtorEq,Int.reduceToNat,↓reduceIte]
  obtain ⟨r1, e1⟩ : ∃ r, r = rN S 40 (false, 0) := ⟨_, rfl⟩
  obtain ⟨s1, d1⟩ : ∃ s, s = stO r1 (jStop S (false, 0)) := ⟨_, rfl⟩
  have b1 : s1.2 ≤ S.size := by rw [d1, e1]; exact rN_le (Nat.zero_le _) (jStop_le (Nat.zero_le _))
  refine ACalls.use (b_num' (S := S) (s := (false, 0)) 40 rfl hs (Nat.zero_le _) e1 d1) ?_; rintro _ _ ⟨rfl, rfl⟩; simp only [wk,if_true,if_false,forall_const,implies_true,ne_eq,eq_self,Nat.reduceEqDiff,Nat.reduceAdd,Nat.reduceMul,Nat.reduceSub,Nat.reduceLeDiff,Nat.reduceLT,Int.reduceEq,Int.reduceLT,Int.reduceLE,Int.reduceAdd,Int.reduceSub,Int.reduceMul,Int.reduceNeg,Int.reduceNe,reduceCtorEq,Int.reduceToNat,↓reduceIte]
  obtain ⟨r2, e2⟩ : ∃ r, r = rN S 4 s1 := ⟨_, rfl⟩
  obtain ⟨s2, d2⟩ : ∃ s, s = stO r2 (jStop S s1) := ⟨_, rfl⟩
  have b2 : s2.2 ≤ S.size := by rw [d2, e2]; exact rN_le b1 (jStop_le b1)
  have n2 : nI r2 ≤ 4 := by have := (nI_le (S := S) (m := 4) b1).2 (by omega); rw [← e2] at this; omega
  refine ACalls.use (b_num' (S := S) (s := s1) 4 rfl hs b1 e2 d2) ?_; rintro _ _ ⟨rfl, rfl⟩; simp only [wk,if_true,if_false,forall_const,implies_true,ne_eq,eq_self,Nat.reduceEqDiff,Nat.reduceAdd,Nat.reduceMul,Nat.reduceSub,Nat.reduceLeDiff,Nat.reduceLT,Int.reduceEq,Int.reduceLT,Int.reduceLE,Int.reduceAdd,Int.reduceSub,Int.reduceMul,Int.reduceNeg,Int.reduceNe,reduceCtorEq,Int.reduceToNat,↓reduceIte]
  refine W_loop (fun n fr h' => ∃ (i : Nat) (s : Bool × Nat) (cs : List AV) (ex : Hp), i ≤ nI r2 ∧ n = nI r2 - i ∧ s.2 ≤ S.size ∧ cs.length = i * 3 ∧ Sees (rM (rObt S) s2 i) objsC s cs ∧ h' = some (false, [.int .i64 0, .lst (.own 43) 0 []]) :: jObj S s :: some (false, [.int .i64 (nI r1), .lst (.own 43) i cs]) :: ex ∧ fr = [(2, .ptr 0 0), (4, .ptr 1 0), (5, .ptr 2 0), (6, .int .i64 (nI r2)), (7, .int .i64 i)]) (nI r2) ⟨0, s2, [], [], by omega, by omega, b2, rfl, sees0 _ rfl, rfl, rfl⟩ ?_
  rintro n fr h' ⟨i, s, cs, ex, hi, rfl, hb, hcl, hsee, rfl, rfl⟩
  simp only [J_ref21_Decode_j5, wk,if_true,if_false,forall_const,implies_true,ne_eq,eq_self,Nat.reduceEqDiff,Nat.reduceAdd,Nat.reduceMul,Nat.reduceSub,Nat.reduceLeDiff,Nat.reduceLT,Int.reduceEq,Int.reduceLT,Int.reduceLE,Int.reduceAdd,Int.reduceSub,Int.reduceMul,Int.reduceNeg,Int.reduceNe,reduceCtorEq,Int.reduceToNat,↓reduceIte]
  refine ⟨fun hlt => ?_, fun hge => ?_⟩
  · obtain ⟨r3, e3⟩ : ∃ r, r = rN S 4611686018427387904 s := ⟨_, rfl⟩
    obtain ⟨s3, d3⟩ : ∃ t, t = stO r3 (jStop S s) := ⟨_, rfl⟩
    have b3 : s3.2 ≤ S.size := by rw [d3, e3]; exact rN_le hb (jStop_le hb)
    refine ACalls.use (b_num' (S := S) (s := s) 4611686018427387904 rfl hs hb e3 d3) ?_; rintro _ _ ⟨rfl, rfl⟩; simp only [wk,if_true,if_false,forall_const,implies_true,ne_eq,eq_self,Nat.reduceEqDiff,Nat.reduceAdd,Nat.reduceMul,Nat.reduceSub,Nat.reduceLeDiff,Nat.reduceLT,Int.reduceEq,Int.reduceLT,Int.reduceLE,Int.reduceAdd,Int.reduceSub,Int.reduceMul,Int.reduceNeg,Int.reduceNe,reduceCtorEq,Int.reduceToNat,↓reduceIte]
    obtain ⟨r4, e4⟩ : ∃ r, r = rN S 4611686018427387904 s3 := ⟨_, rfl⟩
    obtain ⟨s4, d4⟩ : ∃ t, t = stO r4 (jStop S s3) := ⟨_, rfl⟩
    have b4 : s4.2 ≤ S.size := by rw [d4, e4]; exact rN_le b3 (jStop_le b3)
    refine ACalls.use (b_num' (S := S) (s := s3) 4611686018427387904 rfl hs b3 e4 d4) ?_; rintro _ _ ⟨rfl, rfl⟩; simp only [wk,if_true,if_false,forall_const,implies_true,ne_eq,eq_self,Nat.reduceEqDiff,Nat.reduceAdd,Nat.reduceMul,Nat.reduceSub,Nat.reduceLeDiff,Nat.reduceLT,Int.reduceEq,Int.reduceLT,Int.reduceLE,Int.reduceAdd,Int.reduceSub,Int.reduceMul,Int.reduceNeg,Int.reduceNe,reduceCtorEq,Int.reduceToNat,↓reduceIte]
    obtain ⟨r5, e5⟩ : ∃ r, r = rN S 12 s4 := ⟨_, rfl⟩
    obtain ⟨s5, d5⟩ : ∃ t, t = stO r5 (jStop S s4) := ⟨_, rfl⟩
    have b5 : s5.2 ≤ S.size := by rw [d5, e5]; exact rN_le b4 (jStop_le b4)
    have n5 : nI r5 ≤ 12 := by have := (nI_le (S := S) (m := 12) b4).2 (by omega); rw [← e5] at this; omega
    refine ACalls.use (b_num' (S := S) (s := s4) 12 rfl hs b4 e5 d5) ?_; rintro _ _ ⟨rfl, rfl⟩; simp only [wk,if_true,if_false,forall_const,implies_true,ne_eq,eq_self,Nat.reduceEqDiff,Nat.reduceAdd,Nat.reduceMul,Nat.reduceSub,Nat.reduceLeDiff,Nat.reduceLT,Int.reduceEq,Int.reduceLT,Int.reduceLE,Int.reduceAdd,Int.reduceSub,Int.reduceMul,Int.reduceNeg,Int.reduceNe,reduceCtorEq,Int.reduceToNat,↓reduceIte]
    refine W_loop (fun n fr h' => ∃ (j : Nat) (t : Bool × Nat) (ds : List AV) (ey : Hp), j ≤ nI r5 ∧ n = nI r5 - j ∧ t.2 ≤ S.size ∧ ds.length = j * 2 ∧ Sees (rM (rEnt S) s5 j) entsC t ds ∧ h' = some (false, [.int .i64 0, .lst (.own 43) 0 []]) :: jObj S t :: some (false, [.int .i64 (nI r1), .lst (.own 43) i cs]) :: (ex ++ some (false, [.int .i64 (nI r3), .lst (.own 28) j ds, .int .i64 (nI r4)]) :: ey) ∧ fr = [(2, .ptr 0 0), (4, .ptr 1 0), (5, .ptr 2 0), (6, .int .i64 (nI r2)), (7, .int .i64 i), (8, .ptr (ex.length + 1 + 1 + 1) 0), (9, .int .i64 (nI r5)), (10, .int .i64 j)]) (nI r5) ⟨0, s5, [], [], by omega, by omega, b5, rfl, sees0 _ rfl, rfl, rfl⟩ ?_
    rintro n fr h' ⟨j, t, ds, ey, hj, rfl, ht, hdl, hsee2, rfl, rfl⟩
    simp only [J_ref21_Decode_j4, t_len, t_g1, t_g2, t_s1, t_s2, wk,if_true,if_false,forall_const,implies_true,ne_eq,eq_self,Nat.reduceEqDiff,Nat.reduceAdd,Nat.reduceMul,Nat.reduceSub,Nat.reduceLeDiff,Nat.reduceLT,Int.reduceEq,Int.reduceLT,Int.reduceLE,Int.reduceAdd,Int.reduceSub,Int.reduceMul,Int.reduceNeg,Int.reduceNe,reduceCtorEq,Int.reduceToNat,↓reduceIte]
    refine ⟨fun hlt2 => ?_, fun hge2 => ?_⟩
    · obtain ⟨r6, e6⟩ : ∃ r, r = rN S 7 t := ⟨_, rfl⟩
      obtain ⟨s6, d6⟩ : ∃ u, u = stO r6 (jStop S t) := ⟨_, rfl⟩
      have b6 : s6.2 ≤ S.size := by rw [d6, e6]; exact rN_le ht (jStop_le ht)
      refine ACalls.use (b_num' (S := S) (s := t) 7 rfl hs ht e6 d6) ?_; rintro _ _ ⟨rfl, rfl⟩; simp only [wk,if_true,if_false,forall_const,implies_true,ne_eq,eq_self,Nat.reduceEqDiff,Nat.reduceAdd,Nat.reduceMul,Nat.reduceSub,Nat.reduceLeDiff,Nat.reduceLT,Int.reduceEq,Int.reduceLT,Int.reduceLE,Int.reduceAdd,Int.reduceSub,Int.reduceMul,Int.reduceNeg,Int.reduceNe,reduceCtorEq,Int.reduceToNat,↓reduceIte, t_len, t_g1, t_g2, t_s1, t_s2]
      obtain ⟨r7, e7⟩ : ∃ r, r = rL S s6 := ⟨_, rfl⟩
      refine ACalls.use (b_set' (id := 1) (S := S) (s := s6) rfl hs b6 e7) ?_
      rintro _ _ ⟨rfl, q7, hq7, rfl⟩
      simp only [deg_fL, t_len, t_g1, t_g2, t_s1, t_s2, wk,if_true,if_false,forall_const,implies_true,ne_eq,eq_self,Nat.reduceEqDiff,Nat.reduceAdd,Nat.reduceMul,Nat.reduceSub,Nat.reduceLeDiff,Nat.reduceLT,Int.reduceEq,Int.reduceLT,Int.reduceLE,Int.reduceAdd,Int.reduceSub,Int.reduceMul,Int.reduceNeg,Int.reduceNe,reduceCtorEq,Int.reduceToNat,↓reduceIte]
      refine ⟨⟨by omega, by omega⟩, inR_of (by omega) (by omega), nI r5 - (j + 1), by omega, j + 1, _, _, ey ++ [some (false, [.int .i64 (nI r6), .lst (fL r7) (nL r7).length ((nL r7).map .str)])], by omega, rfl, (by rw [e7]; exact rL_le hq7 : (stO r7 q7).2 ≤ S.size), by simp [hdl]; omega, entStep hsee2 e6 d6 e7 rfl, by simp only [List.append_assoc, List.cons_append], by simp⟩
    · simp only [J_ref21_Decode_j3, mid_get, mid_set, wk,if_true,if_false,forall_const,implies_true,ne_eq,eq_self,Nat.reduceEqDiff,Nat.reduceAdd,Nat.reduceMul,Nat.reduceSub,Nat.reduceLeDiff,Nat.reduceLT,Int.reduceEq,Int.reduceLT,Int.reduceLE,Int.reduceAdd,Int.reduceSub,Int.reduceMul,Int.reduceNeg,Int.reduceNe,reduceCtorEq,Int.reduceToNat,↓reduceIte]
      have hjn : j = nI r5 := by omega
      subst hjn
      refine ⟨⟨by omega, by omega⟩, ?_⟩
      simp only [J_ref21_Decode_j2, wk,if_true,if_false,forall_const,implies_true,ne_eq,eq_self,Nat.reduceEqDiff,Nat.reduceAdd,Nat.reduceMul,Nat.reduceSub,Nat.reduceLeDiff,Nat.reduceLT,Int.reduceEq,Int.reduceLT,Int.reduceLE,Int.reduceAdd,Int.reduceSub,Int.reduceMul,Int.reduceNeg,Int.reduceNe,reduceCtorEq,Int.reduceToNat,↓reduceIte]
      refine ⟨inR_of (by omega) (by omega), nI r2 - (i + 1), by omega, i + 1, t, _, _, by omega, rfl, ht, by simp [hcl]; omega, objStep hsee e3 d3 e4 d4 e5 d5 hsee2, rfl, by simp⟩
  · have hin : i = nI r2 := by omega
    subst hin
    simp only [J_ref21_Decode_j1, wk,if_true,if_false,forall_const,implies_true,ne_eq,eq_self,Nat.reduceEqDiff,Nat.reduceAdd,Nat.reduceMul,Nat.reduceSub,Nat.reduceLeDiff,Nat.reduceLT,Int.reduceEq,Int.reduceLT,Int.reduceLE,Int.reduceAdd,Int.reduceSub,Int.reduceMul,Int.reduceNeg,Int.reduceNe,reduceCtorEq,Int.reduceToNat,↓reduceIte]
    refine ACalls.use (r_idone (S := S) (s := s) rfl (by omega) hb) ?_; rintro _ _ ⟨rfl, rfl⟩; simp only [wk,if_true,if_false,forall_const,implies_true,ne_eq,eq_self,Nat.reduceEqDiff,Nat.reduceAdd,Nat.reduceMul,Nat.reduceSub,Nat.reduceLeDiff,Nat.reduceLT,Int.reduceEq,Int.reduceLT,Int.reduceLE,Int.reduceAdd,Int.reduceSub,Int.reduceMul,Int.reduceNeg,Int.reduceNe,reduceCtorEq,Int.reduceToNat,↓reduceIte]
    obtain ⟨k1, k2⟩ := recEnd e1 d1 e2 d2 hsee
    cases hbad : s.1 with
    | true =>
      rw [k1 hbad]
      simp only [Bool.true_or, eI, decRV, vR, rC, zeroR, rdpw, valL, wk,if_true,if_false,forall_const,implies_true,ne_eq,eq_self,Nat.reduceEqDiff,Nat.reduceAdd,Nat.reduceMul,Nat.reduceSub,Nat.reduceLeDiff,Nat.reduceLT,Int.reduceEq,Int.reduceLT,Int.reduceLE,Int.reduceAdd,Int.reduceSub,Int.reduceMul,Int.reduceNeg,Int.reduceNe,reduceCtorEq,Int.reduceToNat,↓reduceIte]
      simp [objsC]
    | false =>
      obtain ⟨l, rfl, hll, hsm, k3⟩ := k2 hbad
      rw [k3]
      by_cases hend : s.2 < S.size
      · simp only [hend, Bool.false_or, decide_true, if_true, eI, decRV, vR, rC, zeroR, rdpw, valL, wk,if_true,if_false,forall_const,implies_true,ne_eq,eq_self,Nat.reduceEqDiff,Nat.reduceAdd,Nat.reduceMul,Nat.reduceSub,Nat.reduceLeDiff,Nat.reduceLT,Int.reduceEq,Int.reduceLT,Int.reduceLE,Int.reduceAdd,Int.reduceSub,Int.reduceMul,Int.reduceNeg,Int.reduceNe,reduceCtorEq,Int.reduceToNat,↓reduceIte]
        simp [objsC]
      · simp only [hend, Bool.false_or, decide_false, if_false, eI, wk,if_true,if_false,forall_const,implies_true,ne_eq,eq_self,Nat.reduceEqDiff,Nat.reduceAdd,Nat.reduceMul,Nat.reduceSub,Nat.reduceLeDiff,Nat.reduceLT,Int.reduceEq,Int.reduceLT,Int.reduceLE,Int.reduceAdd,Int.reduceSub,Int.reduceMul,Int.reduceNeg,Int.reduceNe,reduceCtorEq,Int.reduceToNat,↓reduceIte]
        have hck := p_rrmay _ hsm
        simp only [vR, rC, hll] at hck
        refine PCalls.use (hck) ?_; simp only [wk,if_true,if_false,forall_const,implies_true,ne_eq,eq_self,Nat.reduceEqDiff,Nat.reduceAdd,Nat.reduceMul,Nat.reduceSub,Nat.reduceLeDiff,Nat.reduceLT,Int.reduceEq,Int.reduceLT,Int.reduceLE,Int.reduceAdd,Int.reduceSub,Int.reduceMul,Int.reduceNeg,Int.reduceNe,reduceCtorEq,Int.reduceToNat,↓reduceIte]
        refine ⟨fun h0 => ?_, fun h0 => ?_⟩
        · simp only [h0, Bool.false_eq_true, if_false, decRV, vR, rC, zeroR, rdpw, valL, wk,if_true,if_false,forall_const,implies_true,ne_eq,eq_self,Nat.reduceEqDiff,Nat.reduceAdd,Nat.reduceMul,Nat.reduceSub,Nat.reduceLeDiff,Nat.reduceLT,Int.reduceEq,Int.reduceLT,Int.reduceLE,Int.reduceAdd,Int.reduceSub,Int.reduceMul,Int.reduceNeg,Int.reduceNe,reduceCtorEq,Int.reduceToNat,↓reduceIte]
          simp [objsC]
        · simp only [h0, if_true, decRV, vR, rC, rdpw, rdps_objs, hll, valL, wk,if_true,if_false,forall_const,implies_true,ne_eq,eq_self,Nat.reduceEqDiff,Nat.reduceAdd,Nat.reduceMul,Nat.reduceSub,Nat.reduceLeDiff,Nat.reduceLT,Int.reduceEq,Int.reduceLT,Int.reduceLE,Int.reduceAdd,Int.reduceSub,Int.reduceMul,Int.reduceNeg,Int.reduceNe,reduceCtorEq,Int.reduceToNat,↓reduceIte]
end Go.Proofs.Ytcbcnbefaggnhaa

/- wide and large of the laws on records. -/
namespace Go.Proofs.Ytcbcnbefaggnhaa
set_option linter.unusedSimpArgs false
set_option linter.unusedVariables false
open Go.RowKit Go.Lib

def wideE (x : Ent) : Bool := decide (30 < x.who.length) || x.who.any fun w => decide (100 < w.size)
set_option maxRecDepth 100000 in
set_option maxHeartbeats 4000000 in
theorem p_wide (x : Ent) (h : x.who.length ≤ 9223372036854775807) : PCalls Try.prog 16 [vE x] (.bool (wideE x)) := by
  refine pcalls_of (by simp [free.frees, free_vE]) rfl (acalls_of mixed J_law21_wide_ok (Nat.le_of_ble_eq_true rfl) ?_); simp only [J_law21_wide, vE, eC, wk,if_true,if_false,forall_const,implies_true,ne_eq,eq_self,Nat.reduceEqDiff,Nat.reduceAdd,Nat.reduceMul,Nat.reduceSub,Nat.reduceLeDiff,Nat.reduceLT,Int.reduceEq,Int.reduceLT,Int.reduceLE,Int.reduceAdd,Int.reduceSub,Int.reduceMul,Int.reduceNeg,Int.reduceNe,reduceCtorEq,Int.reduceToNat,↓reduceIte]
  have big : (30 < x.who.length ∨ ∃ w ∈ x.who, 100 < w.size) → AV.bool true = .bool (wideE x) := fun hb => by
    congr 1
    symm
    simp only [wideE, Bool.or_eq_true, decide_eq_true_eq, List.any_eq_true]
    exact hb
  refine ⟨fun h2 => big (.inl (by omega)), fun h2 => ?_⟩
  refine W_loop (fun n fr h => ∃ i : Nat, i ≤ x.who.length ∧ n = x.who.length - i ∧ h = [some (false, eC x)] ∧ fr = [(1, .ptr 0 0), (10, .int .i64 x.who.length), (11, .int .i64 i)] ∧ ∀ w ∈ x.who.take i, ¬ 100 < w.size) x.who.length ⟨0, by omega, by omega, rfl, rfl, by simp⟩ ?_
  rintro n fr h' ⟨i, hi, rfl, rfl, rfl, hall⟩
  simp only [J_law21_wide_j2, eC, wk,if_true,if_false,forall_const,implies_true,ne_eq,eq_self,Nat.reduceEqDiff,Nat.reduceAdd,Nat.reduceMul,Nat.reduceSub,Nat.reduceLeDiff,Nat.reduceLT,Int.reduceEq,Int.reduceLT,Int.reduceLE,Int.reduceAdd,Int.reduceSub,Int.reduceMul,Int.reduceNeg,Int.reduceNe,reduceCtorEq,Int.reduceToNat,↓reduceIte]
  refine ⟨fun hlt => ?_, fun hge => ?_⟩
  · have hil : i < x.who.length := by omega
    have hd : (x.who.map AV.str).drop (i : Int).toNat = .str x.who[i] :: (x.who.map AV.str).drop (i + 1) := by rw [show (i : Int).toNat = i by omega, drop_str hil]
    refine ⟨⟨by omega, by omega⟩, ?_⟩
    simp only [hd, wk,if_true,if_false,forall_const,implies_true,ne_eq,eq_self,Nat.reduceEqDiff,Nat.reduceAdd,Nat.reduceMul,Nat.reduceSub,Nat.reduceLeDiff,Nat.reduceLT,Int.reduceEq,Int.reduceLT,Int.reduceLE,Int.reduceAdd,Int.reduceSub,Int.reduceMul,Int.reduceNeg,Int.reduceNe,reduceCtorEq,Int.reduceToNat,↓reduceIte]
    refine ⟨fun h4 => big (.inr ⟨_, List.getElem_mem hil, by omega⟩), fun h4 => ⟨inR_of (by omega) (by omega), x.who.length - (i + 1), by omega, i + 1, by omega, rfl, rfl, fun w hw => ?_⟩⟩
    rcases (take_mem_succ hil).1 hw with h | h
    · exact hall w h
    · subst h; omega
  · rw [List.take_of_length_le (by omega)] at hall
    simp only [J_law21_wide_j1, wk,if_true,if_false,forall_const,implies_true,ne_eq,eq_self,Nat.reduceEqDiff,Nat.reduceAdd,Nat.reduceMul,Nat.reduceSub,Nat.reduceLeDiff,Nat.reduceLT,Int.reduceEq,Int.reduceLT,Int.reduceLE,Int.reduceAdd,Int.reduceSub,Int.reduceMul,Int.reduceNeg,Int.reduceNe,reduceCtorEq,Int.reduceToNat,↓reduceIte]
    congr 1
    symm
    simp only [wideE, Bool.or_eq_false_iff, decide_eq_false_iff_not, List.any_eq_false, decide_eq_true_eq]
    exact ⟨by omega, hall⟩
theorem not_wide {x : Ent} (h : wideE x = false) : smallE x := by
  simp only [wideE, Bool.or_eq_false_iff, decide_eq_false_iff_not, List.any_eq_false, decide_eq_true_eq] at h
  exact ⟨by omega, fun w hw => by have := h.2 w hw; omega⟩
def largeO (o : Obt) : Bool := decide (30 < o.ents.length) || o.ents.any wideE
def largeR (r : Rcd) : Bool := decide (10 < r.objs.length) || r.objs.any largeO
theorem not_large {r : Rcd} (h : largeR r = false) : smallR r := by
  simp only [largeR, largeO, Bool.or_eq_false_iff, decide_eq_false_iff_not, List.any_eq_false, Bool.not_eq_true] at h
  refine ⟨by omega, fun o ho => ?_⟩
  obtain ⟨h1, h2⟩ := h.2 o ho
  exact ⟨by omega, fun x hx => not_wide (h2 x hx)⟩
set_option maxRecDepth 100000 in
set_option maxHeartbeats 4000000 in
theorem p_large (r : Rcd) (h : r.objs.length ≤ 9223372036854775807) (h2 : ∀ o ∈ r.objs, o.ents.length ≤ 9223372036854775807 ∧ ∀ x ∈ o.ents, x.who.length ≤ 9223372036854775807) : PCalls Try.prog 15 [vR r] (.bool (largeR r)) := by
  refine pcalls_of (by simp [free.frees, free_vR]) rfl (acalls_of mixed J_law21_large_ok (Nat.le_of_ble_eq_true rfl) ?_); simp only [J_law21_large, vR, rC, wk,if_true,if_false,forall_const,implies_true,ne_eq,eq_self,Nat.reduceEqDiff,Nat.reduceAdd,Nat.reduceMul,Nat.reduceSub,Nat.reduceLeDiff,Nat.reduceLT,Int.reduceEq,Int.reduceLT,Int.reduceLE,Int.reduceAdd,Int.reduceSub,Int.reduceMul,Int.reduceNeg,Int.reduceNe,reduceCtorEq,Int.reduceToNat,↓reduceIte]
  have big : (10 < r.objs.length ∨ ∃ o ∈ r.objs, largeO o = true) → AV.bool true = .bool (largeR r) := fun hb => by
    congr 1
    symm
    simp only [largeR, Bool.or_eq_true, decide_eq_true_eq, List.any_eq_true]
    exact hb
  refine ⟨fun h2 => big (.inl (by omega)), fun h3 => ?_⟩
  refine W_loop (fun n fr h => ∃ i : Nat, i ≤ r.objs.length ∧ n = r.objs.length - i ∧ h = [some (false, [.int .i64 r.boot, .lst .ro r.objs.length (objsC r.objs)])] ∧ fr = [(1, .ptr 0 0), (11, .int .i64 r.objs.length), (12, .int .i64 i)] ∧ ∀ o ∈ r.objs.take i, largeO o = false) r.objs.length ⟨0, by omega, by omega, rfl, rfl, by simp⟩ ?_
  rintro n fr h' ⟨i, hi, rfl, rfl, rfl, hall⟩
  simp only [J_law21_large_j4, wk,if_true,if_false,forall_const,implies_true,ne_eq,eq_self,Nat.reduceEqDiff,Nat.reduceAdd,Nat.reduceMul,Nat.reduceSub,Nat.reduceLeDiff,Nat.reduceLT,Int.reduceEq,Int.reduceLT,Int.reduceLE,Int.reduceAdd,Int.reduceSub,Int.reduceMul,Int.reduceNeg,Int.reduceNe,reduceCtorEq,Int.reduceToNat,↓reduceIte]
  refine ⟨fun hlt => ?_, fun hge => ?_⟩
  · have hil : i < r.objs.length := by omega
    have hmem := List.getElem_mem hil
    have hd : (objsC r.objs).drop ((i : Int).toNat * 3) = .int .i64 r.objs[i].value :: .lst .ro r.objs[i].ents.length (entsC r.objs[i].ents) :: .int .i64 r.objs[i].version :: (objsC r.objs).drop ((i + 1) * 3) := by rw [show (i : Int).toNat = i by omega]; exact objsC_drop hil
    have hin : ((0 ≤ (i : Int)) ∧ (i : Int) < (r.objs.length : Int)) = True := by simp; omega
    simp only [hin, hd, true_and, wk,if_true,if_false,forall_const,implies_true,ne_eq,eq_self,Nat.reduceEqDiff,Nat.reduceAdd,Nat.reduceMul,Nat.reduceSub,Nat.reduceLeDiff,Nat.reduceLT,Int.reduceEq,Int.reduceLT,Int.reduceLE,Int.reduceAdd,Int.reduceSub,Int.reduceMul,Int.reduceNeg,Int.reduceNe,reduceCtorEq,Int.reduceToNat,↓reduceIte]
    refine ⟨fun h4 => big (.inr ⟨_, hmem, by simp only [largeO, Bool.or_eq_true, decide_eq_true_eq]; left; omega⟩), fun h4 => ?_⟩
    obtain ⟨k1, k2⟩ := h2 _ hmem
    refine W_loop (fun n fr h => ∃ j : Nat, j ≤ r.objs[i].ents.length ∧ n = r.objs[i].ents.length - j ∧ h = [some (false, [.int .i64 r.boot, .lst .ro r.objs.length (objsC r.objs)])] ∧ fr = [(1, .ptr 0 0), (3, .int .i64 i), (11, .int .i64 r.objs.length), (12, .int .i64 i), (29, .int .i64 r.objs[i].ents.length), (30, .int .i64 j)] ∧ ∀ x ∈ r.objs[i].ents.take j, wideE x = false) r.objs[i].ents.length ⟨0, by omega, by omega, rfl, rfl, by simp⟩ ?_
    rintro n fr h' ⟨j, hj, rfl, rfl, rfl, hall2⟩
    simp only [J_law21_large_j3, hin, hd, true_and, wk,if_true,if_false,forall_const,implies_true,ne_eq,eq_self,Nat.reduceEqDiff,Nat.reduceAdd,Nat.reduceMul,Nat.reduceSub,Nat.reduceLeDiff,Nat.reduceLT,Int.reduceEq,Int.reduceLT,Int.reduceLE,Int.reduceAdd,Int.reduceSub,Int.reduceMul,Int.reduceNeg,Int.reduceNe,reduceCtorEq,Int.reduceToNat,↓reduceIte]
    refine ⟨fun hlt2 => ?_, fun hge2 => ?_⟩
    · have hjl : j < r.objs[i].ents.length := by omega
      have hf : (entsC r.objs[i].ents).drop ((j : Int).toNat * 2) = .int .i64 r.objs[i].ents[j].op :: .lst .ro r.objs[i].ents[j].who.length (r.objs[i].ents[j].who.map .str) :: (entsC r.objs[i].ents).drop ((j + 1) * 2) := by rw [show (j : Int).toNat = j by omega]; exact entsC_drop hjl
      have hjn : ((0 ≤ (j : Int)) ∧ (j : Int) < (r.objs[i].ents.length : Int)) = True := by simp; omega
      have q := p_wide r.objs[i].ents[j] (k2 _ (List.getElem_mem hjl))
      simp only [vE, eC] at q
      simp only [hjn, hf, true_and, wk,if_true,if_false,forall_const,implies_true,ne_eq,eq_self,Nat.reduceEqDiff,Nat.reduceAdd,Nat.reduceMul,Nat.reduceSub,Nat.reduceLeDiff,Nat.reduceLT,Int.reduceEq,Int.reduceLT,Int.reduceLE,Int.reduceAdd,Int.reduceSub,Int.reduceMul,Int.reduceNeg,Int.reduceNe,reduceCtorEq,Int.reduceToNat,↓reduceIte]
      refine PCalls.use (q) ?_; simp only [wk,if_true,if_false,forall_const,implies_true,ne_eq,eq_self,Nat.reduceEqDiff,Nat.reduceAdd,Nat.reduceMul,Nat.reduceSub,Nat.reduceLeDiff,Nat.reduceLT,Int.reduceEq,Int.reduceLT,Int.reduceLE,Int.reduceAdd,Int.reduceSub,Int.reduceMul,Int.reduceNeg,Int.reduceNe,reduceCtorEq,Int.reduceToNat,↓reduceIte]
      refine ⟨fun h5 => big (.inr ⟨_, hmem, by simp only [largeO, Bool.or_eq_true, List.any_eq_true]; right; exact ⟨_, List.getElem_mem hjl, h5⟩⟩), fun h5 => ⟨inR_of (by omega) (by omega), r.objs[i].ents.length - (j + 1), by omega, j + 1, by omega, rfl, by simp, fun w hw => ?_⟩⟩
      rcases (take_mem_succ hjl).1 hw with h | h
      · exact hall2 w h
      · subst h; exact h5
    · rw [List.take_of_length_le (by omega)] at hall2
      simp only [J_law21_large_j2, wk,if_true,if_false,forall_const,implies_true,ne_eq,eq_self,Nat.reduceEqDiff,Nat.reduceAdd,Nat.reduceMul,Nat.reduceSub,Nat.reduceLeDiff,Nat.reduceLT,Int.reduceEq,Int.reduceLT,Int.reduceLE,Int.reduceAdd,Int.reduceSub,Int.reduceMul,Int.reduceNeg,Int.reduceNe,reduceCtorEq,Int.reduceToNat,↓reduceIte]
      refine ⟨inR_of (by omega) (by omega), r.objs.length - (i + 1), by omega, i + 1, by omega, rfl, by simp, fun w hw => ?_⟩
      rcases (take_mem_succ hil).1 hw with h | h
      · exact hall w h
      · subst h
        simp only [largeO, Bool.or_eq_false_iff, decide_eq_false_iff_not, List.any_eq_false, Bool.not_eq_true]
        exact ⟨by omega, hall2⟩
  · rw [List.take_of_length_le (by omega)] at hall
    simp only [J_law21_large_j1, wk,if_true,if_false,forall_const,implies_true,ne_eq,eq_self,Nat.reduceEqDiff,Nat.reduceAdd,Nat.reduceMul,Nat.reduceSub,Nat.reduceLeDiff,Nat.reduceLT,Int.reduceEq,Int.reduceLT,Int.reduceLE,Int.reduceAdd,Int.reduceSub,Int.reduceMul,Int.reduceNeg,Int.reduceNe,reduceCtorEq,Int.reduceToNat,↓reduceIte]
    congr 1
    symm
    simp only [largeR, Bool.or_eq_false_iff, decide_eq_false_iff_not, List.any_eq_false, Bool.not_eq_true]
    exact ⟨by omega, hall⟩
end Go.Proofs.Ytcbcnbefaggnhaa

/- awake of the laws on records. -/
namespace Go.Proofs.Ytcbcnbefaggnhaa
set_option linter.unusedSimpArgs false
set_option linter.unusedVariables false
open Go.RowKit Go.Lib

def wd8 : ByteArray := ⟨#[32, 1]⟩
def ent8 : Ent := ⟨1, [wd8]⟩
def r8 : Rcd := ⟨3, [⟨5, [ent8], 2⟩]⟩
def sR8 : List UInt8 := [3, 1, 5, 2, 1, 1, 1, 1, 32, 1]
abbrev vE8 : AV := .agg [.int .i64 1, .lst .ro 1 [.str wd8]]
abbrev vR8 : AV := .agg [.int .i64 3, .lst .ro 1 [.int .i64 5, .lst .ro 1 [.int .i64 1, .lst .ro 1 [.str wd8]], .int .i64 2]]
abbrev vR8a : AV := .agg [.int .i64 3, .lst .ro 1 [.int .i64 8, .lst .ro 1 [.int .i64 1, .lst .ro 1 [.str wd8]], .int .i64 2]]
abbrev vR8b : AV := .agg [.int .i64 3, .lst .ro 1 [.int .i64 5, .lst .ro 0 [], .int .i64 3]]
abbrev vR0 : AV := .agg [.int .i64 0, .lst .ro 0 []]
theorem small8 : smallR r8 := ⟨by decide, fun o ho => by
  simp [r8] at ho; subst ho
  exact ⟨by decide, fun x hx => by simp at hx; subst hx; exact ⟨by decide, fun w hw => by simp [ent8] at hw; subst hw; decide⟩⟩⟩
theorem smallE0 : smallE ⟨0, []⟩ := ⟨by decide, fun x hx => by simp at hx⟩
theorem smallE8 : smallE ent8 := ⟨by decide, fun w hw => by simp [ent8] at hw; subst hw; decide⟩
theorem q_do1 : PCalls Try.prog 18 [vR8, .agg [.int .i64 0, .int .i64 1, .int .i64 3, .int .i64 0, .lst .clip 0 []]] (.tup [vR8a, .int .i64 8, .int .i64 0]) := by
  refine PCalls.argd ?_
  simp only [rdpw]
  exact p_do_ok r8 ⟨0, 1, 3, ⟨0, []⟩⟩ small8 smallE0 (by kernel_rfl)
theorem q_do2 : PCalls Try.prog 18 [vR8, .agg [.int .i64 1, .int .i64 0, .int .i64 0, .int .i64 0, .lst .clip 0 []]] (.tup [vR0, .int .i64 0, .int .i64 10]) := by
  refine PCalls.argd ?_
  simp only [rdpw]
  have h := p_do_no r8 ⟨1, 0, 0, ⟨0, []⟩⟩ small8 smallE0 (by rw [show doE r8 ⟨1, 0, 0, ⟨0, []⟩⟩ = 10 by kernel_rfl]; decide)
  rw [show doE r8 ⟨1, 0, 0, ⟨0, []⟩⟩ = 10 by kernel_rfl] at h
  exact h
theorem q_do3 : PCalls Try.prog 18 [vR8, .agg [.int .i64 0, .int .i64 3, .int .i64 0, .int .i64 1, .lst .ro 1 [.str wd8]]] (.tup [vR8b, .int .i64 5, .int .i64 0]) :=
  p_do_ok r8 ⟨0, 3, 0, ent8⟩ small8 smallE8 (by kernel_rfl)
theorem q_enc8 : PCalls Try.prog 26 [vR8] (.tup [.str ⟨sR8.toArray⟩, .int .i64 0]) := by
  have h := p_renc r8 small8
  unfold encR at h
  have h1 : num 1 = [1] := by rw [num_lt (by decide)]; rfl
  have h2 : num 2 = [2] := by rw [num_lt (by decide)]; rfl
  have h3 : num 3 = [3] := by rw [num_lt (by decide)]; rfl
  have h5 : num 5 = [5] := by rw [num_lt (by decide)]; rfl
  have e : recB r8 = sR8 := by
    show num 3 ++ (num 1 ++ (num 5 ++ (num 2 ++ (num 1 ++ ((num 1 ++ setBytes [wd8]) ++ [])))  ++ [])) = sR8
    rw [h1, h2, h3, h5]
    rfl
  rw [if_pos (by kernel_rfl), e] at h
  exact h
theorem q_dec8 : PCalls Try.prog 28 [.str ⟨sR8.toArray⟩] (.tup [vR8, .int .i64 0]) := by
  have h := p_rdec ⟨sR8.toArray⟩ (by decide)
  rw [show decR ⟨sR8.toArray⟩ = some r8 by kernel_rfl] at h
  exact h
theorem q_dec9 : PCalls Try.prog 28 [.str (⟨sR8.toArray⟩ ++ ⟨#[63]⟩)] (.tup [vR0, .int .i64 2]) := by
  have h := p_rdec (⟨sR8.toArray⟩ ++ ⟨#[63]⟩) (by decide)
  rw [show decR (⟨sR8.toArray⟩ ++ ⟨#[63]⟩) = none by
    rw [show (⟨sR8.toArray⟩ ++ ⟨#[63]⟩ : ByteArray) = ⟨(sR8 ++ [63]).toArray⟩ from str_app2 sR8 [63]]
    kernel_rfl] at h
  exact h
theorem q_same8 : PCalls Try.prog 30 [vR8, vR8] (.bool true) := by
  have h := p_rsame r8 r8 small8 small8
  rw [show sameR r8 r8 = true by kernel_rfl] at h
  exact h
def r8a : Rcd := ⟨3, [⟨8, [ent8], 2⟩]⟩
theorem small8a : smallR r8a := ⟨by decide, fun o ho => by
  simp [r8a] at ho; subst ho
  exact ⟨by decide, fun x hx => by simp at hx; subst hx; exact smallE8⟩⟩
theorem q_same9 : PCalls Try.prog 30 [vR8, vR8a] (.bool false) := by
  have h := p_rsame r8 r8a small8 small8a
  rw [show sameR r8 r8a = false by kernel_rfl] at h
  exact h
theorem q_may8 : PCalls Try.prog 21 [vR8] (.bool true) := by
  have h := p_rmay1 r8 small8
  rw [show mayR r8 = true by kernel_rfl] at h
  exact h
theorem q_may9 : PCalls Try.prog 21 [.agg [.int .i64 (-1), .lst .clip 0 []]] (.bool false) := by
  refine PCalls.argd ?_
  simp only [rdpw]
  exact p_rmay1 ⟨-1, []⟩ ⟨by decide, fun o ho => by simp at ho⟩
theorem q_ask8 : PCalls Try.prog 23 [.agg [.int .i64 0, .int .i64 0, .int .i64 0, .int .i64 0, .lst .clip 0 []]] (.bool true) := by
  refine PCalls.argd ?_
  simp only [rdpw]
  exact p_asks ⟨0, 0, 0, ⟨0, []⟩⟩ smallE0
theorem q_ask9 : PCalls Try.prog 23 [.agg [.int .i64 0, .int .i64 0, .int .i64 1, .int .i64 0, .lst .clip 0 []]] (.bool false) := by
  refine PCalls.argd ?_
  simp only [rdpw]
  exact p_asks ⟨0, 0, 1, ⟨0, []⟩⟩ smallE0
theorem q_need8 : PCalls Try.prog 25 [.agg [.int .i64 0, .int .i64 2, .int .i64 0, .int .i64 0, .lst .clip 0 []]] (.int .i64 2) := by
  refine PCalls.argd ?_
  simp only [rdpw]
  exact p_need ⟨0, 2, 0, ⟨0, []⟩⟩
theorem q_of8 : PCalls Try.prog 41 [.lst .ro 1 [.int .u16 8193]] (.str wd8) := p_rof [8193] (by decide) (by decide)
set_option maxRecDepth 100000 in
set_option maxHeartbeats 4000000 in
theorem p_awake21 : PCalls Try.prog 14 [] (.bool true) := by
  refine pcalls_of (by first | rfl | simp [free, free.frees, frees_str, frees_u8, frees_u16]) (by first | rfl | simp [free, free.frees, frees_str, frees_u8, frees_u16]) (acalls_of mixed J_law21_awake_ok (Nat.le_of_ble_eq_true rfl) ?_); simp only [J_law21_awake, wk,if_true,if_false,forall_const,implies_true,ne_eq,eq_self,Nat.reduceEqDiff,Nat.reduceAdd,Nat.reduceMul,Nat.reduceSub,Nat.reduceLeDiff,Nat.reduceLT,Int.reduceEq,Int.reduceLT,Int.reduceLE,Int.reduceAdd,Int.reduceSub,Int.reduceMul,Int.reduceNeg,Int.reduceNe,reduceCtorEq,Int.reduceToNat,↓reduceIte]
  refine PCalls.use (q_of8) ?_; simp only [wk,if_true,if_false,forall_const,implies_true,ne_eq,eq_self,Nat.reduceEqDiff,Nat.reduceAdd,Nat.reduceMul,Nat.reduceSub,Nat.reduceLeDiff,Nat.reduceLT,Int.reduceEq,Int.reduceLT,Int.reduceLE,Int.reduceAdd,Int.reduceSub,Int.reduceMul,Int.reduceNeg,Int.reduceNe,reduceCtorEq,Int.reduceToNat,↓reduceIte]
  refine PCalls.use (q_do1) ?_; simp only [wk,if_true,if_false,forall_const,implies_true,ne_eq,eq_self,Nat.reduceEqDiff,Nat.reduceAdd,Nat.reduceMul,Nat.reduceSub,Nat.reduceLeDiff,Nat.reduceLT,Int.reduceEq,Int.reduceLT,Int.reduceLE,Int.reduceAdd,Int.reduceSub,Int.reduceMul,Int.reduceNeg,Int.reduceNe,reduceCtorEq,Int.reduceToNat,↓reduceIte]
  refine PCalls.use (q_do2) ?_; simp only [wk,if_true,if_false,forall_const,implies_true,ne_eq,eq_self,Nat.reduceEqDiff,Nat.reduceAdd,Nat.reduceMul,Nat.reduceSub,Nat.reduceLeDiff,Nat.reduceLT,Int.reduceEq,Int.reduceLT,Int.reduceLE,Int.reduceAdd,Int.reduceSub,Int.reduceMul,Int.reduceNeg,Int.reduceNe,reduceCtorEq,Int.reduceToNat,↓reduceIte]
  refine ⟨by decide, by decide, _, q_do3, ?_⟩
  simp only [wk,if_true,if_false,forall_const,implies_true,ne_eq,eq_self,Nat.reduceEqDiff,Nat.reduceAdd,Nat.reduceMul,Nat.reduceSub,Nat.reduceLeDiff,Nat.reduceLT,Int.reduceEq,Int.reduceLT,Int.reduceLE,Int.reduceAdd,Int.reduceSub,Int.reduceMul,Int.reduceNeg,Int.reduceNe,reduceCtorEq,Int.reduceToNat,↓reduceIte]
  refine PCalls.use (q_enc8) ?_; simp only [wk,if_true,if_false,forall_const,implies_true,ne_eq,eq_self,Nat.reduceEqDiff,Nat.reduceAdd,Nat.reduceMul,Nat.reduceSub,Nat.reduceLeDiff,Nat.reduceLT,Int.reduceEq,Int.reduceLT,Int.reduceLE,Int.reduceAdd,Int.reduceSub,Int.reduceMul,Int.reduceNeg,Int.reduceNe,reduceCtorEq,Int.reduceToNat,↓reduceIte]
  refine PCalls.use (q_dec8) ?_; simp only [wk,if_true,if_false,forall_const,implies_true,ne_eq,eq_self,Nat.reduceEqDiff,Nat.reduceAdd,Nat.reduceMul,Nat.reduceSub,Nat.reduceLeDiff,Nat.reduceLT,Int.reduceEq,Int.reduceLT,Int.reduceLE,Int.reduceAdd,Int.reduceSub,Int.reduceMul,Int.reduceNeg,Int.reduceNe,reduceCtorEq,Int.reduceToNat,↓reduceIte]
  refine ⟨by decide, ?_⟩
  refine PCalls.use (q_dec9) ?_; simp only [wk,if_true,if_false,forall_const,implies_true,ne_eq,eq_self,Nat.reduceEqDiff,Nat.reduceAdd,Nat.reduceMul,Nat.reduceSub,Nat.reduceLeDiff,Nat.reduceLT,Int.reduceEq,Int.reduceLT,Int.reduceLE,Int.reduceAdd,Int.reduceSub,Int.reduceMul,Int.reduceNeg,Int.reduceNe,reduceCtorEq,Int.reduceToNat,↓reduceIte]
  repeat (first
    | (refine PCalls.use q_same8 ?_; simp only [wk,if_true,if_false,forall_const,implies_true,ne_eq,eq_self,Nat.reduceEqDiff,Nat.reduceAdd,Nat.reduceMul,Nat.reduceSub,Nat.reduceLeDiff,Nat.reduceLT,Int.reduceEq,Int.reduceLT,Int.reduceLE,Int.reduceAdd,Int.reduceSub,Int.reduceMul,Int.reduceNeg,Int.reduceNe,reduceCtorEq,Int.reduceToNat,↓reduceIte])
    | (refine PCalls.use q_same9 ?_; simp only [wk,if_true,if_false,forall_const,implies_true,ne_eq,eq_self,Nat.reduceEqDiff,Nat.reduceAdd,Nat.reduceMul,Nat.reduceSub,Nat.reduceLeDiff,Nat.reduceLT,Int.reduceEq,Int.reduceLT,Int.reduceLE,Int.reduceAdd,Int.reduceSub,Int.reduceMul,Int.reduceNeg,Int.reduceNe,reduceCtorEq,Int.reduceToNat,↓reduceIte])
    | (refine PCalls.use q_may8 ?_; simp only [wk,if_true,if_false,forall_const,implies_true,ne_eq,eq_self,Nat.reduceEqDiff,Nat.reduceAdd,Nat.reduceMul,Nat.reduceSub,Nat.reduceLeDiff,Nat.reduceLT,Int.reduceEq,Int.reduceLT,Int.reduceLE,Int.reduceAdd,Int.reduceSub,Int.reduceMul,Int.reduceNeg,Int.reduceNe,reduceCtorEq,Int.reduceToNat,↓reduceIte])
    | (refine PCalls.use q_may9 ?_; simp only [wk,if_true,if_false,forall_const,implies_true,ne_eq,eq_self,Nat.reduceEqDiff,Nat.reduceAdd,Nat.reduceMul,Nat.reduceSub,Nat.reduceLeDiff,Nat.reduceLT,Int.reduceEq,Int.reduceLT,Int.reduceLE,Int.reduceAdd,Int.reduceSub,Int.reduceMul,Int.reduceNeg,Int.reduceNe,reduceCtorEq,Int.reduceToNat,↓reduceIte])
    | (refine PCalls.use q_ask8 ?_; simp only [wk,if_true,if_false,forall_const,implies_true,ne_eq,eq_self,Nat.reduceEqDiff,Nat.reduceAdd,Nat.reduceMul,Nat.reduceSub,Nat.reduceLeDiff,Nat.reduceLT,Int.reduceEq,Int.reduceLT,Int.reduceLE,Int.reduceAdd,Int.reduceSub,Int.reduceMul,Int.reduceNeg,Int.reduceNe,reduceCtorEq,Int.reduceToNat,↓reduceIte])
    | (refine PCalls.use q_ask9 ?_; simp only [wk,if_true,if_false,forall_const,implies_true,ne_eq,eq_self,Nat.reduceEqDiff,Nat.reduceAdd,Nat.reduceMul,Nat.reduceSub,Nat.reduceLeDiff,Nat.reduceLT,Int.reduceEq,Int.reduceLT,Int.reduceLE,Int.reduceAdd,Int.reduceSub,Int.reduceMul,Int.reduceNeg,Int.reduceNe,reduceCtorEq,Int.reduceToNat,↓reduceIte])
    | (refine PCalls.use q_need8 ?_; simp only [wk,if_true,if_false,forall_const,implies_true,ne_eq,eq_self,Nat.reduceEqDiff,Nat.reduceAdd,Nat.reduceMul,Nat.reduceSub,Nat.reduceLeDiff,Nat.reduceLT,Int.reduceEq,Int.reduceLT,Int.reduceLE,Int.reduceAdd,Int.reduceSub,Int.reduceMul,Int.reduceNeg,Int.reduceNe,reduceCtorEq,Int.reduceToNat,↓reduceIte])
    | refine ⟨fun _ => ?_, fun h => absurd rfl h⟩
    | refine ⟨by decide, ?_⟩)
end Go.Proofs.Ytcbcnbefaggnhaa

/- RecordBytes, over the abstract code. -/
namespace Go.Proofs.Ytcbcnbefaggnhaa
set_option linter.unusedSimpArgs false
set_option linter.unusedVariables false
open Go.RowKit Go.Lib

/-- lengths that a slice may have -/
def fitE (x : Ent) : Prop := x.who.length ≤ 9223372036854775807
def fitR (r : Rcd) : Prop := r.objs.length ≤ 9223372036854775807 ∧ ∀ o ∈ r.objs, o.ents.length ≤ 9223372036854775807 ∧ ∀ x ∈ o.ents, x.who.length ≤ 9223372036854775807
theorem sameEnt_self (x : Ent) : sameEnt x x = true := by simp [sameEnt]
theorem sameO_self (o : Obt) : sameO o o = true := by
  simp only [sameO, decide_true, Bool.true_and]
  exact all_zip rfl (fun k h1 h2 => sameEnt_self _)
theorem sameR_self (r : Rcd) : sameR r r = true := by
  simp only [sameR, decide_true, Bool.true_and]
  exact all_zip rfl (fun k h1 h2 => sameO_self _)
/-- what is decoded is not too large -/
theorem dec_small {S : ByteArray} {r : Rcd} (h : decR S = some r) : smallR r ∧ mayR r = true := by
  unfold decR rRec at h
  split at h
  · cases h
  · next r' q' hr =>
    split at hr
    · cases hr
    · split at hr
      · cases hr
      · next n q2 h2 =>
        split at hr
        · cases hr
        · next l q3 h3 =>
          simp only [Option.some.injEq, Prod.mk.injEq] at hr
          obtain ⟨rfl, rfl⟩ := hr
          split at h
          · cases h
          · split at h
            · next hm =>
              simp only [Option.some.injEq] at h
              subst h
              obtain ⟨a, b⟩ := rMany_len h3
              have := rNum_mo h2
              exact ⟨⟨by show l.length ≤ 1000; omega, fun o ho => by obtain ⟨_, _, e⟩ := b o ho; exact rObt_small e⟩, hm⟩
            · cases h
theorem smallR0 : smallR zeroR := ⟨by decide, fun o ho => by simp [zeroR] at ho⟩
/-- what Decode tells: a record, and an error -/
def decC (S : ByteArray) : Rcd := (decR S).getD zeroR
def decN (S : ByteArray) : Int := if (decR S).isSome then 0 else 2
theorem decRV_eq (S : ByteArray) : decRV (decR S) = .tup [vR (decC S), .int .i64 (decN S)] := by
  unfold decC decN
  cases decR S <;> rfl
theorem decC_small (S : ByteArray) : smallR (decC S) := by
  unfold decC
  cases h : decR S with
  | none => exact smallR0
  | some r => exact (dec_small h).1
def encS (r : Rcd) : ByteArray := if mayR r = true then ⟨(recB r).toArray⟩ else ⟨#[]⟩
def encN (r : Rcd) : Int := if mayR r = true then 0 else 2
theorem encR_eq (r : Rcd) : encR r = .tup [.str (encS r), .int .i64 (encN r)] := by
  unfold encR encS encN
  split <;> rfl
set_option maxRecDepth 100000 in
set_option maxHeartbeats 4000000 in
theorem a_rbytes (r : Rcd) (s : ByteArray) (hr : fitR r) : ACalls Try.prog 4 [vR r, .str s] [] (fun a _ => a = .bool true) := by
  refine acalls_of mixed J_law21_RecordBytes_ok (Nat.le_of_ble_eq_true rfl) ?_; simp only [J_law21_RecordBytes, vR, rC, wk,if_true,if_false,forall_const,implies_true,ne_eq,eq_self,Nat.reduceEqDiff,Nat.reduceAdd,Nat.reduceMul,Nat.reduceSub,Nat.reduceLeDiff,Nat.reduceLT,Int.reduceEq,Int.reduceLT,Int.reduceLE,Int.reduceAdd,Int.reduceSub,Int.reduceMul,Int.reduceNeg,Int.reduceNe,reduceCtorEq,Int.reduceToNat,↓reduceIte]
  refine PCalls.use (p_awake21) ?_; simp only [wk,if_true,if_false,forall_const,implies_true,ne_eq,eq_self,Nat.reduceEqDiff,Nat.reduceAdd,Nat.reduceMul,Nat.reduceSub,Nat.reduceLeDiff,Nat.reduceLT,Int.reduceEq,Int.reduceLT,Int.reduceLE,Int.reduceAdd,Int.reduceSub,Int.reduceMul,Int.reduceNeg,Int.reduceNe,reduceCtorEq,Int.reduceToNat,↓reduceIte]
  have ql := p_large r hr.1 hr.2
  simp only [vR, rC] at ql
  refine PCalls.use (ql) ?_; simp only [wk,if_true,if_false,forall_const,implies_true,ne_eq,eq_self,Nat.reduceEqDiff,Nat.reduceAdd,Nat.reduceMul,Nat.reduceSub,Nat.reduceLeDiff,Nat.reduceLT,Int.reduceEq,Int.reduceLT,Int.reduceLE,Int.reduceAdd,Int.reduceSub,Int.reduceMul,Int.reduceNeg,Int.reduceNe,reduceCtorEq,Int.reduceToNat,↓reduceIte]
  refine fun h1 h2 => ?_
  have hsm := not_large h1
  have hs : s.size ≤ 1000000 := by omega
  have qe := p_renc r hsm
  have qf := p_rrenc r hsm
  have qd := p_rdec s hs
  have qg := p_rrdec s hs
  have qs := p_rsame (decC s) (decC s) (decC_small s) (decC_small s)
  have qt := p_rrsame (decC s) (decC s) (decC_small s) (decC_small s)
  rw [encR_eq] at qe qf
  rw [decRV_eq] at qd qg
  rw [sameR_self] at qs qt
  simp only [vR, rC] at qe qf qd qg qs qt
  refine PCalls.use (qe) ?_; simp only [wk,if_true,if_false,forall_const,implies_true,ne_eq,eq_self,Nat.reduceEqDiff,Nat.reduceAdd,Nat.reduceMul,Nat.reduceSub,Nat.reduceLeDiff,Nat.reduceLT,Int.reduceEq,Int.reduceLT,Int.reduceLE,Int.reduceAdd,Int.reduceSub,Int.reduceMul,Int.reduceNeg,Int.reduceNe,reduceCtorEq,Int.reduceToNat,↓reduceIte]
  refine PCalls.use (qf) ?_; simp only [wk,if_true,if_false,forall_const,implies_true,ne_eq,eq_self,Nat.reduceEqDiff,Nat.reduceAdd,Nat.reduceMul,Nat.reduceSub,Nat.reduceLeDiff,Nat.reduceLT,Int.reduceEq,Int.reduceLT,Int.reduceLE,Int.reduceAdd,Int.reduceSub,Int.reduceMul,Int.reduceNeg,Int.reduceNe,reduceCtorEq,Int.reduceToNat,↓reduceIte]
  refine PCalls.use (qd) ?_; simp only [wk,if_true,if_false,forall_const,implies_true,ne_eq,eq_self,Nat.reduceEqDiff,Nat.reduceAdd,Nat.reduceMul,Nat.reduceSub,Nat.reduceLeDiff,Nat.reduceLT,Int.reduceEq,Int.reduceLT,Int.reduceLE,Int.reduceAdd,Int.reduceSub,Int.reduceMul,Int.reduceNeg,Int.reduceNe,reduceCtorEq,Int.reduceToNat,↓reduceIte]
  refine PCalls.use (qg) ?_; simp only [wk,if_true,if_false,forall_const,implies_true,ne_eq,eq_self,Nat.reduceEqDiff,Nat.reduceAdd,Nat.reduceMul,Nat.reduceSub,Nat.reduceLeDiff,Nat.reduceLT,Int.reduceEq,Int.reduceLT,Int.reduceLE,Int.reduceAdd,Int.reduceSub,Int.reduceMul,Int.reduceNeg,Int.reduceNe,reduceCtorEq,Int.reduceToNat,↓reduceIte]
  refine PCalls.use (qt) ?_; simp only [wk,if_true,if_false,forall_const,implies_true,ne_eq,eq_self,Nat.reduceEqDiff,Nat.reduceAdd,Nat.reduceMul,Nat.reduceSub,Nat.reduceLeDiff,Nat.reduceLT,Int.reduceEq,Int.reduceLT,Int.reduceLE,Int.reduceAdd,Int.reduceSub,Int.reduceMul,Int.reduceNeg,Int.reduceNe,reduceCtorEq,Int.reduceToNat,↓reduceIte]
  refine PCalls.use (qs) ?_; simp only [wk,if_true,if_false,forall_const,implies_true,ne_eq,eq_self,Nat.reduceEqDiff,Nat.reduceAdd,Nat.reduceMul,Nat.reduceSub,Nat.reduceLeDiff,Nat.reduceLT,Int.reduceEq,Int.reduceLT,Int.reduceLE,Int.reduceAdd,Int.reduceSub,Int.reduceMul,Int.reduceNeg,Int.reduceNe,reduceCtorEq,Int.reduceToNat,↓reduceIte]
end Go.Proofs.Ytcbcnbefaggnhaa

/- The plain laws of records' bytes. No program in sight. -/
namespace Go.Proofs.Ytcbcnbefaggnhaa
set_option linter.unusedSimpArgs false
set_option linter.unusedVariables false
open Go.RowKit Go.Lib

/-- what is written of a list is read -/
theorem rMany_at {α : Type} {S : ByteArray} {g : Nat → Option (α × Nat)} {f : α → List UInt8} {l : List α} (hg : ∀ x ∈ l, ∀ (p : Nat) (r : List UInt8), S.data.toList.drop p = f x ++ r → g p = some (x, p + (f x).length)) {p : Nat} {r : List UInt8} (h : S.data.toList.drop p = l.flatMap f ++ r) :
    ∀ k, k ≤ l.length → rMany g p k = some (l.take k, p + ((l.take k).flatMap f).length)
  | 0, _ => by simp [rMany]
  | k + 1, hk => by
    have ih := rMany_at hg h k (by omega)
    have hkl : k < l.length := by omega
    have h1 : S.data.toList.drop p = (l.take k).flatMap f ++ (f l[k] ++ ((l.drop (k + 1)).flatMap f ++ r)) := by
      have e : l = l.take k ++ l[k] :: l.drop (k + 1) := by rw [← List.drop_eq_getElem_cons hkl, List.take_append_drop]
      have e2 : l.flatMap f = (l.take k).flatMap f ++ (f l[k] ++ (l.drop (k + 1)).flatMap f) := by
        conv => lhs; rw [e]
        rw [List.flatMap_append, List.flatMap_cons]
      rw [h, e2, List.append_assoc, List.append_assoc]
    have h2 := hg _ (List.getElem_mem hkl) _ _ (drop_more h1)
    simp only [rMany, ih, h2]
    rw [List.take_succ_eq_append_getElem hkl, List.flatMap_append, List.length_append]
    simp [Nat.add_assoc]
theorem rMany_all {α : Type} {S : ByteArray} {g : Nat → Option (α × Nat)} {f : α → List UInt8} {l : List α} {p : Nat} {r : List UInt8} (h : S.data.toList.drop p = l.flatMap f ++ r) (hg : ∀ x ∈ l, ∀ (p : Nat) (r : List UInt8), S.data.toList.drop p = f x ++ r → g p = some (x, p + (f x).length)) :
    rMany g p l.length = some (l, p + (l.flatMap f).length) := by
  have := rMany_at hg h l.length (Nat.le_refl _)
  rwa [List.take_length] at this
/-- what is read of a list are its bytes -/
theorem upTo_many {α : Type} {S : ByteArray} {g : Nat → Option (α × Nat)} {f : α → List UInt8} (hg : ∀ (p q : Nat) x, g p = some (x, q) → p ≤ S.size → upTo S q = upTo S p ++ f x ∧ q ≤ S.size) {p : Nat} (hp : p ≤ S.size) :
    ∀ (k : Nat) (l : List α) (q : Nat), rMany g p k = some (l, q) → upTo S q = upTo S p ++ l.flatMap f ∧ q ≤ S.size
  | 0, l, q, h => by
    simp only [rMany, Option.some.injEq, Prod.mk.injEq] at h
    obtain ⟨rfl, rfl⟩ := h
    simpa using hp
  | k + 1, l, q, h => by
    simp only [rMany] at h
    split at h
    · next l' q' h1 =>
      obtain ⟨i1, i2⟩ := upTo_many hg hp k l' q' h1
      split at h
      · next x q2 h2 =>
        simp only [Option.some.injEq, Prod.mk.injEq] at h
        obtain ⟨rfl, rfl⟩ := h
        obtain ⟨j1, j2⟩ := hg _ _ _ h2 i2
        refine ⟨?_, j2⟩
        rw [j1, i1, List.flatMap_append]
        simp [List.append_assoc]
      · cases h
    · cases h
theorem rEnt_at {S : ByteArray} {x : Ent} (hx : mayEnt x = true) {p : Nat} {r : List UInt8} (h : S.data.toList.drop p = entB x ++ r) : rEnt S p = some (x, p + (entB x).length) := by
  obtain ⟨h1, h2, h3⟩ := mayEnt_ok hx
  unfold entB at h
  rw [List.append_assoc] at h
  unfold rEnt
  rw [rNum_at (most := 7) h (by omega) (by omega)]
  have h4 := drop_more h
  simp only [rSet_at h4 h3, entB, List.length_append, Option.some.injEq, Prod.mk.injEq]
  refine ⟨?_, by omega⟩
  obtain ⟨op, who⟩ := x
  simp only [Ent.mk.injEq, and_true]
  simp only at h1
  omega
theorem rObt_at {S : ByteArray} {o : Obt} (ho : mayO o = true) {p : Nat} {r : List UInt8} (h : S.data.toList.drop p = objB o ++ r) : rObt S p = some (o, p + (objB o).length) := by
  have ho' := ho
  simp only [mayO, Bool.and_eq_true, numOk, decide_eq_true_eq] at ho'
  obtain ⟨n1, n2, n3⟩ := ho'
  obtain ⟨me, ml⟩ := newE_ok n3 (by simp)
  simp only [List.length_nil, Nat.zero_add] at ml
  unfold objB at h
  rw [List.append_assoc, List.append_assoc, List.append_assoc] at h
  unfold rObt
  rw [rNum_at (most := 4611686018427387904) h (by omega) (by omega)]
  have h1 := drop_more h
  simp only [rNum_at (most := 4611686018427387904) h1 (by omega) (by omega)]
  have h2 := drop_more h1
  simp only [rNum_at (most := 12) h2 (by omega) (by omega)]
  have h3 := drop_more h2
  simp only [rMany_all h3 (fun x hx p r hr => rEnt_at (me x hx) hr), objB, List.length_append, Option.some.injEq, Prod.mk.injEq]
  refine ⟨?_, by omega⟩
  obtain ⟨v, e, w⟩ := o
  simp only [Obt.mk.injEq, true_and]
  simp only at n1 n2
  omega
theorem recB_len {r : Rcd} (h : mayR r = true) : (recB r).length ≤ 20000 := by
  simp only [mayR, Bool.and_eq_true, decide_eq_true_eq, List.all_eq_true] at h
  obtain ⟨hboot, h4, hmo⟩ := h
  have lb : (num r.boot.toNat).length ≤ 9 := (num_len9 (by omega)).2
  have ln : (num r.objs.length).length ≤ 9 := (num_len9 (by omega)).2
  have := flat_len (f := objB) (c := 4000) r.objs (fun x hx => objB_len (hmo x hx))
  simp only [recB, List.length_append]
  omega
theorem enc_decR {r : Rcd} (h : mayR r = true) : decR ⟨(recB r).toArray⟩ = some r := by
  have h' := h
  simp only [mayR, Bool.and_eq_true, decide_eq_true_eq, List.all_eq_true] at h'
  obtain ⟨hboot, h4, hmo⟩ := h'
  obtain ⟨S, hS⟩ : ∃ S : ByteArray, S = ⟨(recB r).toArray⟩ := ⟨_, rfl⟩
  rw [← hS]
  have hl : S.data.toList = recB r := by rw [hS]
  have hsz : S.size = (recB r).length := by rw [hS]; exact ba_size _
  have h0 : S.data.toList.drop 0 = num r.boot.toNat ++ (num r.objs.length ++ (r.objs.flatMap objB ++ [])) := by rw [hl, List.append_nil]; rfl
  unfold decR rRec
  rw [rNum_at (most := 40) h0 (by omega) (by omega)]
  have h1 := drop_more h0
  simp only [rNum_at (most := 4) h1 (by omega) (by omega)]
  have h2 := drop_more h1
  simp only [rMany_all h2 (fun x hx p r hr => rObt_at (hmo x hx) hr)]
  have e : (⟨(r.boot.toNat : Int), r.objs⟩ : Rcd) = r := by
    obtain ⟨b, l⟩ := r
    simp only [Rcd.mk.injEq, and_true]
    simp only at hboot
    omega
  rw [e, if_pos h, if_neg]
  rw [hsz]
  simp only [recB, List.length_append]
  omega
theorem dec_encR {S : ByteArray} {r : Rcd} (h : decR S = some r) : recB r = S.data.toList ∧ mayR r = true := by
  have hm := (dec_small h).2
  refine ⟨?_, hm⟩
  unfold decR rRec at h
  split at h
  · cases h
  · next r' q' hr =>
    split at hr
    · cases hr
    · next b q1 h1 =>
      split at hr
      · cases hr
      · next n q2 h2 =>
        split at hr
        · cases hr
        · next l q3 h3 =>
          simp only [Option.some.injEq, Prod.mk.injEq] at hr
          obtain ⟨rfl, rfl⟩ := hr
          split at h
          · cases h
          · next hq =>
            rw [if_pos (by split at h; assumption; cases h)] at h
            simp only [Option.some.injEq] at h
            subst h
            have ent : ∀ (p q : Nat) x, rEnt S p = some (x, q) → p ≤ S.size → upTo S q = upTo S p ++ entB x ∧ q ≤ S.size := by
              intro p q x hx hp
              unfold rEnt at hx
              split at hx
              · cases hx
              · next n q1 hn =>
                split at hx
                · cases hx
                · next l q2 hl =>
                  simp only [Option.some.injEq, Prod.mk.injEq] at hx
                  obtain ⟨rfl, rfl⟩ := hx
                  obtain ⟨s1, s2, s3, s4⟩ := upTo_set hl
                  refine ⟨?_, s4⟩
                  rw [s1, upTo_num hn]
                  simp [entB, List.append_assoc]
            have obj : ∀ (p q : Nat) x, rObt S p = some (x, q) → p ≤ S.size → upTo S q = upTo S p ++ objB x ∧ q ≤ S.size := by
              intro p q x hx hp
              unfold rObt at hx
              split at hx
              · cases hx
              · next v p1 h1 =>
                split at hx
                · cases hx
                · next w p2 h2 =>
                  split at hx
                  · cases hx
                  · next m p3 h3 =>
                    split at hx
                    · cases hx
                    · next l p4 h4 =>
                      simp only [Option.some.injEq, Prod.mk.injEq] at hx
                      obtain ⟨rfl, rfl⟩ := hx
                      have b1 := (rNum_le h1 hp).2.1
                      have b2 := (rNum_le h2 b1).2.1
                      have b3 := (rNum_le h3 b2).2.1
                      obtain ⟨s1, s4⟩ := upTo_many ent b3 _ _ _ h4
                      refine ⟨?_, s4⟩
                      rw [s1, upTo_num h3, upTo_num h2, upTo_num h1]
                      simp [objB, List.append_assoc, (rMany_len h4).1]
            have b1 := (rNum_le h1 (Nat.zero_le _)).2.1
            have b2 := (rNum_le h2 b1).2.1
            obtain ⟨s1, s4⟩ := upTo_many obj b2 _ _ _ h3
            have hq3 : q3 = S.size := by omega
            rw [← upTo_size S, ← hq3, s1, upTo_num h2, upTo_num h1]
            have e0 : upTo S 0 = [] := rfl
            simp [recB, e0, List.append_assoc, (rMany_len h3).1]
end Go.Proofs.Ytcbcnbefaggnhaa

/- RecordBack, over the abstract code. -/
namespace Go.Proofs.Ytcbcnbefaggnhaa
set_option linter.unusedSimpArgs false
set_option linter.unusedVariables false
open Go.RowKit Go.Lib

theorem byt_of (S : ByteArray) : (⟨S.data.toList.toArray⟩ : ByteArray) = S := by apply ByteArray.ext; apply Array.ext'; simp
set_option maxRecDepth 100000 in
set_option maxHeartbeats 4000000 in
theorem a_rback (r : Rcd) (s : ByteArray) (hr : fitR r) : ACalls Try.prog 5 [vR r, .str s] [] (fun a _ => a = .bool true) := by
  refine acalls_of mixed J_law21_RecordBack_ok (Nat.le_of_ble_eq_true rfl) ?_; simp only [J_law21_RecordBack, vR, rC, wk,if_true,if_false,forall_const,implies_true,ne_eq,eq_self,Nat.reduceEqDiff,Nat.reduceAdd,Nat.reduceMul,Nat.reduceSub,Nat.reduceLeDiff,Nat.reduceLT,Int.reduceEq,Int.reduceLT,Int.reduceLE,Int.reduceAdd,Int.reduceSub,Int.reduceMul,Int.reduceNeg,Int.reduceNe,reduceCtorEq,Int.reduceToNat,↓reduceIte]
  refine PCalls.use (p_awake21) ?_; simp only [wk,if_true,if_false,forall_const,implies_true,ne_eq,eq_self,Nat.reduceEqDiff,Nat.reduceAdd,Nat.reduceMul,Nat.reduceSub,Nat.reduceLeDiff,Nat.reduceLT,Int.reduceEq,Int.reduceLT,Int.reduceLE,Int.reduceAdd,Int.reduceSub,Int.reduceMul,Int.reduceNeg,Int.reduceNe,reduceCtorEq,Int.reduceToNat,↓reduceIte]
  have ql := p_large r hr.1 hr.2
  simp only [vR, rC] at ql
  refine PCalls.use (ql) ?_; simp only [wk,if_true,if_false,forall_const,implies_true,ne_eq,eq_self,Nat.reduceEqDiff,Nat.reduceAdd,Nat.reduceMul,Nat.reduceSub,Nat.reduceLeDiff,Nat.reduceLT,Int.reduceEq,Int.reduceLT,Int.reduceLE,Int.reduceAdd,Int.reduceSub,Int.reduceMul,Int.reduceNeg,Int.reduceNe,reduceCtorEq,Int.reduceToNat,↓reduceIte]
  refine fun h1 h2 => ?_
  have hsm := not_large h1
  have hs : s.size ≤ 1000000 := by omega
  have qe := p_renc r hsm
  have qd := p_rdec s hs
  have qm := p_rmay1 r hsm
  -- the second half
  have hj : ∀ (fr : Fr) (h : Hp), lk fr 1 = some (.str s) → W Try.prog J_law21_RecordBack_j1 fr h (kret [.t 4] (fun a _ => a = .bool true)) := by
    intro fr h hfr
    have hre : restr [1] fr = [(1, .str s)] := by simp only [restr, hfr]
    simp only [J_law21_RecordBack_j1, hre, W_keep, wk,if_true,if_false,forall_const,implies_true,ne_eq,eq_self,Nat.reduceEqDiff,Nat.reduceAdd,Nat.reduceMul,Nat.reduceSub,Nat.reduceLeDiff,Nat.reduceLT,Int.reduceEq,Int.reduceLT,Int.reduceLE,Int.reduceAdd,Int.reduceSub,Int.reduceMul,Int.reduceNeg,Int.reduceNe,reduceCtorEq,Int.reduceToNat,↓reduceIte]
    rw [decRV_eq] at qd
    simp only [vR, rC] at qd
    refine PCalls.use (qd) ?_; simp only [wk,if_true,if_false,forall_const,implies_true,ne_eq,eq_self,Nat.reduceEqDiff,Nat.reduceAdd,Nat.reduceMul,Nat.reduceSub,Nat.reduceLeDiff,Nat.reduceLT,Int.reduceEq,Int.reduceLT,Int.reduceLE,Int.reduceAdd,Int.reduceSub,Int.reduceMul,Int.reduceNeg,Int.reduceNe,reduceCtorEq,Int.reduceToNat,↓reduceIte]
    cases hd : decR s with
    | none =>
      have e1 : decC s = zeroR := by unfold decC; rw [hd]; rfl
      have e2 : decN s = 2 := by unfold decN; rw [hd]; rfl
      simp only [e1, e2, zeroR, objsC, wk,if_true,if_false,forall_const,implies_true,ne_eq,eq_self,Nat.reduceEqDiff,Nat.reduceAdd,Nat.reduceMul,Nat.reduceSub,Nat.reduceLeDiff,Nat.reduceLT,Int.reduceEq,Int.reduceLT,Int.reduceLE,Int.reduceAdd,Int.reduceSub,Int.reduceMul,Int.reduceNeg,Int.reduceNe,reduceCtorEq,Int.reduceToNat,↓reduceIte]
      rfl
    | some c =>
      obtain ⟨c1, c2⟩ := dec_encR hd
      obtain ⟨c3, _⟩ := dec_small hd
      have e1 : decC s = c := by unfold decC; rw [hd]; rfl
      have e2 : decN s = 0 := by unfold decN; rw [hd]; rfl
      have q4 := p_renc c c3
      rw [encR_eq] at q4
      have e3 : encN c = 0 := by unfold encN; rw [if_pos c2]
      have e4 : encS c = s := by unfold encS; rw [if_pos c2, c1, byt_of]
      rw [e3, e4] at q4
      simp only [vR, rC] at q4
      simp only [e1, e2, wk,if_true,if_false,forall_const,implies_true,ne_eq,eq_self,Nat.reduceEqDiff,Nat.reduceAdd,Nat.reduceMul,Nat.reduceSub,Nat.reduceLeDiff,Nat.reduceLT,Int.reduceEq,Int.reduceLT,Int.reduceLE,Int.reduceAdd,Int.reduceSub,Int.reduceMul,Int.reduceNeg,Int.reduceNe,reduceCtorEq,Int.reduceToNat,↓reduceIte]
      refine PCalls.use (q4) ?_; simp only [wk,if_true,if_false,forall_const,implies_true,ne_eq,eq_self,Nat.reduceEqDiff,Nat.reduceAdd,Nat.reduceMul,Nat.reduceSub,Nat.reduceLeDiff,Nat.reduceLT,Int.reduceEq,Int.reduceLT,Int.reduceLE,Int.reduceAdd,Int.reduceSub,Int.reduceMul,Int.reduceNeg,Int.reduceNe,reduceCtorEq,Int.reduceToNat,↓reduceIte]
  rw [encR_eq] at qe
  simp only [vR, rC] at qe qm
  refine PCalls.use (qe) ?_; simp only [wk,if_true,if_false,forall_const,implies_true,ne_eq,eq_self,Nat.reduceEqDiff,Nat.reduceAdd,Nat.reduceMul,Nat.reduceSub,Nat.reduceLeDiff,Nat.reduceLT,Int.reduceEq,Int.reduceLT,Int.reduceLE,Int.reduceAdd,Int.reduceSub,Int.reduceMul,Int.reduceNeg,Int.reduceNe,reduceCtorEq,Int.reduceToNat,↓reduceIte]
  by_cases hm : mayR r = true
  · have e1 : encN r = 0 := by unfold encN; rw [if_pos hm]
    have e2 : encS r = ⟨(recB r).toArray⟩ := by unfold encS; rw [if_pos hm]
    simp only [e1, wk,if_true,if_false,forall_const,implies_true,ne_eq,eq_self,Nat.reduceEqDiff,Nat.reduceAdd,Nat.reduceMul,Nat.reduceSub,Nat.reduceLeDiff,Nat.reduceLT,Int.reduceEq,Int.reduceLT,Int.reduceLE,Int.reduceAdd,Int.reduceSub,Int.reduceMul,Int.reduceNeg,Int.reduceNe,reduceCtorEq,Int.reduceToNat,↓reduceIte]
    have q2 := p_rdec ⟨(recB r).toArray⟩ (by rw [ba_size]; have := recB_len hm; omega)
    rw [enc_decR hm] at q2
    simp only [e2, decRV, vR, rC, wk,if_true,if_false,forall_const,implies_true,ne_eq,eq_self,Nat.reduceEqDiff,Nat.reduceAdd,Nat.reduceMul,Nat.reduceSub,Nat.reduceLeDiff,Nat.reduceLT,Int.reduceEq,Int.reduceLT,Int.reduceLE,Int.reduceAdd,Int.reduceSub,Int.reduceMul,Int.reduceNeg,Int.reduceNe,reduceCtorEq,Int.reduceToNat,↓reduceIte] at q2 ⊢
    have q3 := p_rsame r r hsm hsm
    rw [sameR_self] at q3
    simp only [vR, rC] at q3
    refine PCalls.use (q2) ?_; simp only [wk,if_true,if_false,forall_const,implies_true,ne_eq,eq_self,Nat.reduceEqDiff,Nat.reduceAdd,Nat.reduceMul,Nat.reduceSub,Nat.reduceLeDiff,Nat.reduceLT,Int.reduceEq,Int.reduceLT,Int.reduceLE,Int.reduceAdd,Int.reduceSub,Int.reduceMul,Int.reduceNeg,Int.reduceNe,reduceCtorEq,Int.reduceToNat,↓reduceIte]
    refine PCalls.use (q3) ?_; simp only [wk,if_true,if_false,forall_const,implies_true,ne_eq,eq_self,Nat.reduceEqDiff,Nat.reduceAdd,Nat.reduceMul,Nat.reduceSub,Nat.reduceLeDiff,Nat.reduceLT,Int.reduceEq,Int.reduceLT,Int.reduceLE,Int.reduceAdd,Int.reduceSub,Int.reduceMul,Int.reduceNeg,Int.reduceNe,reduceCtorEq,Int.reduceToNat,↓reduceIte]
    exact hj _ _ rfl
  · have e1 : encN r = 2 := by unfold encN; rw [if_neg hm]
    have e2 : encS r = ⟨#[]⟩ := by unfold encS; rw [if_neg hm]
    simp only [e1, e2, wk,if_true,if_false,forall_const,implies_true,ne_eq,eq_self,Nat.reduceEqDiff,Nat.reduceAdd,Nat.reduceMul,Nat.reduceSub,Nat.reduceLeDiff,Nat.reduceLT,Int.reduceEq,Int.reduceLT,Int.reduceLE,Int.reduceAdd,Int.reduceSub,Int.reduceMul,Int.reduceNeg,Int.reduceNe,reduceCtorEq,Int.reduceToNat,↓reduceIte]
    rw [show mayR r = false by simpa using hm] at qm
    refine PCalls.use (qm) ?_; simp only [wk,if_true,if_false,forall_const,implies_true,ne_eq,eq_self,Nat.reduceEqDiff,Nat.reduceAdd,Nat.reduceMul,Nat.reduceSub,Nat.reduceLeDiff,Nat.reduceLT,Int.reduceEq,Int.reduceLT,Int.reduceLE,Int.reduceAdd,Int.reduceSub,Int.reduceMul,Int.reduceNeg,Int.reduceNe,reduceCtorEq,Int.reduceToNat,↓reduceIte]
    exact hj _ _ rfl
end Go.Proofs.Ytcbcnbefaggnhaa

/- The plain laws of what is done to records. No program in sight. -/
namespace Go.Proofs.Ytcbcnbefaggnhaa
set_option linter.unusedSimpArgs false
set_option linter.unusedVariables false
open Go.RowKit Go.Lib

def goodL (l : List Ent) : Prop := (∀ x ∈ l, mayEnt x = true) ∧ l.Pairwise (fun x y => sameEnt y x = false) ∧ l.length ≤ 12
theorem idxE_neg {x : Ent} : ∀ {l : List Ent}, idxE x l < 0 ↔ ∀ y ∈ l, sameEnt x y = false
  | [] => by simp [idxE]
  | y :: l => by
    have ih := idxE_neg (x := x) (l := l)
    have hlt := idxE_lt x l
    simp only [idxE, List.mem_cons, forall_eq_or_imp]
    constructor
    · intro h
      split at h
      · omega
      · next hs =>
        refine ⟨by simpa using hs, ?_⟩
        split at h
        · next hn => exact ih.1 hn
        · omega
    · rintro ⟨h1, h2⟩
      rw [h1, if_neg (by simp), if_pos (ih.2 h2)]
      decide
theorem addE_zero {l : List Ent} {x : Ent} : addE l x = 0 ↔ mayEnt x = true ∧ (∀ y ∈ l, sameEnt x y = false) ∧ l.length < 12 := by
  unfold addE
  constructor
  · intro h
    split at h
    · next m =>
      split at h
      · simp at h
      · next i =>
        split at h
        · simp at h
        · exact ⟨m, idxE_neg.1 (by omega), by omega⟩
    · simp at h
  · rintro ⟨h1, h2, h3⟩
    have := idxE_neg.2 h2
    rw [if_pos h1, if_neg (by omega), if_neg (by omega)]
theorem goodL_snoc {l : List Ent} {x : Ent} (h : goodL l) : goodL (l ++ [x]) ↔ addE l x = 0 := by
  rw [addE_zero]
  unfold goodL at h ⊢
  rw [List.pairwise_append]
  constructor
  · rintro ⟨h1, ⟨_, _, h2⟩, h3⟩
    refine ⟨h1 x (by simp), fun y hy => h2 y hy x (by simp), by simp at h3; omega⟩
  · rintro ⟨h1, h2, h3⟩
    refine ⟨fun y hy => ?_, ⟨h.2.1, by simp, fun y hy z hz => by simp at hz; subst hz; exact h2 y hy⟩, by simp; omega⟩
    rcases List.mem_append.1 hy with hy | hy
    · exact h.1 y hy
    · simp at hy; subst hy; exact h1
theorem newE_iff : ∀ {l acc : List Ent}, goodL acc → (newE acc l = 0 ↔ goodL (acc ++ l))
  | [], acc, h => by simp [newE, h]
  | x :: l, acc, h => by
    simp only [newE]
    have e : acc ++ x :: l = (acc ++ [x]) ++ l := by simp
    by_cases ha : addE acc x = 0
    · rw [if_pos ha, e]
      exact newE_iff ((goodL_snoc h).2 ha)
    · rw [if_neg ha]
      constructor
      · intro h0; exact absurd h0 ha
      · intro hg
        exfalso
        apply ha
        rw [← goodL_snoc h]
        rw [e] at hg
        exact ⟨fun y hy => hg.1 y (List.mem_append.2 (.inl hy)), hg.2.1.sublist (List.sublist_append_left _ _), by have := hg.2.2; simp at this ⊢; omega⟩
theorem goodL_nil : goodL [] := ⟨by simp, by simp, by simp⟩
theorem newE_good {l : List Ent} : newE [] l = 0 ↔ goodL l := by
  have := newE_iff (l := l) goodL_nil
  simpa using this
theorem good_without {l : List Ent} (h : goodL l) (k : Nat) : goodL (without l k) := by
  have hs : (without l k).Sublist l := by
    unfold without
    rw [← List.eraseIdx_eq_take_drop_succ]
    exact List.eraseIdx_sublist _ _
  exact ⟨fun x hx => h.1 x (hs.mem hx), h.2.1.sublist hs, Nat.le_trans hs.length_le h.2.2⟩
/-- what an object comes to, that may be -/
theorem step_may {o : Obt} {q : Rqs} (ho : mayO o = true) (hq : asksE q = true) (h : (stepO o q).1 = 0) : mayO (stepO o q).2 = true ∧ (stepO o q).2.value = o.value + q.arg := by
  simp only [mayO, Bool.and_eq_true, numOk, decide_eq_true_eq] at ho ⊢
  obtain ⟨n1, n2, n3⟩ := ho
  rw [newE_good] at n3
  unfold asksE at hq
  split at hq
  · next ha =>
    have harg := ha.2.2
    simp only [numOk, decide_eq_true_eq] at harg
    unfold stepO at h ⊢
    by_cases o1 : q.op = 1
    · rw [if_pos o1] at h ⊢
      split at h
      · simp at h
      · next hb =>
        rw [if_neg hb]
        exact ⟨⟨⟨by show 0 ≤ o.value + q.arg; omega, by show o.value + q.arg ≤ _; omega⟩, n2, newE_good.2 n3⟩, rfl⟩
    · rw [if_neg o1] at h ⊢
      have hz : q.arg = 0 := by
        split at hq
        · simp only [Bool.and_eq_true, decide_eq_true_eq] at hq; exact hq.1
        · split at hq
          · simp only [Bool.and_eq_true, decide_eq_true_eq] at hq; exact hq.1
          · cases hq
      by_cases o2 : q.op = 2
      · rw [if_pos o2] at h ⊢
        simp only [turnE] at h
        split at h
        · simp at h
        · next hv =>
          exact ⟨⟨n1, ⟨by show 0 ≤ o.version + 1; omega, by show o.version + 1 ≤ _; omega⟩, newE_good.2 ((goodL_snoc n3).2 h)⟩, by show o.value = _; omega⟩
      · rw [if_neg o2] at h ⊢
        by_cases o3 : q.op = 3
        · rw [if_pos o3] at h ⊢
          simp only [turnE] at h
          split at h
          · simp at h
          · next hv =>
            exact ⟨⟨n1, ⟨by show 0 ≤ o.version + 1; omega, by show o.version + 1 ≤ _; omega⟩, newE_good.2 (good_without n3 _)⟩, by show o.value = _; omega⟩
        · rw [if_neg o3]
          exact ⟨⟨n1, n2, newE_good.2 n3⟩, by show o.value = _; omega⟩
  · cases hq
/-- what is done where nothing is wrong -/
theorem do_ok {r : Rcd} {q : Rqs} (h : doE r q = 0) : mayR r = true ∧ asksE q = true ∧ ∃ k : Nat, ∃ hk : k < r.objs.length, q.object = k ∧ (stepO r.objs[k] q).1 = 0 ∧ doR r q = ⟨r.boot, r.objs.set k (stepO r.objs[k] q).2⟩ ∧ doV r q = (stepO r.objs[k] q).2.value := by
  unfold doE at h
  split at h
  · next hm =>
    split at h
    · next hl =>
      have hq := hm.2
      unfold asksE at hq
      split at hq
      · next ha =>
        have hk : q.object.toNat < r.objs.length := by omega
        rw [List.getElem?_eq_getElem hk] at h
        refine ⟨hm.1, hm.2, q.object.toNat, hk, by omega, h, ?_, ?_⟩
        · unfold doR; rw [List.getElem?_eq_getElem hk]
        · unfold doV; rw [List.getElem?_eq_getElem hk]
      · cases hq
    · simp at h
  · simp at h
theorem do_may {r : Rcd} {q : Rqs} (h : doE r q = 0) : mayR (doR r q) = true := by
  obtain ⟨h1, h2, k, hk, h3, h4, h5, h6⟩ := do_ok h
  rw [h5]
  simp only [mayR, Bool.and_eq_true, decide_eq_true_eq, List.all_eq_true, List.length_set] at h1 ⊢
  refine ⟨h1.1, h1.2.1, fun o ho => ?_⟩
  rcases List.mem_or_eq_of_mem_set ho with ho | rfl
  · exact h1.2.2 o ho
  · exact (step_may (h1.2.2 _ (List.getElem_mem hk)) h2 h4).1
theorem may_smallO {o : Obt} (h : mayO o = true) : smallO o := by
  simp only [mayO, Bool.and_eq_true, decide_eq_true_eq] at h
  have hg := newE_good.1 h.2.2
  refine ⟨by have := hg.2.2; omega, fun x hx => ?_⟩
  obtain ⟨_, _, h3⟩ := mayEnt_ok (hg.1 x hx)
  obtain ⟨a, b⟩ := setMay_small h3
  exact ⟨by omega, fun w hw => by have := b w hw; omega⟩
theorem may_small {r : Rcd} (h : mayR r = true) : smallR r := by
  simp only [mayR, Bool.and_eq_true, decide_eq_true_eq, List.all_eq_true] at h
  exact ⟨by omega, fun o ho => may_smallO (h.2.2 o ho)⟩
end Go.Proofs.Ytcbcnbefaggnhaa

/- RecordLeaves, over the abstract code. -/
namespace Go.Proofs.Ytcbcnbefaggnhaa
set_option linter.unusedSimpArgs false
set_option linter.unusedVariables false
open Go.RowKit Go.Lib

theorem h2_len (ex : Hp) (v w : Option (Bool × List AV)) : (ex ++ [v, w]).length = ex.length + 2 := by simp
theorem h2_g1 (ex : Hp) (v w : Option (Bool × List AV)) : (ex ++ [v, w])[ex.length]? = some v := by simp
theorem h2_g2 (ex : Hp) (v w : Option (Bool × List AV)) : (ex ++ [v, w])[ex.length + 1]? = some w := by simp
theorem h2_s1 (ex : Hp) (v w u : Option (Bool × List AV)) : (ex ++ [v, w]).set ex.length u = ex ++ [u, w] := by simp
theorem h2_s2 (ex : Hp) (v w u : Option (Bool × List AV)) : (ex ++ [v, w]).set (ex.length + 1) u = ex ++ [v, u] := by simp
theorem h2_a (n : Nat) : (1 < n + 2 + 1 + 1 + 1) = True := by simp
theorem h2_b (n : Nat) : (0 < n + 2 + 1 + 1 + 1) = True := by simp
theorem h2_c (n : Nat) : n + 2 + 1 + 1 + 1 - 1 - 1 = n + 1 + 1 + 1 := by omega
theorem h2_d (n : Nat) : n + 2 + 1 + 1 + 1 - 1 - 0 = n + 1 + 1 + 1 + 1 := by omega
theorem h2_e (n : Nat) : (n + 1 + 1 + 1 = 0) = False := by simp
theorem h2_f (n : Nat) : (n + 1 + 1 + 1 + 1 = n + 1 + 1 + 1) = False := by simp
theorem h2_i (n : Nat) : (n + 1 + 1 + 1 = n + 1 + 1 + 1 + 1) = False := by simp
set_option maxRecDepth 100000 in
set_option maxHeartbeats 8000000 in
theorem a_rleaves (r : Rcd) (q : Rqs) (hr : fitR r) (hq : fitE q.ent) : ACalls Try.prog 6 [vR r, vQ q] [] (fun a _ => a = .bool true) := by
  refine acalls_of mixed J_law21_RecordLeaves_ok (Nat.le_of_ble_eq_true rfl) ?_; simp only [J_law21_RecordLeaves, vR, rC, vQ, qC, wk,if_true,if_false,forall_const,implies_true,ne_eq,eq_self,Nat.reduceEqDiff,Nat.reduceAdd,Nat.reduceMul,Nat.reduceSub,Nat.reduceLeDiff,Nat.reduceLT,Int.reduceEq,Int.reduceLT,Int.reduceLE,Int.reduceAdd,Int.reduceSub,Int.reduceMul,Int.reduceNeg,Int.reduceNe,reduceCtorEq,Int.reduceToNat,↓reduceIte]
  refine PCalls.use (p_awake21) ?_; simp only [wk,if_true,if_false,forall_const,implies_true,ne_eq,eq_self,Nat.reduceEqDiff,Nat.reduceAdd,Nat.reduceMul,Nat.reduceSub,Nat.reduceLeDiff,Nat.reduceLT,Int.reduceEq,Int.reduceLT,Int.reduceLE,Int.reduceAdd,Int.reduceSub,Int.reduceMul,Int.reduceNeg,Int.reduceNe,reduceCtorEq,Int.reduceToNat,↓reduceIte]
  have ql := p_large r hr.1 hr.2
  have qw := p_wide q.ent hq
  simp only [vR, rC, vE, eC] at ql qw
  refine PCalls.use (ql) ?_; simp only [wk,if_true,if_false,forall_const,implies_true,ne_eq,eq_self,Nat.reduceEqDiff,Nat.reduceAdd,Nat.reduceMul,Nat.reduceSub,Nat.reduceLeDiff,Nat.reduceLT,Int.reduceEq,Int.reduceLT,Int.reduceLE,Int.reduceAdd,Int.reduceSub,Int.reduceMul,Int.reduceNeg,Int.reduceNe,reduceCtorEq,Int.reduceToNat,↓reduceIte]
  refine fun h1 => ?_
  refine PCalls.use (qw) ?_; simp only [wk,if_true,if_false,forall_const,implies_true,ne_eq,eq_self,Nat.reduceEqDiff,Nat.reduceAdd,Nat.reduceMul,Nat.reduceSub,Nat.reduceLeDiff,Nat.reduceLT,Int.reduceEq,Int.reduceLT,Int.reduceLE,Int.reduceAdd,Int.reduceSub,Int.reduceMul,Int.reduceNeg,Int.reduceNe,reduceCtorEq,Int.reduceToNat,↓reduceIte]
  refine fun h2 => ?_
  have hsm := not_large h1
  have hse := not_wide h2
  by_cases he : doE r q = 0
  · have qd := p_do_ok r q hsm hse he
    obtain ⟨hm, ha, k, hk, hko, hk0, hdr, hdv⟩ := do_ok he
    have hm2 := do_may he
    have hs2 := may_small hm2
    have qm := p_rmay1 _ hs2
    rw [hm2] at qm
    obtain ⟨A, hA⟩ : ∃ A, A = doR r q := ⟨_, rfl⟩
    obtain ⟨n, hn⟩ : ∃ n, n = doV r q := ⟨_, rfl⟩
    rw [← hA, ← hn] at qd
    rw [← hA] at qm
    simp only [vR, rC, vQ, qC] at qd qm
    refine PCalls.use (qd) ?_; simp only [wk,if_true,if_false,forall_const,implies_true,ne_eq,eq_self,Nat.reduceEqDiff,Nat.reduceAdd,Nat.reduceMul,Nat.reduceSub,Nat.reduceLeDiff,Nat.reduceLT,Int.reduceEq,Int.reduceLT,Int.reduceLE,Int.reduceAdd,Int.reduceSub,Int.reduceMul,Int.reduceNeg,Int.reduceNe,reduceCtorEq,Int.reduceToNat,↓reduceIte]
    have hAb : A.boot = r.boot := by rw [hA, doR_boot]
    have hAl : A.objs.length = r.objs.length := by rw [hA, doR_len]
    refine ⟨fun _ => ⟨fun _ => ?_, fun h => absurd (by rw [hAl]) h⟩, fun h => absurd hAb h⟩
    refine PCalls.use (qm) ?_; simp only [wk,if_true,if_false,forall_const,implies_true,ne_eq,eq_self,Nat.reduceEqDiff,Nat.reduceAdd,Nat.reduceMul,Nat.reduceSub,Nat.reduceLeDiff,Nat.reduceLT,Int.reduceEq,Int.reduceLT,Int.reduceLE,Int.reduceAdd,Int.reduceSub,Int.reduceMul,Int.reduceNeg,Int.reduceNe,reduceCtorEq,Int.reduceToNat,↓reduceIte]
    have hlen := hsm.1
    have hAo : A.objs = r.objs.set k (stepO r.objs[k] q).2 := by rw [hA, hdr]
    refine W_loop (fun m fr h' => ∃ (i : Nat) (ex : Hp), i ≤ A.objs.length ∧ m = A.objs.length - i ∧ h' = some (false, [.int .i64 r.boot, .lst .ro r.objs.length (objsC r.objs)]) :: some (false, [.int .i64 q.object, .int .i64 q.op, .int .i64 q.arg, .int .i64 q.ent.op, .lst .ro q.ent.who.length (q.ent.who.map .str)]) :: some (true, [.int .i64 A.boot, .lst .ro A.objs.length (objsC A.objs)]) :: ex ∧ fr = [(2, .ptr 0 0), (3, .ptr 1 0), (5, .ptr 2 0), (6, .int .i64 n), (64, .int .i64 A.objs.length), (65, .int .i64 i)]) A.objs.length ⟨0, [], by omega, by omega, rfl, rfl⟩ ?_
    rintro m fr h' ⟨i, ex, hi, rfl, rfl, rfl⟩
    simp only [J_law21_RecordLeaves_j3, wk,if_true,if_false,forall_const,implies_true,ne_eq,eq_self,Nat.reduceEqDiff,Nat.reduceAdd,Nat.reduceMul,Nat.reduceSub,Nat.reduceLeDiff,Nat.reduceLT,Int.reduceEq,Int.reduceLT,Int.reduceLE,Int.reduceAdd,Int.reduceSub,Int.reduceMul,Int.reduceNeg,Int.reduceNe,reduceCtorEq,Int.reduceToNat,↓reduceIte]
    refine ⟨fun hlt => ?_, fun hge => ?_⟩
    · have hil : i < A.objs.length := by omega
      have hil2 : i < r.objs.length := by omega
      have hd : (objsC A.objs).drop ((i : Int).toNat * 3) = .int .i64 A.objs[i].value :: .lst .ro A.objs[i].ents.length (entsC A.objs[i].ents) :: .int .i64 A.objs[i].version :: (objsC A.objs).drop ((i + 1) * 3) := by rw [show (i : Int).toNat = i by omega]; exact objsC_drop hil
      have hd2 : (objsC r.objs).drop ((i : Int).toNat * 3) = .int .i64 r.objs[i].value :: .lst .ro r.objs[i].ents.length (entsC r.objs[i].ents) :: .int .i64 r.objs[i].version :: (objsC r.objs).drop ((i + 1) * 3) := by rw [show (i : Int).toNat = i by omega]; exact objsC_drop hil2
      have hin : ((0 ≤ (i : Int)) ∧ (i : Int) < (A.objs.length : Int)) = True := by simp; omega
      have hin2 : ((0 ≤ (i : Int)) ∧ (i : Int) < (r.objs.length : Int)) = True := by simp; omega
      simp only [hin, hin2, hd, hd2, true_and, h2_len, h2_g1, h2_g2, h2_s1, h2_s2, h2_a, h2_b, h2_c, h2_d, h2_e, h2_f, h2_i, wk,if_true,if_false,forall_const,implies_true,ne_eq,eq_self,Nat.reduceEqDiff,Nat.reduceAdd,Nat.reduceMul,Nat.reduceSub,Nat.reduceLeDiff,Nat.reduceLT,Int.reduceEq,Int.reduceLT,Int.reduceLE,Int.reduceAdd,Int.reduceSub,Int.reduceMul,Int.reduceNeg,Int.reduceNe,reduceCtorEq,Int.reduceToNat,↓reduceIte]
      have hAi := List.getElem_of_eq hAo hil
      have qs : ∀ o : Obt, smallO o → PCalls Try.prog 30 [.agg [.int .i64 0, .lst .ro 1 [.int .i64 o.value, .lst .ro o.ents.length (entsC o.ents), .int .i64 o.version]], .agg [.int .i64 0, .lst .ro 1 [.int .i64 o.value, .lst .ro o.ents.length (entsC o.ents), .int .i64 o.version]]] (.bool true) := fun o ho => by
        have h := p_rsame ⟨0, [o]⟩ ⟨0, [o]⟩ ⟨(by show 1 ≤ 1000; decide), fun x hx => by simp at hx; subst hx; exact ho⟩ ⟨(by show 1 ≤ 1000; decide), fun x hx => by simp at hx; subst hx; exact ho⟩
        rw [sameR_self] at h
        exact h
      refine ⟨fun hne => ?_, fun heq => ?_⟩
      · have hik : k ≠ i := fun e => hne (by rw [hko, e])
        rw [List.getElem_set_ne hik] at hAi
        rw [hAi]
        refine PCalls.use (qs r.objs[i] (hsm.2 _ (List.getElem_mem hil2))) ?_; simp only [wk,if_true,if_false,forall_const,implies_true,ne_eq,eq_self,Nat.reduceEqDiff,Nat.reduceAdd,Nat.reduceMul,Nat.reduceSub,Nat.reduceLeDiff,Nat.reduceLT,Int.reduceEq,Int.reduceLT,Int.reduceLE,Int.reduceAdd,Int.reduceSub,Int.reduceMul,Int.reduceNeg,Int.reduceNe,reduceCtorEq,Int.reduceToNat,↓reduceIte]
        simp only [J_law21_RecordLeaves_j2, wk,if_true,if_false,forall_const,implies_true,ne_eq,eq_self,Nat.reduceEqDiff,Nat.reduceAdd,Nat.reduceMul,Nat.reduceSub,Nat.reduceLeDiff,Nat.reduceLT,Int.reduceEq,Int.reduceLT,Int.reduceLE,Int.reduceAdd,Int.reduceSub,Int.reduceMul,Int.reduceNeg,Int.reduceNe,reduceCtorEq,Int.reduceToNat,↓reduceIte]
        refine ⟨inR_of (by omega) (by omega), A.objs.length - (i + 1), by omega, i + 1, _, by omega, rfl, rfl, by simp⟩
      · obtain rfl : k = i := by omega
        rw [List.getElem_set_self] at hAi
        have hmo : mayO r.objs[k] = true := by
          simp only [mayR, Bool.and_eq_true, List.all_eq_true] at hm
          exact hm.2.2 _ (List.getElem_mem hk)
        obtain ⟨hso, hval⟩ := step_may hmo ha hk0
        rw [hdv] at hn
        obtain ⟨O, hO⟩ : ∃ O, O = (stepO r.objs[k] q).2 := ⟨_, rfl⟩
        rw [← hO] at hAi hso hval hn
        rw [hAi]
        have hv1 : O.value = n := hn.symm
        simp only [hv1, wk,if_true,if_false,forall_const,implies_true,ne_eq,eq_self,Nat.reduceEqDiff,Nat.reduceAdd,Nat.reduceMul,Nat.reduceSub,Nat.reduceLeDiff,Nat.reduceLT,Int.reduceEq,Int.reduceLT,Int.reduceLE,Int.reduceAdd,Int.reduceSub,Int.reduceMul,Int.reduceNeg,Int.reduceNe,reduceCtorEq,Int.reduceToNat,↓reduceIte]
        have hso' := may_smallO hso
        have hsr := hsm.2 _ (List.getElem_mem hk)
        have hl1 := hso'.1
        have hl2 := hsr.1
        have hmo' := hmo
        have hso2 := hso
        simp only [mayO, Bool.and_eq_true, numOk, decide_eq_true_eq] at hmo' hso2
        have op2 : q.op = 2 → O.ents = r.objs[k].ents ++ [q.ent] ∧ O.version = r.objs[k].version + 1 := fun e => by
          rw [hO]; unfold stepO; rw [if_neg (by omega), if_pos e]; exact ⟨rfl, rfl⟩
        have op3 : q.op = 3 → (O.ents.length : Int) = r.objs[k].ents.length - 1 ∧ O.version = r.objs[k].version + 1 := fun e => by
          rw [hO]; unfold stepO at hk0 ⊢; rw [if_neg (by omega), if_neg (by omega), if_pos e] at hk0 ⊢
          refine ⟨?_, rfl⟩
          simp only [turnE] at hk0
          split at hk0
          · simp at hk0
          · have hlt := idxE_lt q.ent r.objs[k].ents
            unfold remE at hk0
            split at hk0
            · split at hk0
              · simp at hk0
              · simp only [without, List.length_append, List.length_take, List.length_drop]
                omega
            · simp at hk0
        have op4 : ¬ q.op = 2 → ¬ q.op = 3 → O.ents.length = r.objs[k].ents.length ∧ O.version = r.objs[k].version := fun e e' => by
          rw [hO]; unfold stepO at hk0 ⊢
          by_cases o1 : q.op = 1
          · rw [if_pos o1] at hk0 ⊢
            split at hk0
            · simp at hk0
            · next hb => rw [if_neg hb]; exact ⟨rfl, rfl⟩
          · rw [if_neg o1, if_neg e, if_neg e']; exact ⟨rfl, rfl⟩
        have hnv : n = r.objs[k].value + q.arg := by rw [← hval, hv1]
        refine ⟨inR_of (by omega) (by omega), fun h => absurd hnv h, fun _ => ⟨inR_of (by omega) (by omega), fun o2 => ?_, fun o2 => ⟨fun o3 => ?_, fun o3 => ?_⟩⟩⟩
        · obtain ⟨g1, g2⟩ := op2 o2
          have g3 : O.ents.length = r.objs[k].ents.length + 1 := by rw [g1]; simp
          have hdrop : (entsC O.ents).drop ((r.objs[k].ents.length : Int).toNat * 2) = [.int .i64 q.ent.op, .lst .ro q.ent.who.length (q.ent.who.map .str)] := by
            rw [g1, entsC_sn, Int.toNat_natCast, ← entsC_len, List.drop_left]
          have qe := p_resame q.ent q.ent (by have := hse.1; omega)
          rw [sameEnt_self] at qe
          simp only [vE, eC] at qe
          refine ⟨fun _ => ⟨inR_of (by omega) (by omega), fun _ => ⟨⟨by omega, by omega⟩, ?_⟩, fun h => absurd g2 h⟩, fun h => absurd (by omega) h⟩
          simp only [hdrop, wk,if_true,if_false,forall_const,implies_true,ne_eq,eq_self,Nat.reduceEqDiff,Nat.reduceAdd,Nat.reduceMul,Nat.reduceSub,Nat.reduceLeDiff,Nat.reduceLT,Int.reduceEq,Int.reduceLT,Int.reduceLE,Int.reduceAdd,Int.reduceSub,Int.reduceMul,Int.reduceNeg,Int.reduceNe,reduceCtorEq,Int.reduceToNat,↓reduceIte]
          refine ⟨_, qe, ?_⟩; simp only [wk,if_true,if_false,forall_const,implies_true,ne_eq,eq_self,Nat.reduceEqDiff,Nat.reduceAdd,Nat.reduceMul,Nat.reduceSub,Nat.reduceLeDiff,Nat.reduceLT,Int.reduceEq,Int.reduceLT,Int.reduceLE,Int.reduceAdd,Int.reduceSub,Int.reduceMul,Int.reduceNeg,Int.reduceNe,reduceCtorEq,Int.reduceToNat,↓reduceIte]
          simp only [J_law21_RecordLeaves_j2, wk,if_true,if_false,forall_const,implies_true,ne_eq,eq_self,Nat.reduceEqDiff,Nat.reduceAdd,Nat.reduceMul,Nat.reduceSub,Nat.reduceLeDiff,Nat.reduceLT,Int.reduceEq,Int.reduceLT,Int.reduceLE,Int.reduceAdd,Int.reduceSub,Int.reduceMul,Int.reduceNeg,Int.reduceNe,reduceCtorEq,Int.reduceToNat,↓reduceIte]
          refine ⟨inR_of (by omega) (by omega), A.objs.length - (k + 1), by omega, k + 1, _, by omega, rfl, rfl, by simp⟩
        · obtain ⟨g1, g2⟩ := op3 o3
          refine ⟨fun _ => ⟨inR_of (by omega) (by omega), fun h => absurd g2 h, fun _ => ?_⟩, fun h => absurd (by omega) h⟩
          simp only [J_law21_RecordLeaves_j2, wk,if_true,if_false,forall_const,implies_true,ne_eq,eq_self,Nat.reduceEqDiff,Nat.reduceAdd,Nat.reduceMul,Nat.reduceSub,Nat.reduceLeDiff,Nat.reduceLT,Int.reduceEq,Int.reduceLT,Int.reduceLE,Int.reduceAdd,Int.reduceSub,Int.reduceMul,Int.reduceNeg,Int.reduceNe,reduceCtorEq,Int.reduceToNat,↓reduceIte]
          refine ⟨inR_of (by omega) (by omega), A.objs.length - (k + 1), by omega, k + 1, _, by omega, rfl, rfl, by simp⟩
        · obtain ⟨g1, g2⟩ := op4 o2 o3
          refine ⟨fun _ => ⟨fun h => absurd g2 h, fun _ => ?_⟩, fun h => absurd (by omega) h⟩
          simp only [J_law21_RecordLeaves_j2, wk,if_true,if_false,forall_const,implies_true,ne_eq,eq_self,Nat.reduceEqDiff,Nat.reduceAdd,Nat.reduceMul,Nat.reduceSub,Nat.reduceLeDiff,Nat.reduceLT,Int.reduceEq,Int.reduceLT,Int.reduceLE,Int.reduceAdd,Int.reduceSub,Int.reduceMul,Int.reduceNeg,Int.reduceNe,reduceCtorEq,Int.reduceToNat,↓reduceIte]
          refine ⟨inR_of (by omega) (by omega), A.objs.length - (k + 1), by omega, k + 1, _, by omega, rfl, rfl, by simp⟩
    · simp only [J_law21_RecordLeaves_j1, wk,if_true,if_false,forall_const,implies_true,ne_eq,eq_self,Nat.reduceEqDiff,Nat.reduceAdd,Nat.reduceMul,Nat.reduceSub,Nat.reduceLeDiff,Nat.reduceLT,Int.reduceEq,Int.reduceLT,Int.reduceLE,Int.reduceAdd,Int.reduceSub,Int.reduceMul,Int.reduceNeg,Int.reduceNe,reduceCtorEq,Int.reduceToNat,↓reduceIte]
  · have qd := p_do_no r q hsm hse he
    simp only [vR, rC, vQ, qC, zeroR, objsC] at qd
    refine PCalls.use (qd) ?_; simp only [wk,if_true,if_false,forall_const,implies_true,ne_eq,eq_self,Nat.reduceEqDiff,Nat.reduceAdd,Nat.reduceMul,Nat.reduceSub,Nat.reduceLeDiff,Nat.reduceLT,Int.reduceEq,Int.reduceLT,Int.reduceLE,Int.reduceAdd,Int.reduceSub,Int.reduceMul,Int.reduceNeg,Int.reduceNe,reduceCtorEq,Int.reduceToNat,↓reduceIte]
    refine ⟨fun _ h => absurd rfl h, fun h => absurd h he⟩
end Go.Proofs.Ytcbcnbefaggnhaa

/- A call that leaves all objects alone may be handed objects: for the call they stay as they are. What it tells is then known but for its lists. -/
namespace Go.Proofs.Ytcbcnbefaggnhaa
set_option linter.unusedSimpArgs false
set_option linter.unusedVariables false
open Go.RowKit Go.Lib

mutual
/-- without what lists and places hold -/
def fgt : AV → AV
  | .lst _ _ _ => .opq
  | .fp _ => .opq
  | .fn _ _ => .opq
  | .ptr _ _ => .opq
  | .hs _ _ => .opq
  | .itr _ _ => .opq
  | .agg l => .agg (fgts l)
  | .tup l => .tup (fgts l)
  | a => a
def fgts : List AV → List AV
  | [] => []
  | a :: l => fgt a :: fgts l
end
theorem plain_fgt (a : AV) : plain (fgt a) = true := by
  cases a <;> simp [fgt, plain]
theorem plains_fgt : ∀ l : List AV, plains (fgts l)
  | [] => by intro a ha; simp [fgts] at ha
  | a :: l => by
    intro b hb
    simp only [fgts, List.mem_cons] at hb
    rcases hb with rfl | hb
    · exact plain_fgt a
    · exact plains_fgt l b hb
mutual
theorem Rep.fgt {g g' : Gh} : ∀ {v : Value} {a : AV}, Rep g v a → Rep g' v (fgt a)
  | _, _, .bool b => by simp only [Go.Proofs.Ytcbcnbefaggnhaa.fgt]; exact .bool b
  | _, _, .int k n => by simp only [Go.Proofs.Ytcbcnbefaggnhaa.fgt]; exact .int k n
  | _, _, .str s => by simp only [Go.Proofs.Ytcbcnbefaggnhaa.fgt]; exact .str s
  | _, _, .nilp => by simp only [Go.Proofs.Ytcbcnbefaggnhaa.fgt]; exact .nilp
  | _, _, .ptr id off b h => by simp only [Go.Proofs.Ytcbcnbefaggnhaa.fgt]; exact .opq _ rfl (fun h => by cases h)
  | _, _, .fp b off vs l h hp hl => by simp only [Go.Proofs.Ytcbcnbefaggnhaa.fgt]; exact .opq _ rfl (fun h => by cases h)
  | _, _, .lst b off n c f vs l h hp h1 h2 hl => by simp only [Go.Proofs.Ytcbcnbefaggnhaa.fgt]; exact .opq _ rfl (fun h => by cases h)
  | _, _, .lst0 a c f h => by simp only [Go.Proofs.Ytcbcnbefaggnhaa.fgt]; exact .opq _ rfl (fun h => by cases h)
  | _, _, .hs id b n c h h1 => by simp only [Go.Proofs.Ytcbcnbefaggnhaa.fgt]; exact .opq _ rfl (fun h => by cases h)
  | _, _, .agg vs l h hp hl => by simp only [Go.Proofs.Ytcbcnbefaggnhaa.fgt]; exact .agg vs _ h (plains_fgt l) (RepL.fgt hl)
  | _, _, .tup vs l hp hl => by simp only [Go.Proofs.Ytcbcnbefaggnhaa.fgt]; exact .tup vs _ (plains_fgt l) (RepL.fgt hl)
  | _, _, .fn f vs l hp hl => by simp only [Go.Proofs.Ytcbcnbefaggnhaa.fgt]; exact .opq _ rfl (fun h => by cases h)
  | _, _, .nilf => by simp only [Go.Proofs.Ytcbcnbefaggnhaa.fgt]; exact .nilf
  | _, _, .opq v h h' => by simp only [Go.Proofs.Ytcbcnbefaggnhaa.fgt]; exact .opq v h h'
  | _, _, .itr b s p => by simp only [Go.Proofs.Ytcbcnbefaggnhaa.fgt]; exact .opq _ rfl (fun h => by cases h)
theorem RepL.fgt {g g' : Gh} : ∀ {vs : List Value} {l : List AV}, RepL g vs l → RepL g' vs (fgts l)
  | _, _, .nil => by simp only [fgts]; exact .nil
  | _, _, .cons h hr => by simp only [fgts]; exact .cons (Rep.fgt h) (RepL.fgt hr)
end
/-- all objects are another's, and stay as they are -/
noncomputable def Gh.still (g : Gh) (h : Hp) (w : World) : Gh := { g.bare with C := (g.ice h w).C }
open Classical in
/-- what is known behind such a call -/
noncomputable def Gh.melt (g g1 : Gh) : Gh := { g with C := fun b o => if (∃ i, g.io i = some b) ∨ (∃ x, g.own b = some x) then g.C b o else g1.C b o }
section
variable {P : Program} {g : Gh} {h : Hp} {w : World}
theorem Sim.still (hs : Sim P g h w) : Sim P (g.still h w) [] w := by
  have hb := hs.bare
  refine ⟨fun b o u hu => ?_, (fun id s l hl => by simp at hl), hb.inj, hb.dom, hb.flt, hb.olt, hb.hole⟩
  simp only [Gh.still, Gh.ice] at hu
  split at hu
  · next u' hu' => simp only [Option.some.injEq] at hu; subst hu; exact hs.prot b o _ hu'
  · split at hu
    · simp only [Option.filter_eq_some_iff] at hu; exact hu
    · cases hu
theorem Sim.melt {g1 : Gh} {w1 : World} {h1 : Hp} (hs : Sim P g h w) (hev : Ev (g.still h w) w g1 w1) (hs1 : Sim P g1 h1 w1) : Sim P (g.melt g1) h w1 ∧ Ev g w (g.melt g1) w1 := by
  have hC : ∀ b o v, g.C b o = some v → g1.C b o = some v := fun b o v hc => hev.le.C b o v (ice_le hc)
  have hle : GLe g (g.melt g1) := ⟨fun b o v hc => by
    simp only [Gh.melt]
    split
    · exact hc
    · exact hC b o v hc, fun _ _ h => h⟩
  have hin : ∀ b, ((∃ i, g.io i = some b) ∨ (∃ x, g.own b = some x)) → ∀ o, (g.melt g1).C b o = g.C b o := fun b hb o => by
    simp only [Gh.melt]; rw [if_pos hb]
  refine ⟨⟨fun b o v hc => ?_, ?_, hs.inj, fun i b hi => ⟨(hs.dom i b hi).1, Nat.lt_of_lt_of_le (hs.dom i b hi).2 hev.size⟩, fun b hb => Nat.lt_of_lt_of_le (hs.flt b hb) hev.size, fun b x hx => Nat.lt_of_lt_of_le (hs.olt b x hx) hev.size, hs.hole⟩, ⟨hle, fun _ => .rfl, fun b hb => ?_, hev.os, hev.tape, hev.output, hev.size⟩⟩
  · simp only [Gh.melt] at hc
    split at hc
    · exact hs1.prot b o v (hC b o v hc)
    · exact hs1.prot b o v hc
  · intro id s l hl
    refine (hs.obj id s l hl).keep hle (fun b hb h8 h9 => ?_) (fun b i o1 o3 o4 => ?_)
    · obtain ⟨q1, _, _⟩ := hev.Fb b (.inr (.inl ⟨id, hb⟩))
      exact ⟨q1, hin b (.inl ⟨id, hb⟩), h8, h9⟩
    · obtain ⟨q1, _, _⟩ := hev.Fb b (.inr (.inr ⟨_, o1⟩))
      exact ⟨q1, o1, hin b (.inr ⟨_, o1⟩), o3, o4⟩
  · obtain ⟨q1, q2, _⟩ := hev.Fb b (.inl hb)
    refine ⟨q1, fun o => ?_, rfl, fun _ h => h⟩
    simp only [Gh.melt]
    split
    · rfl
    · next hn =>
      rw [q2 o]
      simp only [Gh.still, Gh.ice]
      cases hg : g.C b o with
      | some v => rfl
      | none =>
        simp only
        rw [if_neg]
        rintro ⟨id, s, l, k1, _⟩
        exact hn (.inl ⟨id, k1⟩)
/-- A call that leaves all objects alone, handed objects. -/
theorem PCalls.iced {f : FuncId} {args args' : List AV} {v : AV} (hp : PCalls P f args v) (h : Hp) (ha : fzs h args' = args) : ACalls P f args' h (fun a h' => a = fgt v ∧ h = h') := by
  obtain ⟨hfa, hfv, hent, hc⟩ := hp
  refine ⟨hent, fun g w vargs hs hns hr hpl => ?_⟩
  have hr1 := RepL.ice hs hr (by rw [ha]; exact hfa)
  rw [ha] at hr1
  have hpa : plains args := by rw [← ha]; exact plains_fz hpl
  refine (hc (g.still h w) w vargs hs.still (fun b k h => by cases h) (RepL.free (g := g.ice h w) (g' := g.still h w) (fun _ _ _ h => h) hr1 hfa) hpa).mono ?_
  rintro e w1 ⟨x, a, h1, g1, rfl, r1, r2, r3, r4, r5, rfl, rfl⟩
  obtain ⟨s1, s2⟩ := hs.melt r1 r2
  exact ⟨x, _, h, g.melt g1, rfl, s2, s1, hns, Rep.fgt r4, plain_fgt _, rfl, rfl⟩
end
theorem fgt_int (k : IntKind) (n : Int) : fgt (.int k n) = .int k n := by simp only [fgt]
theorem fgt_bool (b : Bool) : fgt (.bool b) = .bool b := by simp only [fgt]
theorem fgt_str (s : ByteArray) : fgt (.str s) = .str s := by simp only [fgt]
theorem fgt_tup (l : List AV) : fgt (.tup l) = .tup (fgts l) := by simp only [fgt]
theorem fgt_agg (l : List AV) : fgt (.agg l) = .agg (fgts l) := by simp only [fgt]
theorem fgt_lst (f : Fl) (n : Nat) (l : List AV) : fgt (.lst f n l) = .opq := by simp only [fgt]
theorem fgts_nil : fgts [] = [] := by simp only [fgts]
theorem fgts_cons (a : AV) (l : List AV) : fgts (a :: l) = fgt a :: fgts l := by simp only [fgts]
end Go.Proofs.Ytcbcnbefaggnhaa

/- RecordTurns: the plain law; the walk. -/
namespace Go.Proofs.Ytcbcnbefaggnhaa
set_option linter.unusedSimpArgs false
set_option linter.unusedVariables false
open Go.RowKit Go.Lib

theorem idxE_last {x : Ent} : ∀ {l : List Ent}, idxE x l < 0 → idxE x (l ++ [x]) = l.length
  | [], _ => by simp [idxE, sameEnt_self]
  | y :: l, h => by
    have hn := idxE_neg.1 h
    have h1 := hn y (by simp)
    have h2 : idxE x l < 0 := idxE_neg.2 (fun z hz => hn z (by simp [hz]))
    have ih := idxE_last h2
    simp only [List.cons_append, idxE, h1, ih, Bool.false_eq_true, if_false, List.length_cons]
    rw [if_neg (by omega)]
    omega
theorem without_last (l : List Ent) (x : Ent) : without (l ++ [x]) l.length = l := by simp [without]
theorem step_grant {o : Obt} {q : Rqs} (h2 : q.op = 2) (h : (stepO o q).1 = 0) : (stepO o q).2 = ⟨o.value, o.ents ++ [q.ent], o.version + 1⟩ ∧ o.version < 4611686018427387904 ∧ addE o.ents q.ent = 0 := by
  unfold stepO at h ⊢
  rw [if_neg (by omega), if_pos h2] at h ⊢
  simp only [turnE] at h
  split at h
  · simp at h
  · exact ⟨rfl, by omega, h⟩
/-- a request of this kind is one that may be, if the other is -/
theorem asks_turn {q : Rqs} (h2 : q.op = 2) (h : asksE q = true) : asksE ⟨q.object, 3, q.arg, q.ent⟩ = true := by
  unfold asksE at h ⊢
  rw [h2] at h
  simpa using h
/-- what a request does to a record that may be -/
theorem do_at {r : Rcd} {q : Rqs} {k : Nat} (hm : mayR r = true) (ha : asksE q = true) (hk : k < r.objs.length) (hq : q.object = k) : doE r q = (stepO r.objs[k] q).1 ∧ doR r q = ⟨r.boot, r.objs.set k (stepO r.objs[k] q).2⟩ ∧ doV r q = (stepO r.objs[k] q).2.value := by
  have e : r.objs[q.object.toNat]? = some r.objs[k] := by rw [hq, Int.toNat_natCast]; exact List.getElem?_eq_getElem hk
  unfold doE doR doV
  rw [if_pos ⟨hm, ha⟩, if_pos (by omega), e]
  refine ⟨rfl, ?_, rfl⟩
  simp only [hq, Int.toNat_natCast]
set_option maxRecDepth 100000 in
set_option maxHeartbeats 8000000 in
theorem a_rturns (r : Rcd) (ob : Int) (x : Ent) (hr : fitR r) (hx : fitE x) : ACalls Try.prog 7 [vR r, .int .i64 ob, vE x] [] (fun a _ => a = .bool true) := by
  refine acalls_of mixed J_law21_RecordTurns_ok (Nat.le_of_ble_eq_true rfl) ?_; simp only [J_law21_RecordTurns, vR, rC, vE, eC, wk,if_true,if_false,forall_const,implies_true,ne_eq,eq_self,Nat.reduceEqDiff,Nat.reduceAdd,Nat.reduceMul,Nat.reduceSub,Nat.reduceLeDiff,Nat.reduceLT,Int.reduceEq,Int.reduceLT,Int.reduceLE,Int.reduceAdd,Int.reduceSub,Int.reduceMul,Int.reduceNeg,Int.reduceNe,reduceCtorEq,Int.reduceToNat,↓reduceIte]
  refine PCalls.use (p_awake21) ?_; simp only [wk,if_true,if_false,forall_const,implies_true,ne_eq,eq_self,Nat.reduceEqDiff,Nat.reduceAdd,Nat.reduceMul,Nat.reduceSub,Nat.reduceLeDiff,Nat.reduceLT,Int.reduceEq,Int.reduceLT,Int.reduceLE,Int.reduceAdd,Int.reduceSub,Int.reduceMul,Int.reduceNeg,Int.reduceNe,reduceCtorEq,Int.reduceToNat,↓reduceIte]
  have ql := p_large r hr.1 hr.2
  have qw := p_wide x hx
  simp only [vR, rC, vE, eC] at ql qw
  refine PCalls.use (ql) ?_; simp only [wk,if_true,if_false,forall_const,implies_true,ne_eq,eq_self,Nat.reduceEqDiff,Nat.reduceAdd,Nat.reduceMul,Nat.reduceSub,Nat.reduceLeDiff,Nat.reduceLT,Int.reduceEq,Int.reduceLT,Int.reduceLE,Int.reduceAdd,Int.reduceSub,Int.reduceMul,Int.reduceNeg,Int.reduceNe,reduceCtorEq,Int.reduceToNat,↓reduceIte]
  refine fun h1 => ?_
  refine PCalls.use (qw) ?_; simp only [wk,if_true,if_false,forall_const,implies_true,ne_eq,eq_self,Nat.reduceEqDiff,Nat.reduceAdd,Nat.reduceMul,Nat.reduceSub,Nat.reduceLeDiff,Nat.reduceLT,Int.reduceEq,Int.reduceLT,Int.reduceLE,Int.reduceAdd,Int.reduceSub,Int.reduceMul,Int.reduceNeg,Int.reduceNe,reduceCtorEq,Int.reduceToNat,↓reduceIte]
  refine fun h2 => ?_
  have hsm := not_large h1
  have hse := not_wide h2
  obtain ⟨q, hq⟩ : ∃ q : Rqs, q = ⟨ob, 2, 0, x⟩ := ⟨_, rfl⟩
  have q1 : ob = q.object := by rw [hq]
  have q2 : q.op = 2 := by rw [hq]
  have q3 : q.arg = 0 := by rw [hq]
  have q4 : x = q.ent := by rw [hq]
  by_cases he : doE r q = 0
  · have qd := p_do_ok r q hsm (by rw [← q4]; exact hse) he
    obtain ⟨hm, ha, k, hk, hko, hk0, hdr, hdv⟩ := do_ok he
    obtain ⟨g1, g2, g3⟩ := step_grant q2 hk0
    have hm2 := do_may he
    have hs2 := may_small hm2
    rw [hdr, g1] at hm2 hs2
    rw [hdr, hdv, g1] at qd
    obtain ⟨A, hA⟩ : ∃ A : Rcd, A = ⟨r.boot, r.objs.set k ⟨r.objs[k].value, r.objs[k].ents ++ [q.ent], r.objs[k].version + 1⟩⟩ := ⟨_, rfl⟩
    rw [← hA] at qd hm2 hs2
    simp only [vR, rC, vQ, qC, q2, q3, ← q1, ← q4] at qd
    refine PCalls.use (qd) ?_; simp only [wk,if_true,if_false,forall_const,implies_true,ne_eq,eq_self,Nat.reduceEqDiff,Nat.reduceAdd,Nat.reduceMul,Nat.reduceSub,Nat.reduceLeDiff,Nat.reduceLT,Int.reduceEq,Int.reduceLT,Int.reduceLE,Int.reduceAdd,Int.reduceSub,Int.reduceMul,Int.reduceNeg,Int.reduceNe,reduceCtorEq,Int.reduceToNat,↓reduceIte]
    have hAl : A.objs.length = r.objs.length := by rw [hA]; simp
    have hkA : k < A.objs.length := by omega
    have hAk : A.objs[k] = ⟨r.objs[k].value, r.objs[k].ents ++ [q.ent], r.objs[k].version + 1⟩ := by
      have := List.getElem_of_eq (show A.objs = r.objs.set k ⟨r.objs[k].value, r.objs[k].ents ++ [q.ent], r.objs[k].version + 1⟩ by rw [hA]) hkA
      rw [this, List.getElem_set_self]
    have hver : 0 ≤ r.objs[k].version := by
      simp only [mayR, Bool.and_eq_true, List.all_eq_true] at hm
      have := hm.2.2 _ (List.getElem_mem hk)
      simp only [mayO, Bool.and_eq_true, numOk, decide_eq_true_eq] at this
      exact this.2.1.1
    obtain ⟨m1, m2, m3⟩ := addE_zero.1 g3
    have hidx : idxE q.ent r.objs[k].ents < 0 := idxE_neg.2 m2
    have hlast := idxE_last hidx
    have hlk := (hsm.2 _ (List.getElem_mem hk)).1
    -- granted twice
    have e2 : doE A q = if 4611686018427387904 ≤ r.objs[k].version + 1 then 5 else 11 := by
      have eA : addE (r.objs[k].ents ++ [q.ent]) q.ent = 11 := by
        unfold addE
        rw [if_pos m1, if_pos (by rw [hlast]; omega)]
      rw [(do_at hm2 ha hkA hko).1, hAk]
      unfold stepO
      rw [if_neg (by omega), if_pos q2]
      simp only [turnE, eA]
    have e2' : doE A q = 5 ∨ doE A q = 11 := by rw [e2]; split <;> simp
    have qn := p_do_no A q hs2 (by rw [← q4]; exact hse) (by rcases e2' with h | h <;> rw [h] <;> decide)
    simp only [vR, rC, vQ, qC, zeroR, objsC, q2, q3, ← q1, ← q4] at qn
    rw [← objsC] at qn
    refine PCalls.use (qn) ?_; simp only [wk,if_true,if_false,forall_const,implies_true,ne_eq,eq_self,Nat.reduceEqDiff,Nat.reduceAdd,Nat.reduceMul,Nat.reduceSub,Nat.reduceLeDiff,Nat.reduceLT,Int.reduceEq,Int.reduceLT,Int.reduceLE,Int.reduceAdd,Int.reduceSub,Int.reduceMul,Int.reduceNeg,Int.reduceNe,reduceCtorEq,Int.reduceToNat,↓reduceIte]
    refine (fun hrest => (⟨fun n11 => ⟨fun n5 => absurd e2' (by rintro (h | h); exact n5 h; exact n11 h), fun _ => hrest⟩, fun _ => hrest⟩)) ?_
    -- revoked
    obtain ⟨p, hp⟩ : ∃ p : Rqs, p = ⟨ob, 3, 0, x⟩ := ⟨_, rfl⟩
    have p1 : ob = p.object := by rw [hp]
    have p2 : p.op = 3 := by rw [hp]
    have p3 : p.arg = 0 := by rw [hp]
    have p4 : x = p.ent := by rw [hp]
    have p5 : p.ent = q.ent := by rw [← p4, q4]
    have pa : asksE p = true := by
      have := asks_turn q2 ha
      rw [← q1, q3, ← q4] at this
      rw [hp]; exact this
    have pko : p.object = k := by rw [← p1, q1, hko]
    have sA : stepO A.objs[k] p = (if 4611686018427387904 ≤ r.objs[k].version + 1 then 5 else 0, ⟨r.objs[k].value, r.objs[k].ents, r.objs[k].version + 2⟩) := by
      have eR : remE (r.objs[k].ents ++ [q.ent]) q.ent = 0 := by
        unfold remE
        rw [if_pos m1, if_neg (by rw [hlast]; omega)]
      rw [hAk]
      unfold stepO
      rw [if_neg (by omega), if_neg (by omega), if_pos p2, p5]
      simp only [turnE, eR, hlast, Int.toNat_natCast, without_last]
      congr 2
      omega
    obtain ⟨dA1, dA2, dA3⟩ := do_at hm2 pa hkA pko
    rw [sA] at dA1 dA2 dA3
    simp only at dA1 dA2 dA3
    by_cases hv : 4611686018427387904 ≤ r.objs[k].version + 1
    · rw [if_pos hv] at dA1
      have qr := p_do_no A p hs2 (by rw [← p4]; exact hse) (by rw [dA1]; decide)
      simp only [vR, rC, vQ, qC, zeroR, p2, p3, ← p1, ← p4, dA1] at qr
      refine PCalls.use (qr) ?_; simp only [wk,if_true,if_false,forall_const,implies_true,ne_eq,eq_self,Nat.reduceEqDiff,Nat.reduceAdd,Nat.reduceMul,Nat.reduceSub,Nat.reduceLeDiff,Nat.reduceLT,Int.reduceEq,Int.reduceLT,Int.reduceLE,Int.reduceAdd,Int.reduceSub,Int.reduceMul,Int.reduceNeg,Int.reduceNe,reduceCtorEq,Int.reduceToNat,↓reduceIte]
      have hd : (objsC A.objs).drop (ob.toNat * 3) = .int .i64 A.objs[k].value :: .lst .ro A.objs[k].ents.length (entsC A.objs[k].ents) :: .int .i64 A.objs[k].version :: (objsC A.objs).drop ((k + 1) * 3) := by rw [show ob.toNat = k by omega]; exact objsC_drop hkA
      refine ⟨⟨by omega, by omega⟩, ?_⟩
      have hvv : A.objs[k].version = 4611686018427387904 := by rw [hAk]; show r.objs[k].version + 1 = _; omega
      simp only [hd, hvv, wk,if_true,if_false,forall_const,implies_true,ne_eq,eq_self,Nat.reduceEqDiff,Nat.reduceAdd,Nat.reduceMul,Nat.reduceSub,Nat.reduceLeDiff,Nat.reduceLT,Int.reduceEq,Int.reduceLT,Int.reduceLE,Int.reduceAdd,Int.reduceSub,Int.reduceMul,Int.reduceNeg,Int.reduceNe,reduceCtorEq,Int.reduceToNat,↓reduceIte]
    · rw [if_neg hv] at dA1
      obtain ⟨B, hB⟩ : ∃ B : Rcd, B = doR A p := ⟨_, rfl⟩
      have qr := fun h => a_do_ok (h := h) A p hs2 (by rw [← p4]; exact hse) dA1
      have hm3 := do_may dA1
      have hs3 := may_small hm3
      rw [← hB] at hm3 hs3
      simp only [vR, rC, vQ, qC, p2, p3, ← p1, ← p4, ← hB, dA3] at qr
      refine ACalls.use (qr _) ?_; rintro _ _ ⟨rfl, rfl⟩; simp only [wk,if_true,if_false,forall_const,implies_true,ne_eq,eq_self,Nat.reduceEqDiff,Nat.reduceAdd,Nat.reduceMul,Nat.reduceSub,Nat.reduceLeDiff,Nat.reduceLT,Int.reduceEq,Int.reduceLT,Int.reduceLE,Int.reduceAdd,Int.reduceSub,Int.reduceMul,Int.reduceNeg,Int.reduceNe,reduceCtorEq,Int.reduceToNat,↓reduceIte]
      have hBl : B.objs.length = r.objs.length := by rw [hB, doR_len, hAl]
      have hBb : B.boot = r.boot := by rw [hB, doR_boot, hA]
      have hkB : k < B.objs.length := by omega
      have hBo : B.objs = r.objs.set k ⟨r.objs[k].value, r.objs[k].ents, r.objs[k].version + 2⟩ := by
        rw [hB, dA2, hA]; simp [List.set_set]
      have hBk : B.objs[k] = ⟨r.objs[k].value, r.objs[k].ents, r.objs[k].version + 2⟩ := by
        rw [List.getElem_of_eq hBo hkB, List.getElem_set_self]
      have e4 : doE B p = if 4611686018427387904 ≤ r.objs[k].version + 2 then 5 else 10 := by
        have eR : remE r.objs[k].ents q.ent = 10 := by
          unfold remE
          rw [if_pos m1, if_pos hidx]
        rw [(do_at hm3 pa hkB pko).1, hBk]
        unfold stepO
        rw [if_neg (by omega), if_neg (by omega), if_pos p2, p5]
        simp only [turnE, eR]
      have e4' : doE B p = 5 ∨ doE B p = 10 := by rw [e4]; split <;> simp
      have qn2 := p_do_no B p hs3 (by rw [← p4]; exact hse) (by rcases e4' with h | h <;> rw [h] <;> decide)
      simp only [vR, rC, vQ, qC, zeroR, p2, p3, ← p1, ← p4, hBl] at qn2
      have hAb : A.boot = B.boot := by rw [hBb, hA]
      rw [hAb, hAl]
      refine ACalls.use (PCalls.iced qn2 _ (by simp only [fzs_cons, fzs_nil, fz_agg, fz_int, fz_lst]; rw [fz_hs (s := false) (l := objsC B.objs) rfl, degs_objs])) ?_
      rintro _ _ ⟨rfl, rfl⟩
      simp only [fgt_tup, fgts_cons, fgts_nil, fgt_agg, fgt_int, fgt_lst, wk,if_true,if_false,forall_const,implies_true,ne_eq,eq_self,Nat.reduceEqDiff,Nat.reduceAdd,Nat.reduceMul,Nat.reduceSub,Nat.reduceLeDiff,Nat.reduceLT,Int.reduceEq,Int.reduceLT,Int.reduceLE,Int.reduceAdd,Int.reduceSub,Int.reduceMul,Int.reduceNeg,Int.reduceNe,reduceCtorEq,Int.reduceToNat,↓reduceIte]
      refine (fun hrest => (⟨fun n11 => ⟨fun n5 => absurd e4' (by rintro (h | h); exact n5 h; exact n11 h), fun _ => hrest⟩, fun _ => hrest⟩)) ?_
      have hk3 : ob.toNat = k := by omega
      have hdB : (objsC B.objs).drop (ob.toNat * 3 + 2) = .int .i64 (r.objs[k].version + 2) :: (objsC B.objs).drop ((k + 1) * 3) := by
        rw [← List.drop_drop, hk3, objsC_drop hkB, hBk]; rfl
      have hdr2 : (objsC r.objs).drop (ob.toNat * 3) = .int .i64 r.objs[k].value :: .lst .ro r.objs[k].ents.length (entsC r.objs[k].ents) :: .int .i64 r.objs[k].version :: (objsC r.objs).drop ((k + 1) * 3) := by rw [hk3]; exact objsC_drop hk
      have hin : (0 ≤ ob ∧ ob < (r.objs.length : Int)) = True := by simp; omega
      simp only [hin, hdB, hdr2, true_and, wk,if_true,if_false,forall_const,implies_true,ne_eq,eq_self,Nat.reduceEqDiff,Nat.reduceAdd,Nat.reduceMul,Nat.reduceSub,Nat.reduceLeDiff,Nat.reduceLT,Int.reduceEq,Int.reduceLT,Int.reduceLE,Int.reduceAdd,Int.reduceSub,Int.reduceMul,Int.reduceNeg,Int.reduceNe,reduceCtorEq,Int.reduceToNat,↓reduceIte]
      refine ⟨inR_of (by omega) (by omega), ?_⟩
      have hset : (objsC B.objs).set (ob.toNat * 3 + 2) (.int .i64 r.objs[k].version) = objsC r.objs := by
        rw [hBo, objsC_set hk, hk3, set_at (by rw [objsC_len, List.length_take]; omega), objsC_split hk]
        rfl
      refine ⟨by rw [objsC_len]; omega, ?_⟩
      rw [hset]
      have qs := p_rsame r r hsm hsm
      rw [sameR_self] at qs
      simp only [vR, rC] at qs
      rw [hBb]
      refine ACalls.use (PCalls.iced qs _ (by simp only [fzs_cons, fzs_nil, fz_agg, fz_int, fz_lst]; rw [fz_hs (s := false) (l := objsC r.objs) rfl, degs_objs])) ?_
      rintro _ _ ⟨rfl, rfl⟩
      simp only [fgt_bool, wk,if_true,if_false,forall_const,implies_true,ne_eq,eq_self,Nat.reduceEqDiff,Nat.reduceAdd,Nat.reduceMul,Nat.reduceSub,Nat.reduceLeDiff,Nat.reduceLT,Int.reduceEq,Int.reduceLT,Int.reduceLE,Int.reduceAdd,Int.reduceSub,Int.reduceMul,Int.reduceNeg,Int.reduceNe,reduceCtorEq,Int.reduceToNat,↓reduceIte]
  · have qd := p_do_no r q hsm (by rw [← q4]; exact hse) he
    simp only [vR, rC, vQ, qC, zeroR, objsC, q2, q3, ← q1, ← q4] at qd
    refine PCalls.use (qd) ?_; simp only [wk,if_true,if_false,forall_const,implies_true,ne_eq,eq_self,Nat.reduceEqDiff,Nat.reduceAdd,Nat.reduceMul,Nat.reduceSub,Nat.reduceLeDiff,Nat.reduceLT,Int.reduceEq,Int.reduceLT,Int.reduceLE,Int.reduceAdd,Int.reduceSub,Int.reduceMul,Int.reduceNeg,Int.reduceNe,reduceCtorEq,Int.reduceToNat,↓reduceIte]
    exact fun h => absurd h he
end Go.Proofs.Ytcbcnbefaggnhaa
