/- What the reference's In does, over the abstract code. -/
import Derived.Test.YtdmhilhfdcmdiaaLa
import Derived.Test.YtdmhilhfdcmdiaaFnQ
namespace Go.Proofs.Ytdmhilhfdcmdiaa
set_option linter.unusedSimpArgs false
set_option linter.unusedVariables false
open Go.RowKit Go.Lib

/-- how many bytes are looked at where there is no number -/
def rdStop : Nat → List UInt8 → Nat
  | _, [] => 0
  | k, c :: r => if 9 ≤ k then 0 else if 0 < k ∧ c.toNat = 0 then 1 else if 128 ≤ c.toNat then 1 + rdStop (k + 1) r else 1
theorem rdStop_le : ∀ (l : List UInt8) (k : Nat), rdStop k l ≤ l.length
  | [], _ => by simp [rdStop]
  | c :: r, k => by
    have := rdStop_le r (k + 1)
    rw [rdStop, List.length_cons]
    split
    · omega
    · split
      · omega
      · split <;> omega
/-- the place behind what was looked at -/
def jStop (S : ByteArray) (s : Bool × Nat) : Nat := if s.1 then s.2 else s.2 + rdStop 0 (S.data.toList.drop s.2)
theorem jStop_le {S : ByteArray} {s : Bool × Nat} (h : s.2 ≤ S.size) : jStop S s ≤ S.size := by
  unfold jStop
  split
  · exact h
  · have := rdStop_le (S.data.toList.drop s.2) 0
    rw [List.length_drop, ba_len] at this; omega
set_option maxRecDepth 100000 in
set_option maxRecDepth 100000 in
set_option maxHeartbeats 2000000 in
theorem r_inum {h : Hp} {id : Nat} {S : ByteArray} {s : Bool × Nat} (most : Int) (ho : h[id]? = some (jObj S s)) (hs : S.size ≤ 1000000000000) (hp : s.2 ≤ S.size) :
    ACalls Try.prog 27 [.ptr id 0, .int .i64 most] h (fun a h' => a = vI (if s.1 then none else rNum S most s.2) ∧ h' = h.set id (jObj S (stO (if s.1 then none else rNum S most s.2) (jStop S s)))) := by
  obtain ⟨bad, p⟩ := s
  simp only [jObj] at ho hp ⊢
  refine acalls_of mixed J_ref07_In_Num_ok (Nat.le_of_ble_eq_true rfl) ?_; simp only [J_ref07_In_Num, wk,if_true,if_false,forall_const,implies_true,ne_eq,eq_self,Nat.reduceEqDiff,Nat.reduceAdd,Nat.reduceMul,Nat.reduceSub,Nat.reduceLeDiff,Nat.reduceLT,Int.reduceEq,Int.reduceLT,Int.reduceLE,Int.reduceAdd,Int.reduceSub,Int.reduceMul,Int.reduceNeg,Int.reduceNe,reduceCtorEq,Int.reduceToNat,↓reduceIte]
  simp only [wk,if_true,if_false,forall_const,implies_true,ne_eq,eq_self,Nat.reduceEqDiff,Nat.reduceAdd,Nat.reduceMul,Nat.reduceSub,Nat.reduceLeDiff,Nat.reduceLT,Int.reduceEq,Int.reduceLT,Int.reduceLE,Int.reduceAdd,Int.reduceSub,Int.reduceMul,Int.reduceNeg,Int.reduceNe,reduceCtorEq,Int.reduceToNat,↓reduceIte, ho]
  cases bad with
  | true =>
    refine ⟨fun _ => ⟨rfl, ?_⟩, fun hb => (nomatch hb)⟩
    simp only [stO, if_true, jStop]
    exact (hself ho).symm
  | false =>
    refine ⟨fun hb => (nomatch hb), fun _ => ?_⟩
    simp only [Bool.false_eq_true, if_false, jStop]
    refine W_loop (fun n fr h' => ∃ (k acc : Nat), k ≤ 9 ∧ n = 9 - k ∧ p + k ≤ S.size ∧ acc < 128 ^ k ∧ (∃ part : Int, (k ≤ 8 → part = ((128 ^ k : Nat) : Int)) ∧ fr = [(0, .ptr id 0), (1, .int .i64 most), (5, .int .i64 acc), (6, .int .i64 part), (7, .int .i64 k)]) ∧ h' = h.set id (jObj S (false, p + k)) ∧ rdNum (S.data.toList.drop p) = rdNumAt k acc (S.data.toList.drop (p + k)) ∧ rdStop 0 (S.data.toList.drop p) = k + rdStop k (S.data.toList.drop (p + k))) 9
      ⟨0, 0, by omega, rfl, by omega, by simp, ⟨1, fun _ => rfl, rfl⟩, by rw [Nat.add_zero]; exact (hself ho).symm, rfl, by simp⟩ ?_
    rintro n fr h' ⟨k, acc, hk9, rfl, hks, hacc, ⟨part, hpart, rfl⟩, rfl, hrd, hst⟩
    have hone : ∀ (q : Nat) (fr0 : Fr) (Q : Exit → Fr → Hp → Prop), restr [0] fr0 = [(0, .ptr id 0)] → (∀ fr, ev fr (.t 4) = some (.int .i64 0) → Q .ret fr (h.set id (jObj S (true, q)))) → W Try.prog J_ref07_In_Num_j1 fr0 (h.set id (jObj S (false, q))) Q := by
      intro q fr0 Q hf0 hQ
      simp only [J_ref07_In_Num_j1, W_keep]
      rw [hf0]
      simp only [wk,if_true,if_false,forall_const,implies_true,ne_eq,eq_self,Nat.reduceEqDiff,Nat.reduceAdd,Nat.reduceMul,Nat.reduceSub,Nat.reduceLeDiff,Nat.reduceLT,Int.reduceEq,Int.reduceLT,Int.reduceLE,Int.reduceAdd,Int.reduceSub,Int.reduceMul,Int.reduceNeg,Int.reduceNe,reduceCtorEq,Int.reduceToNat,↓reduceIte, hset ho]
      exact hQ _ (by rfl)
    have hnone : rNum S most p = none → AV.int .i64 0 = vI (rNum S most p) ∧ ∀ q, p + rdStop 0 (S.data.toList.drop p) = q → h.set id (jObj S (true, q)) = h.set id (jObj S (stO (rNum S most p) (p + rdStop 0 (S.data.toList.drop p)))) := by
      intro hn
      rw [hn]
      exact ⟨rfl, fun q hq => by rw [hq]; rfl⟩
    by_cases hk : k < 9
    · simp only [J_ref07_In_Num_j2, hset ho, show ((k : Int) < 9) = True from eq_true (by omega), wk,if_true,if_false,forall_const,implies_true,ne_eq,eq_self,Nat.reduceEqDiff,Nat.reduceAdd,Nat.reduceMul,Nat.reduceSub,Nat.reduceLeDiff,Nat.reduceLT,Int.reduceEq,Int.reduceLT,Int.reduceLE,Int.reduceAdd,Int.reduceSub,Int.reduceMul,Int.reduceNeg,Int.reduceNe,reduceCtorEq,Int.reduceToNat,↓reduceIte]
      refine ⟨fun hge => ?_, fun hlt => ?_⟩
      · -- the end
        have hd : S.data.toList.drop (p + k) = [] := List.drop_eq_nil_of_le (by rw [ba_len]; omega)
        have hn : rNum S most p = none := by unfold rNum; rw [hrd, hd]; rfl
        refine hone _ _ _ rfl fun fr hb => ?_
        simp only [wk,if_true,if_false,forall_const,implies_true,ne_eq,eq_self,Nat.reduceEqDiff,Nat.reduceAdd,Nat.reduceMul,Nat.reduceSub,Nat.reduceLeDiff,Nat.reduceLT,Int.reduceEq,Int.reduceLT,Int.reduceLE,Int.reduceAdd,Int.reduceSub,Int.reduceMul,Int.reduceNeg,Int.reduceNe,reduceCtorEq,Int.reduceToNat,↓reduceIte, hb]
        refine ⟨(hnone hn).1, (hnone hn).2 _ ?_⟩
        rw [hst, hd]; rfl
      · have hkd : p + k < S.data.toList.length := by rw [ba_len]; omega
        have hkl : p + k < S.size := by omega
        have hdrop : S.data.toList.drop (p + k) = S[p + k] :: S.data.toList.drop (p + k + 1) := by rw [List.drop_eq_getElem_cons hkd]; rfl
        have hb := S[p + k].toNat_lt
        rw [hdrop, rdNumAt, if_neg (by omega)] at hrd
        rw [hdrop, rdStop, if_neg (by omega)] at hst
        have hpart := hpart (by omega)
        subst hpart
        have hp1 : 128 ^ k ≤ 128 ^ 8 := Nat.pow_le_pow_right (by omega) (by omega)
        have hp2 : S[p + k].toNat % 128 * 128 ^ k ≤ 127 * 128 ^ 8 := Nat.mul_le_mul (by omega) hp1
        have hp3 : acc + S[p + k].toNat % 128 * 128 ^ k < 128 ^ (k + 1) := by
          have : S[p + k].toNat % 128 * 128 ^ k ≤ 127 * 128 ^ k := Nat.mul_le_mul (by omega) (Nat.le_refl _)
          rw [Nat.pow_succ]; omega
        have hbyte : IntKind.i64.wrap (byteAt S ((p + k : Nat) : Int).toNat : Int) = (S[p + k].toNat : Int) := by
          rw [show ((p + k : Nat) : Int).toNat = p + k by omega, byteAt_eq hkl, wrap_byte _ hb]
        have hmod : (S[p + k].toNat : Int).tmod 128 = ((S[p + k].toNat % 128 : Nat) : Int) := by
          rw [Int.tmod_eq_emod_of_nonneg (by omega)]; omega
        have hmul : IntKind.i64.wrap (((S[p + k].toNat % 128 : Nat) : Int) * ((128 ^ k : Nat) : Int)) = ((S[p + k].toNat % 128 * 128 ^ k : Nat) : Int) := by
          rw [← Int.natCast_mul, IntKind.wrap_i64]; omega
        refine ⟨⟨by omega, by omega⟩, ?_⟩
        simp only [hbyte, hset ho, hmod, hmul, wk,if_true,if_false,forall_const,implies_true,ne_eq,eq_self,Nat.reduceEqDiff,Nat.reduceAdd,Nat.reduceMul,Nat.reduceSub,Nat.reduceLeDiff,Nat.reduceLT,Int.reduceEq,Int.reduceLT,Int.reduceLE,Int.reduceAdd,Int.reduceSub,Int.reduceMul,Int.reduceNeg,Int.reduceNe,reduceCtorEq,Int.reduceToNat,↓reduceIte]
        refine ⟨inR_of (by omega) (by omega), ?_⟩
        by_cases hz : 0 < k ∧ S[p + k].toNat = 0
        · have hn : rNum S most p = none := by unfold rNum; rw [hrd, if_pos hz]
          rw [if_pos hz] at hst
          refine ⟨fun h0 => ⟨fun h1 => ?_, fun h1 => absurd hz.2 (by omega)⟩, fun h0 => absurd hz.1 (by omega)⟩
          refine hone (p + k + 1) _ _ rfl fun fr hb => ?_
          simp only [wk,if_true,if_false,forall_const,implies_true,ne_eq,eq_self,Nat.reduceEqDiff,Nat.reduceAdd,Nat.reduceMul,Nat.reduceSub,Nat.reduceLeDiff,Nat.reduceLT,Int.reduceEq,Int.reduceLT,Int.reduceLE,Int.reduceAdd,Int.reduceSub,Int.reduceMul,Int.reduceNeg,Int.reduceNe,reduceCtorEq,Int.reduceToNat,↓reduceIte, hb]
          exact ⟨(hnone hn).1, (hnone hn).2 _ (by omega)⟩
        rw [if_neg hz] at hrd hst
        refine ⟨fun h0 => ⟨fun h1 => absurd ⟨by omega, by omega⟩ hz, fun h1 => ?_⟩, fun h0 => ?_⟩
        all_goals
          refine ⟨inR_of (by omega) (by omega), ?_⟩
          refine ⟨fun hlt8 => ?_, fun hge8 => ?_⟩
          · have hm : S[p + k].toNat % 128 = S[p + k].toNat := Nat.mod_eq_of_lt (by omega)
            rw [if_neg (by omega)] at hrd hst
            rw [hm] at hp2 hp3 ⊢
            refine ⟨fun hmo => ⟨fun hmx => ?_, fun hmx => ?_⟩, fun hmo => ?_⟩
            rotate_left 2
            · have hn : rNum S most p = none := by
                unfold rNum; rw [hrd]
                by_cases hbig : acc + S[p + k].toNat * 128 ^ k > 4611686018427387904
                · rw [if_pos hbig]
                · rw [if_neg hbig]; simp only; rw [if_neg (by omega)]
              refine hone (p + k + 1) _ _ rfl fun fr hb => ?_
              simp only [wk,if_true,if_false,forall_const,implies_true,ne_eq,eq_self,Nat.reduceEqDiff,Nat.reduceAdd,Nat.reduceMul,Nat.reduceSub,Nat.reduceLeDiff,Nat.reduceLT,Int.reduceEq,Int.reduceLT,Int.reduceLE,Int.reduceAdd,Int.reduceSub,Int.reduceMul,Int.reduceNeg,Int.reduceNe,reduceCtorEq,Int.reduceToNat,↓reduceIte, hb]
              exact ⟨(hnone hn).1, (hnone hn).2 _ (by omega)⟩
            · have hn : rNum S most p = none := by
                unfold rNum; rw [hrd, if_pos (by omega)]
              refine hone (p + k + 1) _ _ rfl fun fr hb => ?_
              simp only [wk,if_true,if_false,forall_const,implies_true,ne_eq,eq_self,Nat.reduceEqDiff,Nat.reduceAdd,Nat.reduceMul,Nat.reduceSub,Nat.reduceLeDiff,Nat.reduceLT,Int.reduceEq,Int.reduceLT,Int.reduceLE,Int.reduceAdd,Int.reduceSub,Int.reduceMul,Int.reduceNeg,Int.reduceNe,reduceCtorEq,Int.reduceToNat,↓reduceIte, hb]
              exact ⟨(hnone hn).1, (hnone hn).2 _ (by omega)⟩
            · have hn : rNum S most p = some (acc + S[p + k].toNat * 128 ^ k, p + (k + 1)) := by
                unfold rNum; rw [hrd, if_neg (by omega)]; simp only; rw [if_pos (by omega)]
              rw [hn]
              exact ⟨rfl, rfl⟩
          · rw [if_pos (by omega)] at hrd hst
            refine ⟨inR_of (by omega) (by omega), 9 - (k + 1), by omega, k + 1, _, by omega, rfl, by omega, hp3, ⟨_, fun h8 => ?_, rfl⟩, rfl, hrd, by rw [hst, show p + (k + 1) = p + k + 1 from rfl]; omega⟩
            rw [IntKind.wrap_i64, Nat.pow_succ]
            have hp8 : 128 ^ k ≤ 128 ^ 7 := Nat.pow_le_pow_right (by omega) (by omega)
            omega
    · have hk9' : k = 9 := by omega
      subst hk9'
      have hn : rNum S most p = none := by unfold rNum; rw [hrd, rdNumAt_nine (by omega)]
      simp only [J_ref07_In_Num_j2, show ((9 : Nat) : Int) = 9 from rfl, wk,if_true,if_false,forall_const,implies_true,ne_eq,eq_self,Nat.reduceEqDiff,Nat.reduceAdd,Nat.reduceMul,Nat.reduceSub,Nat.reduceLeDiff,Nat.reduceLT,Int.reduceEq,Int.reduceLT,Int.reduceLE,Int.reduceAdd,Int.reduceSub,Int.reduceMul,Int.reduceNeg,Int.reduceNe,reduceCtorEq,Int.reduceToNat,↓reduceIte]
      refine hone _ _ _ rfl fun fr hb => ?_
      simp only [wk,if_true,if_false,forall_const,implies_true,ne_eq,eq_self,Nat.reduceEqDiff,Nat.reduceAdd,Nat.reduceMul,Nat.reduceSub,Nat.reduceLeDiff,Nat.reduceLT,Int.reduceEq,Int.reduceLT,Int.reduceLE,Int.reduceAdd,Int.reduceSub,Int.reduceMul,Int.reduceNeg,Int.reduceNe,reduceCtorEq,Int.reduceToNat,↓reduceIte, hb]
      refine ⟨(hnone hn).1, (hnone hn).2 _ ?_⟩
      rw [hst]
      cases S.data.toList.drop (p + 9) with
      | nil => rfl
      | cons c r => rw [rdStop, if_pos (by omega)]
theorem r_left {h : Hp} {id : Nat} {S : ByteArray} {s : Bool × Nat} (ho : h[id]? = some (jObj S s)) (hs : S.size ≤ 1000000000000) (hp : s.2 ≤ S.size) :
    ACalls Try.prog 36 [.ptr id 0] h (fun a h' => a = .int .i64 (if s.1 then 0 else ((S.size - s.2 : Nat) : Int)) ∧ h = h') := by
  obtain ⟨bad, p⟩ := s
  simp only [jObj] at ho hp ⊢
  refine acalls_of mixed J_ref07_In_Left_ok (Nat.le_of_ble_eq_true rfl) ?_; simp only [J_ref07_In_Left, wk,if_true,if_false,forall_const,implies_true,ne_eq,eq_self,Nat.reduceEqDiff,Nat.reduceAdd,Nat.reduceMul,Nat.reduceSub,Nat.reduceLeDiff,Nat.reduceLT,Int.reduceEq,Int.reduceLT,Int.reduceLE,Int.reduceAdd,Int.reduceSub,Int.reduceMul,Int.reduceNeg,Int.reduceNe,reduceCtorEq,Int.reduceToNat,↓reduceIte]
  simp only [wk,if_true,if_false,forall_const,implies_true,ne_eq,eq_self,Nat.reduceEqDiff,Nat.reduceAdd,Nat.reduceMul,Nat.reduceSub,Nat.reduceLeDiff,Nat.reduceLT,Int.reduceEq,Int.reduceLT,Int.reduceLE,Int.reduceAdd,Int.reduceSub,Int.reduceMul,Int.reduceNeg,Int.reduceNe,reduceCtorEq,Int.reduceToNat,↓reduceIte, ho]
  refine ⟨fun hb => ?_, fun hb => ?_⟩ <;> subst hb
  · rfl
  · exact ⟨inR_of (by omega) (by omega), int_eq (by simp; omega)⟩
theorem r_idone {h : Hp} {id : Nat} {S : ByteArray} {s : Bool × Nat} (ho : h[id]? = some (jObj S s)) (hs : S.size ≤ 1000000000000) (hp : s.2 ≤ S.size) :
    ACalls Try.prog 38 [.ptr id 0] h (fun a h' => a = .int .i64 (eI (s.1 || decide (s.2 < S.size))) ∧ h' = h.set id (jObj S (s.1 || decide (s.2 < S.size), s.2))) := by
  obtain ⟨bad, p⟩ := s
  simp only [jObj] at ho hp ⊢
  refine acalls_of mixed J_ref07_In_Done_ok (Nat.le_of_ble_eq_true rfl) ?_; simp only [J_ref07_In_Done, wk,if_true,if_false,forall_const,implies_true,ne_eq,eq_self,Nat.reduceEqDiff,Nat.reduceAdd,Nat.reduceMul,Nat.reduceSub,Nat.reduceLeDiff,Nat.reduceLT,Int.reduceEq,Int.reduceLT,Int.reduceLE,Int.reduceAdd,Int.reduceSub,Int.reduceMul,Int.reduceNeg,Int.reduceNe,reduceCtorEq,Int.reduceToNat,↓reduceIte]
  simp only [wk,if_true,if_false,forall_const,implies_true,ne_eq,eq_self,Nat.reduceEqDiff,Nat.reduceAdd,Nat.reduceMul,Nat.reduceSub,Nat.reduceLeDiff,Nat.reduceLT,Int.reduceEq,Int.reduceLT,Int.reduceLE,Int.reduceAdd,Int.reduceSub,Int.reduceMul,Int.reduceNeg,Int.reduceNe,reduceCtorEq,Int.reduceToNat,↓reduceIte, ho]
  cases bad with
  | true =>
    refine ⟨fun hb => (nomatch hb), fun _ => ?_⟩
    exact ⟨rfl, rfl⟩
  | false =>
    refine ⟨fun _ => ⟨fun hl => ?_, fun hl => ?_⟩, fun hb => (nomatch hb)⟩
    · rw [decide_eq_true (show p < S.size by omega)]; exact ⟨rfl, rfl⟩
    · rw [decide_eq_false (show ¬ p < S.size by omega)]; exact ⟨rfl, (hself ho).symm⟩
set_option maxRecDepth 100000 in
set_option maxHeartbeats 2000000 in
theorem r_itext {h : Hp} {id : Nat} {S : ByteArray} {s : Bool × Nat} (most : Int) (ho : h[id]? = some (jObj S s)) (hs : S.size ≤ 1000000000000) (hp : s.2 ≤ S.size) :
    ACalls Try.prog 29 [.ptr id 0, .int .i64 most] h (fun a h' => a = vS (if s.1 then none else rText S most s.2) ∧ ∃ q, q ≤ S.size ∧ h' = h.set id (jObj S (stO (if s.1 then none else rText S most s.2) q))) := by
  obtain ⟨bad, p⟩ := s
  simp only at hp ⊢
  refine acalls_of mixed J_ref07_In_Text_ok (Nat.le_of_ble_eq_true rfl) ?_; simp only [J_ref07_In_Text, wk,if_true,if_false,forall_const,implies_true,ne_eq,eq_self,Nat.reduceEqDiff,Nat.reduceAdd,Nat.reduceMul,Nat.reduceSub,Nat.reduceLeDiff,Nat.reduceLT,Int.reduceEq,Int.reduceLT,Int.reduceLE,Int.reduceAdd,Int.reduceSub,Int.reduceMul,Int.reduceNeg,Int.reduceNe,reduceCtorEq,Int.reduceToNat,↓reduceIte]
  have hj := jStop_le (S := S) (s := (bad, p)) hp
  have hc := r_inum (s := (bad, p)) most ho hs hp
  cases hr : (if bad = true then none else rNum S most p) with
  | none =>
    have hr' : (if bad = true then none else rText S most p) = none := by
      cases bad with
      | true => rfl
      | false =>
        simp only [Bool.false_eq_true, if_false] at hr ⊢
        simp only [rText, hr]
    rw [hr']
    simp only [hr, vI, stO] at hc
    refine ACalls.use (hc) ?_; rintro _ _ ⟨rfl, rfl⟩; simp only [wk,if_true,if_false,forall_const,implies_true,ne_eq,eq_self,Nat.reduceEqDiff,Nat.reduceAdd,Nat.reduceMul,Nat.reduceSub,Nat.reduceLeDiff,Nat.reduceLT,Int.reduceEq,Int.reduceLT,Int.reduceLE,Int.reduceAdd,Int.reduceSub,Int.reduceMul,Int.reduceNeg,Int.reduceNe,reduceCtorEq,Int.reduceToNat,↓reduceIte, hset ho, jObj]
    exact ⟨rfl, _, hj, rfl⟩
  | some x =>
    obtain ⟨n, q⟩ := x
    have hb : bad = false := by cases bad with
      | true => simp at hr
      | false => rfl
    subst hb
    simp only [Bool.false_eq_true, if_false] at hr hc ⊢
    have hle := rNum_le hr hp
    have hr' : rText S most p = rTake S n q := by simp only [rText, hr]
    rw [hr']
    simp only [hr, vI, stO] at hc
    refine ACalls.use (hc) ?_; rintro _ _ ⟨rfl, rfl⟩; simp only [wk,if_true,if_false,forall_const,implies_true,ne_eq,eq_self,Nat.reduceEqDiff,Nat.reduceAdd,Nat.reduceMul,Nat.reduceSub,Nat.reduceLeDiff,Nat.reduceLT,Int.reduceEq,Int.reduceLT,Int.reduceLE,Int.reduceAdd,Int.reduceSub,Int.reduceMul,Int.reduceNeg,Int.reduceNe,reduceCtorEq,Int.reduceToNat,↓reduceIte, hset ho, jObj]
    refine ⟨inR_of (by omega) (by omega), fun hgt => ?_, fun hng => ?_⟩
    · simp only [rTake]
      rw [if_pos (by omega)]; exact ⟨rfl, _, hle.2.1, rfl⟩
    · refine ⟨inR_of (by omega) (by omega), ⟨by omega, by omega, by omega⟩, ?_⟩
      simp only [rTake]
      rw [if_neg (by omega), show (q : Int).toNat = q by omega, show ((q : Int) + n).toNat = q + n by omega]
      refine ⟨inR_of (by omega) (by omega), rfl, _, hp, ?_⟩
      simp only [stO, Int.natCast_add]
set_option maxRecDepth 100000 in
set_option maxHeartbeats 2000000 in
theorem r_iword {h : Hp} {id : Nat} {S : ByteArray} {s : Bool × Nat} (ho : h[id]? = some (jObj S s)) (hs : S.size ≤ 1000000000000) (hp : s.2 ≤ S.size) :
    ACalls Try.prog 31 [.ptr id 0] h (fun a h' => a = vS (if s.1 then none else rWord S s.2) ∧ h' = h.set id (jObj S (stO (if s.1 then none else rWord S s.2) s.2))) := by
  obtain ⟨bad, p⟩ := s
  simp only [jObj] at ho hp ⊢
  refine acalls_of mixed J_ref07_In_Word_ok (Nat.le_of_ble_eq_true rfl) ?_; simp only [J_ref07_In_Word, wk,if_true,if_false,forall_const,implies_true,ne_eq,eq_self,Nat.reduceEqDiff,Nat.reduceAdd,Nat.reduceMul,Nat.reduceSub,Nat.reduceLeDiff,Nat.reduceLT,Int.reduceEq,Int.reduceLT,Int.reduceLE,Int.reduceAdd,Int.reduceSub,Int.reduceMul,Int.reduceNeg,Int.reduceNe,reduceCtorEq,Int.reduceToNat,↓reduceIte]
  simp only [wk,if_true,if_false,forall_const,implies_true,ne_eq,eq_self,Nat.reduceEqDiff,Nat.reduceAdd,Nat.reduceMul,Nat.reduceSub,Nat.reduceLeDiff,Nat.reduceLT,Int.reduceEq,Int.reduceLT,Int.reduceLE,Int.reduceAdd,Int.reduceSub,Int.reduceMul,Int.reduceNeg,Int.reduceNe,reduceCtorEq,Int.reduceToNat,↓reduceIte, ho]
  cases bad with
  | true =>
    refine ⟨fun hb => (nomatch hb), fun _ => ?_⟩
    exact ⟨rfl, rfl⟩
  | false =>
    refine ⟨fun _ => ⟨fun hge => ?_, fun hlt => ?_⟩, fun hb => (nomatch hb)⟩
    · simp only [rWord, Bool.false_eq_true, if_false]
      rw [if_pos (by omega)]; exact ⟨rfl, rfl⟩
    · have hb := byteAt_lt S p
      refine ⟨⟨by omega, by omega⟩, ?_⟩
      rw [show (p : Int).toNat = p by omega, wrap_byte _ hb]
      refine ⟨inR_of (by omega) (by omega), inR_of (by omega) (by omega), inR_of (by omega) (by omega), ?_⟩
      simp only [Bool.false_eq_true, if_false, rWord]
      refine ⟨fun hng => ?_, fun hgt => ?_⟩
      · refine ⟨inR_of (by omega) (by omega), inR_of (by omega) (by omega), inR_of (by omega) (by omega), ⟨by omega, by omega, by omega⟩, ?_⟩
        rw [show ((p : Int) + 1).toNat = p + 1 by omega, show ((p : Int) + 1 + 2 * (byteAt S p : Int)).toNat = p + 1 + 2 * byteAt S p by omega, if_neg (by omega), if_neg (by omega)]
        refine ⟨_, p_rwmay (S.extract (p + 1) (p + 1 + 2 * byteAt S p)) (by simp; omega), ?_⟩
        simp only [wk,if_true,if_false,forall_const,implies_true,ne_eq,eq_self,Nat.reduceEqDiff,Nat.reduceAdd,Nat.reduceMul,Nat.reduceSub,Nat.reduceLeDiff,Nat.reduceLT,Int.reduceEq,Int.reduceLT,Int.reduceLE,Int.reduceAdd,Int.reduceSub,Int.reduceMul,Int.reduceNeg,Int.reduceNe,reduceCtorEq,Int.reduceToNat,↓reduceIte]
        refine ⟨fun hm => ?_, fun hm => ?_⟩
        · simp only [wk,if_true,if_false,forall_const,implies_true,ne_eq,eq_self,Nat.reduceEqDiff,Nat.reduceAdd,Nat.reduceMul,Nat.reduceSub,Nat.reduceLeDiff,Nat.reduceLT,Int.reduceEq,Int.reduceLT,Int.reduceLE,Int.reduceAdd,Int.reduceSub,Int.reduceMul,Int.reduceNeg,Int.reduceNe,reduceCtorEq,Int.reduceToNat,↓reduceIte, hm, ho]
          exact ⟨rfl, rfl⟩
        · simp only [wk,if_true,if_false,forall_const,implies_true,ne_eq,eq_self,Nat.reduceEqDiff,Nat.reduceAdd,Nat.reduceMul,Nat.reduceSub,Nat.reduceLeDiff,Nat.reduceLT,Int.reduceEq,Int.reduceLT,Int.reduceLE,Int.reduceAdd,Int.reduceSub,Int.reduceMul,Int.reduceNeg,Int.reduceNe,reduceCtorEq,Int.reduceToNat,↓reduceIte, hm, ho]
          refine ⟨inR_of (by omega) (by omega), inR_of (by omega) (by omega), inR_of (by omega) (by omega), ⟨by omega, by omega, by omega⟩, inR_of (by omega) (by omega), inR_of (by omega) (by omega), ?_⟩
          refine ⟨rfl, ?_⟩
          rw [show (p : Int) + (1 + 2 * (byteAt S p : Int)) = ((p + 1 + 2 * byteAt S p : Nat) : Int) by omega]
          rfl
      · rw [if_neg (by omega), if_pos (by omega)]; exact ⟨rfl, rfl⟩
set_option maxRecDepth 100000 in
set_option maxHeartbeats 2000000 in
theorem r_iset {h : Hp} {id : Nat} {S : ByteArray} {s : Bool × Nat} (ho : h[id]? = some (jObj S s)) (hs : S.size ≤ 1000000000000) (hp : s.2 ≤ S.size) :
    ACalls Try.prog 34 [.ptr id 0] h (fun a h' => a = vL (if s.1 then none else rSet S s.2) ∧ ∃ q, q ≤ S.size ∧ h' = h.set id (jObj S (stO (if s.1 then none else rSet S s.2) q))) := by
  obtain ⟨bad, p⟩ := s
  simp only [jObj] at ho hp ⊢
  refine acalls_of mixed J_ref07_In_Set_ok (Nat.le_of_ble_eq_true rfl) ?_; simp only [J_ref07_In_Set, wk,if_true,if_false,forall_const,implies_true,ne_eq,eq_self,Nat.reduceEqDiff,Nat.reduceAdd,Nat.reduceMul,Nat.reduceSub,Nat.reduceLeDiff,Nat.reduceLT,Int.reduceEq,Int.reduceLT,Int.reduceLE,Int.reduceAdd,Int.reduceSub,Int.reduceMul,Int.reduceNeg,Int.reduceNe,reduceCtorEq,Int.reduceToNat,↓reduceIte]
  simp only [wk,if_true,if_false,forall_const,implies_true,ne_eq,eq_self,Nat.reduceEqDiff,Nat.reduceAdd,Nat.reduceMul,Nat.reduceSub,Nat.reduceLeDiff,Nat.reduceLT,Int.reduceEq,Int.reduceLT,Int.reduceLE,Int.reduceAdd,Int.reduceSub,Int.reduceMul,Int.reduceNeg,Int.reduceNe,reduceCtorEq,Int.reduceToNat,↓reduceIte, ho]
  cases bad with
  | true =>
    refine ⟨fun hb => (nomatch hb), fun _ => ?_⟩
    exact ⟨rfl, _, hp, rfl⟩
  | false =>
    refine ⟨fun _ => ⟨fun hge => ?_, fun hlt => ?_⟩, fun hb => (nomatch hb)⟩
    · simp only [rSet, Bool.false_eq_true, if_false]
      rw [if_pos (by omega)]; exact ⟨rfl, _, hp, rfl⟩
    · have hb := byteAt_lt S p
      refine ⟨⟨by omega, by omega⟩, ?_⟩
      rw [show (p : Int).toNat = p by omega, wrap_byte _ hb]
      refine ⟨inR_of (by omega) (by omega), ?_⟩
      simp only [Bool.false_eq_true, if_false, rSet]
      rw [if_neg (by omega)]
      obtain ⟨n, hn⟩ : ∃ n, n = byteAt S p := ⟨_, rfl⟩
      rw [← hn] at hb ⊢
      rw [show (p : Int) + 1 = ((p + 1 : Nat) : Int) by omega]
      refine W_loop (fun k fr h' => ∃ (i q' : Nat) (ws : List ByteArray), i ≤ n ∧ k = n - i ∧ ws.length = i ∧ q' ≤ S.size ∧ fr = [(0, .ptr id 0), (3, .int .i64 n), (4, .lst (.own 35) i (ws.map .str)), (5, .int .i64 i)] ∧ h' = h.set id (jObj S (stO (rWords S (p + 1) i) q')) ∧ ∀ l q'', rWords S (p + 1) i = some (l, q'') → ws = l) n ⟨0, p, [], by omega, by omega, rfl, hp, rfl, rfl, fun l q'' h => by simp only [rWords, Option.some.injEq, Prod.mk.injEq] at h; exact h.1⟩ ?_
      rintro k fr h' ⟨i, q', ws, hi, rfl, hwl, hq', rfl, rfl, hws⟩
      have hdone : (rWords S (p + 1) i = none ∨ i = n) → ∀ Q, (∀ fr a h', ev fr (.t 2) = some a → a = vL (match rWords S (p + 1) n with | some (l, q) => if setMay l then some (l, q) else none | none => none) → (∃ q, q ≤ S.size ∧ h' = h.set id (jObj S (stO (match rWords S (p + 1) n with | some (l, q) => if setMay l then some (l, q) else none | none => none) q))) → Q .ret fr h') → ∀ fr0, restr [0, 4] fr0 = [(0, .ptr id 0), (4, .lst (.own 35) i (ws.map .str))] → W Try.prog J_ref07_In_Set_j1 fr0 (h.set id (jObj S (stO (rWords S (p + 1) i) q'))) Q := by
        intro hcase Q hQ fr0 hf0
        simp only [J_ref07_In_Set_j1, W_keep]
        rw [hf0]
        cases hw : rWords S (p + 1) i with
        | none =>
          have hwn : rWords S (p + 1) n = none := by
            have : ∀ j, rWords S (p + 1) (i + j) = none := by
              intro j
              induction j with
              | zero => exact hw
              | succ j ih => show rWords S (p + 1) (i + j + 1) = none; simp only [rWords, ih]
            have := this (n - i)
            rwa [show i + (n - i) = n by omega] at this
          simp only [hset ho, stO, wk,if_true,if_false,forall_const,implies_true,ne_eq,eq_self,Nat.reduceEqDiff,Nat.reduceAdd,Nat.reduceMul,Nat.reduceSub,Nat.reduceLeDiff,Nat.reduceLT,Int.reduceEq,Int.reduceLT,Int.reduceLE,Int.reduceAdd,Int.reduceSub,Int.reduceMul,Int.reduceNeg,Int.reduceNe,reduceCtorEq,Int.reduceToNat,↓reduceIte]
          rw [hwn] at hQ
          exact hQ _ _ _ (by rfl) rfl ⟨q', hq', rfl⟩
        | some x =>
          obtain ⟨l, q3⟩ := x
          have hin : i = n := by rcases hcase with h | h; (rw [h] at hw; cases hw); exact h
          subst hin
          have hl := hws l q3 hw
          subst hl
          have hwl' := rWords_le (by omega) hw
          simp only [hset ho, stO, wk,if_true,if_false,forall_const,implies_true,ne_eq,eq_self,Nat.reduceEqDiff,Nat.reduceAdd,Nat.reduceMul,Nat.reduceSub,Nat.reduceLeDiff,Nat.reduceLT,Int.reduceEq,Int.reduceLT,Int.reduceLE,Int.reduceAdd,Int.reduceSub,Int.reduceMul,Int.reduceNeg,Int.reduceNe,reduceCtorEq,Int.reduceToNat,↓reduceIte]
          rw [← hwl]
          refine PCalls.use (p_rsmay ws (by omega) (fun x hx => by have := wordMay_size (hwl'.2.2.2 x hx); omega)) ?_; simp only [wk,if_true,if_false,forall_const,implies_true,ne_eq,eq_self,Nat.reduceEqDiff,Nat.reduceAdd,Nat.reduceMul,Nat.reduceSub,Nat.reduceLeDiff,Nat.reduceLT,Int.reduceEq,Int.reduceLT,Int.reduceLE,Int.reduceAdd,Int.reduceSub,Int.reduceMul,Int.reduceNeg,Int.reduceNe,reduceCtorEq,Int.reduceToNat,↓reduceIte]
          rw [hw] at hQ
          simp only at hQ
          refine ⟨fun hm => ?_, fun hm => ?_⟩
          · simp only [wk,if_true,if_false,forall_const,implies_true,ne_eq,eq_self,Nat.reduceEqDiff,Nat.reduceAdd,Nat.reduceMul,Nat.reduceSub,Nat.reduceLeDiff,Nat.reduceLT,Int.reduceEq,Int.reduceLT,Int.reduceLE,Int.reduceAdd,Int.reduceSub,Int.reduceMul,Int.reduceNeg,Int.reduceNe,reduceCtorEq,Int.reduceToNat,↓reduceIte, hset ho]
            rw [hm] at hQ
            exact hQ _ _ _ (by rfl) rfl ⟨q3, hwl'.2.2.1, rfl⟩
          · rw [hm] at hQ
            exact hQ _ _ _ (by rfl) rfl ⟨q3, hwl'.2.2.1, rfl⟩
      have hret : ∀ {fr : Fr} {a : AV} {h' : Hp}, ev fr (.t 2) = some a → a = vL (match rWords S (p + 1) n with | some (l, q) => if setMay l then some (l, q) else none | none => none) → (∃ q, q ≤ S.size ∧ h' = h.set id (jObj S (stO (match rWords S (p + 1) n with | some (l, q) => if setMay l then some (l, q) else none | none => none) q))) → resL fr h' [.t 2] (res1 fun a => a = vL (match rWords S (p + 1) n with | some (l, q) => if setMay l then some (l, q) else none | none => none) ∧ ∃ q, q ≤ S.size ∧ h' = h.set id (jObj S (stO (match rWords S (p + 1) n with | some (l, q) => if setMay l then some (l, q) else none | none => none) q))) := by
        intro fr a h' h1 h2 h3
        simp only [wk,if_true,if_false,forall_const,implies_true,ne_eq,eq_self,Nat.reduceEqDiff,Nat.reduceAdd,Nat.reduceMul,Nat.reduceSub,Nat.reduceLeDiff,Nat.reduceLT,Int.reduceEq,Int.reduceLT,Int.reduceLE,Int.reduceAdd,Int.reduceSub,Int.reduceMul,Int.reduceNeg,Int.reduceNe,reduceCtorEq,Int.reduceToNat,↓reduceIte, h1]
        exact ⟨h2, h3⟩
      cases hw : rWords S (p + 1) i with
      | none =>
        rw [hw] at hdone
        simp only [J_ref07_In_Set_j2, stO, hset ho, wk,if_true,if_false,forall_const,implies_true,ne_eq,eq_self,Nat.reduceEqDiff,Nat.reduceAdd,Nat.reduceMul,Nat.reduceSub,Nat.reduceLeDiff,Nat.reduceLT,Int.reduceEq,Int.reduceLT,Int.reduceLE,Int.reduceAdd,Int.reduceSub,Int.reduceMul,Int.reduceNeg,Int.reduceNe,reduceCtorEq,Int.reduceToNat,↓reduceIte]
        refine ⟨fun hlt2 => hdone (.inl rfl) _ (fun fr a h' h1 h2 h3 => ?_) _ rfl, fun hge => hdone (.inl rfl) _ (fun fr a h' h1 h2 h3 => ?_) _ rfl⟩
        · simp only [wk,if_true,if_false,forall_const,implies_true,ne_eq,eq_self,Nat.reduceEqDiff,Nat.reduceAdd,Nat.reduceMul,Nat.reduceSub,Nat.reduceLeDiff,Nat.reduceLT,Int.reduceEq,Int.reduceLT,Int.reduceLE,Int.reduceAdd,Int.reduceSub,Int.reduceMul,Int.reduceNeg,Int.reduceNe,reduceCtorEq,Int.reduceToNat,↓reduceIte]
          exact hret h1 h2 h3
        · simp only [wk,if_true,if_false,forall_const,implies_true,ne_eq,eq_self,Nat.reduceEqDiff,Nat.reduceAdd,Nat.reduceMul,Nat.reduceSub,Nat.reduceLeDiff,Nat.reduceLT,Int.reduceEq,Int.reduceLT,Int.reduceLE,Int.reduceAdd,Int.reduceSub,Int.reduceMul,Int.reduceNeg,Int.reduceNe,reduceCtorEq,Int.reduceToNat,↓reduceIte]
          exact hret h1 h2 h3
      | some x =>
        obtain ⟨l, q3⟩ := x
        have hl := hws l q3 hw
        subst hl
        have hwl' := rWords_le (by omega) hw
        rw [hw] at hdone
        simp only [J_ref07_In_Set_j2, stO, hset ho, wk,if_true,if_false,forall_const,implies_true,ne_eq,eq_self,Nat.reduceEqDiff,Nat.reduceAdd,Nat.reduceMul,Nat.reduceSub,Nat.reduceLeDiff,Nat.reduceLT,Int.reduceEq,Int.reduceLT,Int.reduceLE,Int.reduceAdd,Int.reduceSub,Int.reduceMul,Int.reduceNeg,Int.reduceNe,reduceCtorEq,Int.reduceToNat,↓reduceIte]
        refine ⟨fun hlt2 => ?_, fun hge => hdone (.inr (by omega)) _ (fun fr a h' h1 h2 h3 => ?_) _ rfl⟩
        · have hword := r_iword (s := (false, q3)) (hset ho (jObj S (false, q3))) hs hwl'.2.2.1
          simp only [Bool.false_eq_true, if_false, List.set_set] at hword
          have hstep : rWords S (p + 1) (i + 1) = match rWord S q3 with | some (w, q'') => some (ws ++ [w], q'') | none => none := by
            simp only [rWords, hw]
            cases rWord S q3 <;> rfl
          obtain ⟨w, hwv, hwx⟩ := vS_str (rWord S q3)
          rw [hwv] at hword
          refine ACalls.use (hword) ?_; rintro _ _ ⟨rfl, rfl⟩; simp only [wk,if_true,if_false,forall_const,implies_true,ne_eq,eq_self,Nat.reduceEqDiff,Nat.reduceAdd,Nat.reduceMul,Nat.reduceSub,Nat.reduceLeDiff,Nat.reduceLT,Int.reduceEq,Int.reduceLT,Int.reduceLE,Int.reduceAdd,Int.reduceSub,Int.reduceMul,Int.reduceNeg,Int.reduceNe,reduceCtorEq,Int.reduceToNat,↓reduceIte]
          (repeat (refine And.intro (by first | omega | exact inR_of (by omega) (by omega) | exact ⟨by omega, by omega⟩ | exact ⟨by omega, by omega, by omega⟩ | rfl) ?_))
          refine ⟨n - (i + 1), by omega, i + 1, q3, ws ++ [w], by omega, rfl, by simp [hwl], hwl'.2.2.1, by simp, ?_, ?_⟩
          · rw [hstep]
            cases rWord S q3 <;> rfl
          · intro l q'' he
            rw [hstep] at he
            cases hw2 : rWord S q3 with
            | none => rw [hw2] at he; cases he
            | some y =>
              obtain ⟨w', q4⟩ := y
              rw [hw2] at he
              simp only [Option.some.injEq, Prod.mk.injEq] at he
              rw [← hwx w' q4 hw2, he.1]
        · simp only [wk,if_true,if_false,forall_const,implies_true,ne_eq,eq_self,Nat.reduceEqDiff,Nat.reduceAdd,Nat.reduceMul,Nat.reduceSub,Nat.reduceLeDiff,Nat.reduceLT,Int.reduceEq,Int.reduceLT,Int.reduceLE,Int.reduceAdd,Int.reduceSub,Int.reduceMul,Int.reduceNeg,Int.reduceNe,reduceCtorEq,Int.reduceToNat,↓reduceIte]
          exact hret h1 h2 h3
end Go.Proofs.Ytdmhilhfdcmdiaa
