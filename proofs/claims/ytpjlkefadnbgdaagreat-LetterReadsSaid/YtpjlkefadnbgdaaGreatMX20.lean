/- Texts of one proof, laid together: Ym Yn Yo Yp Yq Yk. -/
import Derived.Test.YtpjlkefadnbgdaaGreatMX19
import Derived.Test.YtpjlkefadnbgdaaGreatMX15

/- The document's answer on messages: fits, bytes, Encode, May, Mac. -/
namespace Go.Proofs.YtpjlkefadnbgdaaGreat
set_option linter.unusedSimpArgs false
set_option linter.unusedVariables false
open Go.RowKit Go.Lib

theorem p_rnum22 (n : Int) : PCalls Tryz.prog 94 [.int .i64 n] (.bool (numOk n)) := by
  refine pcalls_of (by first | rfl | simp [free, free.frees, frees_str, frees_u8, frees_u16]) (by first | rfl | simp [free, free.frees, frees_str, frees_u8, frees_u16]) (acalls_of mixed J_ref22_num_ok (Nat.le_of_ble_eq_true rfl) ?_); simp only [J_ref22_num, wk,if_true,if_false,forall_const,implies_true,ne_eq,eq_self,Nat.reduceEqDiff,Nat.reduceAdd,Nat.reduceMul,Nat.reduceSub,Nat.reduceLeDiff,Nat.reduceLT,Int.reduceEq,Int.reduceLT,Int.reduceLE,Int.reduceAdd,Int.reduceSub,Int.reduceMul,Int.reduceNeg,Int.reduceNe,reduceCtorEq,Int.reduceToNat,↓reduceIte]
  refine ⟨fun e => ?_, fun e => ?_⟩
  · congr 1; simp [numOk, e]
  · congr 1; simp [numOk, e]
theorem p_noask (q : Rqs) : PCalls Tryz.prog 93 [vQ q] (.bool (noAsk q)) := by
  refine pcalls_of (by simp [free.frees, free_vQ]) rfl (acalls_of mixed J_ref22_noAsk_ok (Nat.le_of_ble_eq_true rfl) ?_); simp only [J_ref22_noAsk, vQ, qC, wk,if_true,if_false,forall_const,implies_true,ne_eq,eq_self,Nat.reduceEqDiff,Nat.reduceAdd,Nat.reduceMul,Nat.reduceSub,Nat.reduceLeDiff,Nat.reduceLT,Int.reduceEq,Int.reduceLT,Int.reduceLE,Int.reduceAdd,Int.reduceSub,Int.reduceMul,Int.reduceNeg,Int.reduceNe,reduceCtorEq,Int.reduceToNat,↓reduceIte]
  repeat' (first | (refine And.intro ?_ ?_) | intro _)
  all_goals first
    | (refine bool_eq ?_; simp_all [noAsk]; done)
    | (refine bool_eq ?_; simp_all [noAsk]; intros; simp_all; omega)
set_option maxRecDepth 100000 in
set_option maxHeartbeats 16000000 in
theorem p_fits22 (m : Lm) (hs : smallM m) : PCalls Tryz.prog 45 [vM m] (.bool (fitsE m)) := by
  refine pcalls_of (by simp [free.frees, free_vM]) rfl (acalls_of mixed J_ref22_fits_ok (Nat.le_of_ble_eq_true rfl) ?_); simp only [J_ref22_fits, vM, mC, wk,if_true,if_false,forall_const,implies_true,ne_eq,eq_self,Nat.reduceEqDiff,Nat.reduceAdd,Nat.reduceMul,Nat.reduceSub,Nat.reduceLeDiff,Nat.reduceLT,Int.reduceEq,Int.reduceLT,Int.reduceLE,Int.reduceAdd,Int.reduceSub,Int.reduceMul,Int.reduceNeg,Int.reduceNe,reduceCtorEq,Int.reduceToNat,↓reduceIte]
  have no : certsOk m.certs = false → AV.bool false = .bool (fitsE m) := fun h => by simp [fitsE, h]
  refine W_loop (fun n fr h' => ∃ i : Nat, i ≤ m.certs.length ∧ n = m.certs.length - i ∧ i ≤ 8 ∧ (∀ c ∈ m.certs.take i, checkE c = 0) ∧ h' = [some (false, mC m)] ∧ fr = [(1, .ptr 0 0), (3, .int .i64 i)]) m.certs.length ⟨0, by omega, by omega, by omega, by simp, rfl, rfl⟩ ?_
  rintro n fr h' ⟨i, hi, rfl, h8, hall, rfl, rfl⟩
  simp only [J_ref22_fits_j2, mC, wk,if_true,if_false,forall_const,implies_true,ne_eq,eq_self,Nat.reduceEqDiff,Nat.reduceAdd,Nat.reduceMul,Nat.reduceSub,Nat.reduceLeDiff,Nat.reduceLT,Int.reduceEq,Int.reduceLT,Int.reduceLE,Int.reduceAdd,Int.reduceSub,Int.reduceMul,Int.reduceNeg,Int.reduceNe,reduceCtorEq,Int.reduceToNat,↓reduceIte]
  refine ⟨fun hlt => ?_, fun hge => ?_⟩
  · have hil : i < m.certs.length := by omega
    have hd := certsC_at hil
    have hmem := List.getElem_mem hil
    have hin : ((0 ≤ (i : Int)) ∧ (i : Int) < (m.certs.length : Int)) = True := by simp; omega
    have q := p_rcheck m.certs[i] (hs.2.2.2.2 _ hmem)
    simp only [vC, cC] at q
    simp only [hin, hd, true_and, wk,if_true,if_false,forall_const,implies_true,ne_eq,eq_self,Nat.reduceEqDiff,Nat.reduceAdd,Nat.reduceMul,Nat.reduceSub,Nat.reduceLeDiff,Nat.reduceLT,Int.reduceEq,Int.reduceLT,Int.reduceLE,Int.reduceAdd,Int.reduceSub,Int.reduceMul,Int.reduceNeg,Int.reduceNe,reduceCtorEq,Int.reduceToNat,↓reduceIte]
    refine ⟨fun h7 => ?_, fun h7 => ?_⟩
    · refine PCalls.use (q) ?_; simp only [wk,if_true,if_false,forall_const,implies_true,ne_eq,eq_self,Nat.reduceEqDiff,Nat.reduceAdd,Nat.reduceMul,Nat.reduceSub,Nat.reduceLeDiff,Nat.reduceLT,Int.reduceEq,Int.reduceLT,Int.reduceLE,Int.reduceAdd,Int.reduceSub,Int.reduceMul,Int.reduceNeg,Int.reduceNe,reduceCtorEq,Int.reduceToNat,↓reduceIte]
      refine ⟨fun hne => no ?_, fun he => ⟨inR_of (by omega) (by omega), m.certs.length - (i + 1), by omega, i + 1, by omega, rfl, by omega, fun c hc => ?_, by simp⟩⟩
      · cases hb : certsOk m.certs with
        | false => rfl
        | true => exact absurd ((certsOk_all hb).2 _ hmem) hne
      · rw [List.take_succ_eq_append_getElem hil, List.mem_append, List.mem_singleton] at hc
        rcases hc with hc | rfl
        · exact hall c hc
        · exact he
    · refine no ?_
      cases hb : certsOk m.certs with
      | false => rfl
      | true => have := (certsOk_all hb).1; omega
  · have : i = m.certs.length := by omega
    subst this
    rw [List.take_length] at hall
    have hcok : certsOk m.certs = true := by
      simp only [certsOk, Bool.and_eq_true, decide_eq_true_eq, List.all_eq_true]
      exact ⟨h8, hall⟩
    have qn := p_rnum22 m.seq
    have qv := p_rnum22 m.value
    have qk := p_noask m.ask
    have qa := p_rasks m.ask hs.2.1
    simp only [vQ, qC] at qa qk
    have qw := p_rwmay m.word (by have := hs.2.2.1; omega)
    simp only [J_ref22_fits_j1, wk,if_true,if_false,forall_const,implies_true,ne_eq,eq_self,Nat.reduceEqDiff,Nat.reduceAdd,Nat.reduceMul,Nat.reduceSub,Nat.reduceLeDiff,Nat.reduceLT,Int.reduceEq,Int.reduceLT,Int.reduceLE,Int.reduceAdd,Int.reduceSub,Int.reduceMul,Int.reduceNeg,Int.reduceNe,reduceCtorEq,Int.reduceToNat,↓reduceIte]
    have key : fitsE m = (if m.kind = 1 then chanOk m && (decide (m.seq = 0) && (noAsk m.ask && (replyNo m && decide (m.word = ⟨#[]⟩))))
      else if m.kind = 2 then chanOk m && (numOk m.seq && (asksE m.ask && (replyNo m && (decide (m.word = ⟨#[]⟩) && decide (m.certs.length = 0)))))
      else if m.kind = 3 then chanOk m && (numOk m.seq && (noAsk m.ask && (decide (0 ≤ m.err ∧ m.err ≤ 100) && (numOk m.value && (decide (m.word = ⟨#[]⟩) && decide (m.certs.length = 0))))))
      else if m.kind = 4 then decide (m.chan = 0 ∧ m.seq = 0) && (noAsk m.ask && (replyNo m && (wordMay m.word && decide (m.certs.length = 0))))
      else if m.kind = 5 then decide (m.chan = 0 ∧ m.seq = 0) && (noAsk m.ask && (replyNo m && decide (m.word = ⟨#[]⟩)))
      else false) := by
      simp only [fitsE, hcok, Bool.true_and, List.length_eq_zero_iff]
    have kk : chanOk m = (decide (16384 ≤ (m.chan : Int)) && decide ((m.chan : Int) < 24576)) := by
      rw [Bool.eq_iff_iff]; simp only [chanOk, Bool.and_eq_true, decide_eq_true_eq]; omega
    have k0 : decide (m.chan = 0 ∧ m.seq = 0) = (decide ((m.chan : Int) = 0) && decide (m.seq = 0)) := by
      rw [Bool.eq_iff_iff]; simp only [Bool.and_eq_true, decide_eq_true_eq]; omega
    have kl : decide (m.certs.length = 0) = decide ((m.certs.length : Int) = 0) := by
      rw [Bool.eq_iff_iff]; simp only [decide_eq_true_eq]; omega
    rw [key, kk, k0, kl]
    have kr : replyNo m = (decide (m.err = 0) && decide (m.value = 0)) := by
      rw [Bool.eq_iff_iff]; simp only [replyNo, Bool.and_eq_true, decide_eq_true_eq]
    have ke : decide (0 ≤ m.err ∧ m.err ≤ 100) = (decide (0 ≤ m.err) && decide (m.err ≤ 100)) := by
      rw [Bool.eq_iff_iff]; simp only [Bool.and_eq_true, decide_eq_true_eq]
    rw [kr, ke]
    clear key kk k0 kl kr ke no
    repeat' (first | (refine PCalls.use qn ?_; simp only [wk,if_true,if_false,forall_const,implies_true,ne_eq,eq_self,Nat.reduceEqDiff,Nat.reduceAdd,Nat.reduceMul,Nat.reduceSub,Nat.reduceLeDiff,Nat.reduceLT,Int.reduceEq,Int.reduceLT,Int.reduceLE,Int.reduceAdd,Int.reduceSub,Int.reduceMul,Int.reduceNeg,Int.reduceNe,reduceCtorEq,Int.reduceToNat,↓reduceIte]) | (refine PCalls.use qv ?_; simp only [wk,if_true,if_false,forall_const,implies_true,ne_eq,eq_self,Nat.reduceEqDiff,Nat.reduceAdd,Nat.reduceMul,Nat.reduceSub,Nat.reduceLeDiff,Nat.reduceLT,Int.reduceEq,Int.reduceLT,Int.reduceLE,Int.reduceAdd,Int.reduceSub,Int.reduceMul,Int.reduceNeg,Int.reduceNe,reduceCtorEq,Int.reduceToNat,↓reduceIte]) | (refine PCalls.use qk ?_; simp only [wk,if_true,if_false,forall_const,implies_true,ne_eq,eq_self,Nat.reduceEqDiff,Nat.reduceAdd,Nat.reduceMul,Nat.reduceSub,Nat.reduceLeDiff,Nat.reduceLT,Int.reduceEq,Int.reduceLT,Int.reduceLE,Int.reduceAdd,Int.reduceSub,Int.reduceMul,Int.reduceNeg,Int.reduceNe,reduceCtorEq,Int.reduceToNat,↓reduceIte]) | (refine PCalls.use qa ?_; simp only [wk,if_true,if_false,forall_const,implies_true,ne_eq,eq_self,Nat.reduceEqDiff,Nat.reduceAdd,Nat.reduceMul,Nat.reduceSub,Nat.reduceLeDiff,Nat.reduceLT,Int.reduceEq,Int.reduceLT,Int.reduceLE,Int.reduceAdd,Int.reduceSub,Int.reduceMul,Int.reduceNeg,Int.reduceNe,reduceCtorEq,Int.reduceToNat,↓reduceIte]) | (refine PCalls.use qw ?_; simp only [wk,if_true,if_false,forall_const,implies_true,ne_eq,eq_self,Nat.reduceEqDiff,Nat.reduceAdd,Nat.reduceMul,Nat.reduceSub,Nat.reduceLeDiff,Nat.reduceLT,Int.reduceEq,Int.reduceLT,Int.reduceLE,Int.reduceAdd,Int.reduceSub,Int.reduceMul,Int.reduceNeg,Int.reduceNe,reduceCtorEq,Int.reduceToNat,↓reduceIte]) | (refine And.intro ?_ ?_) | intro _)
    all_goals first
      | (refine bool_eq ?_; simp_all; done)
      | (refine bool_eq ?_; simp_all; omega)
end Go.Proofs.YtpjlkefadnbgdaaGreat

/- The document's bytes of messages. -/
namespace Go.Proofs.YtpjlkefadnbgdaaGreat
set_option linter.unusedSimpArgs false
set_option linter.unusedVariables false
open Go.RowKit Go.Lib

end Go.Proofs.YtpjlkefadnbgdaaGreat

/- The document's Encode, May, Mac of messages. -/
namespace Go.Proofs.YtpjlkefadnbgdaaGreat
set_option linter.unusedSimpArgs false
set_option linter.unusedVariables false
open Go.RowKit Go.Lib

end Go.Proofs.YtpjlkefadnbgdaaGreat

/- The document's Decode of messages. -/
namespace Go.Proofs.YtpjlkefadnbgdaaGreat
set_option linter.unusedSimpArgs false
set_option linter.unusedVariables false
open Go.RowKit Go.Lib

theorem b_text' {h : Hp} {id : Nat} {S : ByteArray} {s : Bool × Nat} (most : Int) (ho : h[id]? = some (jObj S s)) (hs : S.size ≤ 1000000) (hp : s.2 ≤ S.size) {r : Option (ByteArray × Nat)} (e : r = rT S most s) :
    ACalls Tryz.prog 55 [.ptr id 0, .int .i64 most] h (fun a h' => a = .str (nS r) ∧ ∃ q, q ≤ S.size ∧ h' = h.set id (jObj S (stO r q))) := by
  have := r_itext most ho (by omega) hp
  rw [show (if s.1 = true then none else rText S most s.2) = rT S most s from rfl, ← e, vS_n] at this
  exact this
theorem rCrtF_none {S : ByteArray} {p : Nat} {F : List Crt → Nat → Option Lm} (h : ∀ l q, F l q = none) : rCrtF S p F = none := by
  unfold rCrtF
  cases rNum S 8 p with
  | none => rfl
  | some x =>
    simp only [bd]
    cases rMany (rCrt S) x.2 x.1 with
    | none => rfl
    | some y => exact h _ _
theorem rdp_fL (r : Option (List ByteArray × Nat)) (n : Nat) (l : List AV) : rdp (.lst (fL r) n l) = .lst .ro n (rdps l) := by cases r <;> simp only [fL, rdpw]
theorem certsC_nil : certsC [] = [] := rfl
set_option maxRecDepth 100000 in
set_option maxHeartbeats 64000000 in
theorem p_rdec22 (S : ByteArray) : PCalls Tryz.prog 20 [.str S] (vDec (decM S)) := by
  rw [← dec_sameM S (mo := 1048576) (me := 1048576) (by decide) (by decide)]
  refine pcalls_of rfl (free_vDec _) (ACalls.deep (acalls_of mixed J_ref22_Decode_ok (Nat.le_of_ble_eq_true rfl) ?_)); simp only [J_ref22_Decode, wk,if_true,if_false,forall_const,implies_true,ne_eq,eq_self,Nat.reduceEqDiff,Nat.reduceAdd,Nat.reduceMul,Nat.reduceSub,Nat.reduceLeDiff,Nat.reduceLT,Int.reduceEq,Int.reduceLT,Int.reduceLE,Int.reduceAdd,Int.reduceSub,Int.reduceMul,Int.reduceNeg,Int.reduceNe,reduceCtorEq,Int.reduceToNat,↓reduceIte]
  obtain ⟨D, hDD⟩ : ∃ D, D = decP2 S 1048576 1048576 := ⟨_, rfl⟩
  rw [← hDD]
  have zero : (rdp (.tup [.agg [.int .i64 0, .int .u16 0, .int .i64 0, .int .i64 0, .int .i64 0, .int .i64 0, .int .i64 0, .lst .clip 0 [], .int .i64 0, .int .i64 0, .str ⟨#[]⟩, .lst .clip 0 []], .int .i64 2]) : AV) = vDec none := by
    (simp only [rdpw, vDec, vM, mC, zeroM, zeroQ, certsC, List.flatMap_nil, List.length_nil, List.map_nil]) <;> rfl
  refine ⟨fun hg => ?_, fun hg => ?_⟩
  · have : D = none := by rw [hDD]; unfold decP2; rw [if_pos (by omega)]
    rw [this]
    simp only [valL, wk,if_true,if_false,forall_const,implies_true,ne_eq,eq_self,Nat.reduceEqDiff,Nat.reduceAdd,Nat.reduceMul,Nat.reduceSub,Nat.reduceLeDiff,Nat.reduceLT,Int.reduceEq,Int.reduceLT,Int.reduceLE,Int.reduceAdd,Int.reduceSub,Int.reduceMul,Int.reduceNeg,Int.reduceNe,reduceCtorEq,Int.reduceToNat,↓reduceIte]
    exact zero
  have hs : S.size ≤ 4000 := by omega
  have hS : S.size ≤ 1000000 := by omega
  obtain ⟨r1, e1⟩ : ∃ r, r = rN S 5 (false, 0) := ⟨_, rfl⟩
  obtain ⟨s1, d1⟩ : ∃ s', s' = stO r1 (jStop S (false, 0)) := ⟨_, rfl⟩
  have b1 : s1.2 ≤ S.size := by rw [d1, e1]; exact rN_le (Nat.zero_le _) (jStop_le (Nat.zero_le _))
  have n1 : nI r1 ≤ 5 := by have := (nI_le (S := S) (m := 5) (s := (false, 0)) (Nat.zero_le _)).2 (by omega); rw [← e1] at this; omega
  refine ACalls.use (b_num' (S := S) (s := (false, 0)) 5 rfl hS (Nat.zero_le _) e1 d1) ?_; rintro _ _ ⟨rfl, rfl⟩; simp only [wk,if_true,if_false,forall_const,implies_true,ne_eq,eq_self,Nat.reduceEqDiff,Nat.reduceAdd,Nat.reduceMul,Nat.reduceSub,Nat.reduceLeDiff,Nat.reduceLT,Int.reduceEq,Int.reduceLT,Int.reduceLE,Int.reduceAdd,Int.reduceSub,Int.reduceMul,Int.reduceNeg,Int.reduceNe,reduceCtorEq,Int.reduceToNat,↓reduceIte]
  have h0 : D = if (false, 0).1 = true then none else bd (rNum S 5 (false, 0).2) fun k p => dKind S 1048576 1048576 k p := by
    rw [hDD]
    unfold decP2
    rw [if_neg (by omega)]
    simp
  have h1 := bdN (jStop S (false, 0)) h0 e1
  rw [← d1] at h1
  simp only [dKind] at h1
  refine ⟨fun kle => ?_, fun kgt => ?_⟩
  · obtain ⟨r2, e2⟩ : ∃ r, r = rN S 65535 s1 := ⟨_, rfl⟩
    obtain ⟨s2, d2⟩ : ∃ s, s = stO r2 (jStop S s1) := ⟨_, rfl⟩
    have b2 : s2.2 ≤ S.size := by rw [d2, e2]; exact rN_le b1 (jStop_le b1)
    have n2 : nI r2 ≤ 65535 := by have := (nI_le (S := S) (m := 65535) b1).2 (by omega); rw [← e2] at this; omega
    refine ACalls.use (b_num' (S := S) (s := s1) 65535 rfl hS b1 e2 d2) ?_; rintro _ _ ⟨rfl, rfl⟩; simp only [wk,if_true,if_false,forall_const,implies_true,ne_eq,eq_self,Nat.reduceEqDiff,Nat.reduceAdd,Nat.reduceMul,Nat.reduceSub,Nat.reduceLeDiff,Nat.reduceLT,Int.reduceEq,Int.reduceLT,Int.reduceLE,Int.reduceAdd,Int.reduceSub,Int.reduceMul,Int.reduceNeg,Int.reduceNe,reduceCtorEq,Int.reduceToNat,↓reduceIte, wrap16 (show nI r2 < 65536 by omega)]
    simp only [J_ref22_Decode_j3, wk,if_true,if_false,forall_const,implies_true,ne_eq,eq_self,Nat.reduceEqDiff,Nat.reduceAdd,Nat.reduceMul,Nat.reduceSub,Nat.reduceLeDiff,Nat.reduceLT,Int.reduceEq,Int.reduceLT,Int.reduceLE,Int.reduceAdd,Int.reduceSub,Int.reduceMul,Int.reduceNeg,Int.reduceNe,reduceCtorEq,Int.reduceToNat,↓reduceIte]
    refine ⟨fun k2 => ?_, fun k2 => ⟨fun k3 => ?_, fun k3 => ⟨fun k4 => by omega, fun k4 => ?_⟩⟩⟩
    · have h2 := bdN (F := fun g p => bd (rNum S big p) fun s p => rAskF S 1048576 1048576 p fun q p => finM S ⟨2, g, s, q, 0, 0, ⟨#[]⟩, []⟩ p) (jStop S s1) (h1.trans (by rw [if_neg (show ¬ nI r1 = 1 by omega), if_pos (show nI r1 = 2 by omega)]; rfl)) e2
      rw [← d2] at h2
      obtain ⟨r3, e3⟩ : ∃ r, r = rN S 4611686018427387904 s2 := ⟨_, rfl⟩
      obtain ⟨s3, d3⟩ : ∃ s, s = stO r3 (jStop S s2) := ⟨_, rfl⟩
      have b3 : s3.2 ≤ S.size := by rw [d3, e3]; exact rN_le b2 (jStop_le b2)
      refine ACalls.use (b_num' (S := S) (s := s2) 4611686018427387904 rfl hS b2 e3 d3) ?_; rintro _ _ ⟨rfl, rfl⟩; simp only [wk,if_true,if_false,forall_const,implies_true,ne_eq,eq_self,Nat.reduceEqDiff,Nat.reduceAdd,Nat.reduceMul,Nat.reduceSub,Nat.reduceLeDiff,Nat.reduceLT,Int.reduceEq,Int.reduceLT,Int.reduceLE,Int.reduceAdd,Int.reduceSub,Int.reduceMul,Int.reduceNeg,Int.reduceNe,reduceCtorEq,Int.reduceToNat,↓reduceIte]
      obtain ⟨r4, e4⟩ : ∃ r, r = rN S 1048576 s3 := ⟨_, rfl⟩
      obtain ⟨s4, d4⟩ : ∃ s, s = stO r4 (jStop S s3) := ⟨_, rfl⟩
      have b4 : s4.2 ≤ S.size := by rw [d4, e4]; exact rN_le b3 (jStop_le b3)
      refine ACalls.use (b_num' (S := S) (s := s3) 1048576 rfl hS b3 e4 d4) ?_; rintro _ _ ⟨rfl, rfl⟩; simp only [wk,if_true,if_false,forall_const,implies_true,ne_eq,eq_self,Nat.reduceEqDiff,Nat.reduceAdd,Nat.reduceMul,Nat.reduceSub,Nat.reduceLeDiff,Nat.reduceLT,Int.reduceEq,Int.reduceLT,Int.reduceLE,Int.reduceAdd,Int.reduceSub,Int.reduceMul,Int.reduceNeg,Int.reduceNe,reduceCtorEq,Int.reduceToNat,↓reduceIte]
      obtain ⟨r5, e5⟩ : ∃ r, r = rN S 3 s4 := ⟨_, rfl⟩
      obtain ⟨s5, d5⟩ : ∃ s, s = stO r5 (jStop S s4) := ⟨_, rfl⟩
      have b5 : s5.2 ≤ S.size := by rw [d5, e5]; exact rN_le b4 (jStop_le b4)
      have n5 : nI r5 ≤ 3 := by have := (nI_le (S := S) (m := 3) b4).2 (by omega); rw [← e5] at this; omega
      refine ACalls.use (b_num' (S := S) (s := s4) 3 rfl hS b4 e5 d5) ?_; rintro _ _ ⟨rfl, rfl⟩; simp only [wk,if_true,if_false,forall_const,implies_true,ne_eq,eq_self,Nat.reduceEqDiff,Nat.reduceAdd,Nat.reduceMul,Nat.reduceSub,Nat.reduceLeDiff,Nat.reduceLT,Int.reduceEq,Int.reduceLT,Int.reduceLE,Int.reduceAdd,Int.reduceSub,Int.reduceMul,Int.reduceNeg,Int.reduceNe,reduceCtorEq,Int.reduceToNat,↓reduceIte]
      obtain ⟨r6, e6⟩ : ∃ r, r = rN S 4611686018427387904 s5 := ⟨_, rfl⟩
      obtain ⟨s6, d6⟩ : ∃ s, s = stO r6 (jStop S s5) := ⟨_, rfl⟩
      have b6 : s6.2 ≤ S.size := by rw [d6, e6]; exact rN_le b5 (jStop_le b5)
      refine ACalls.use (b_num' (S := S) (s := s5) 4611686018427387904 rfl hS b5 e6 d6) ?_; rintro _ _ ⟨rfl, rfl⟩; simp only [wk,if_true,if_false,forall_const,implies_true,ne_eq,eq_self,Nat.reduceEqDiff,Nat.reduceAdd,Nat.reduceMul,Nat.reduceSub,Nat.reduceLeDiff,Nat.reduceLT,Int.reduceEq,Int.reduceLT,Int.reduceLE,Int.reduceAdd,Int.reduceSub,Int.reduceMul,Int.reduceNeg,Int.reduceNe,reduceCtorEq,Int.reduceToNat,↓reduceIte]
      have h3 := bdN (jStop S s2) h2 e3
      rw [← d3] at h3
      have h4 := bdN (jStop S s3) h3 e4
      rw [← d4] at h4
      have h5 := bdN (jStop S s4) h4 e5
      rw [← d5] at h5
      have h6 := bdN (jStop S s5) h5 e6
      rw [← d6] at h6
      refine ⟨fun h2op => ?_, fun h2op => ?_⟩
      · rw [if_pos (show 2 ≤ nI r5 by omega)] at h6
        obtain ⟨r7, e7⟩ : ∃ r, r = rN S 1048576 s6 := ⟨_, rfl⟩
        obtain ⟨s7, d7⟩ : ∃ s, s = stO r7 (jStop S s6) := ⟨_, rfl⟩
        have b7 : s7.2 ≤ S.size := by rw [d7, e7]; exact rN_le b6 (jStop_le b6)
        refine ACalls.use (b_num' (S := S) (s := s6) 1048576 rfl hS b6 e7 d7) ?_; rintro _ _ ⟨rfl, rfl⟩; simp only [wk,if_true,if_false,forall_const,implies_true,ne_eq,eq_self,Nat.reduceEqDiff,Nat.reduceAdd,Nat.reduceMul,Nat.reduceSub,Nat.reduceLeDiff,Nat.reduceLT,Int.reduceEq,Int.reduceLT,Int.reduceLE,Int.reduceAdd,Int.reduceSub,Int.reduceMul,Int.reduceNeg,Int.reduceNe,reduceCtorEq,Int.reduceToNat,↓reduceIte]
        obtain ⟨r8, e8⟩ : ∃ r, r = rL S s7 := ⟨_, rfl⟩
        refine ACalls.use (b_set' (id := 2) (s := s7) rfl hS b7 e8) ?_
        rintro _ _ ⟨rfl, q8, hq8, rfl⟩
        obtain ⟨s8, d8⟩ : ∃ s, s = stO r8 q8 := ⟨_, rfl⟩
        rw [← d8]
        have b8 : s8.2 ≤ S.size := by rw [d8, e8]; exact rL_le hq8
        have h7 := bdN (jStop S s6) h6 e7
        rw [← d7] at h7
        have h8 := bdL q8 h7 e8
        rw [← d8] at h8
        simp only [deg_fL, wk,if_true,if_false,forall_const,implies_true,ne_eq,eq_self,Nat.reduceEqDiff,Nat.reduceAdd,Nat.reduceMul,Nat.reduceSub,Nat.reduceLeDiff,Nat.reduceLT,Int.reduceEq,Int.reduceLT,Int.reduceLE,Int.reduceAdd,Int.reduceSub,Int.reduceMul,Int.reduceNeg,Int.reduceNe,reduceCtorEq,Int.reduceToNat,↓reduceIte]
        have hfin : D = if s8.1 = true then none else finM S ⟨nI r1, nI r2, nI r3, ⟨nI r4, nI r5, nI r6, ⟨nI r7, nL r8⟩⟩, 0, 0, ⟨#[]⟩, []⟩ s8.2 := by rw [k2]; exact h8
        simp only [J_ref22_Decode_j1, wk,if_true,if_false,forall_const,implies_true,ne_eq,eq_self,Nat.reduceEqDiff,Nat.reduceAdd,Nat.reduceMul,Nat.reduceSub,Nat.reduceLeDiff,Nat.reduceLT,Int.reduceEq,Int.reduceLT,Int.reduceLE,Int.reduceAdd,Int.reduceSub,Int.reduceMul,Int.reduceNeg,Int.reduceNe,reduceCtorEq,Int.reduceToNat,↓reduceIte]
        refine ACalls.use (r_idone (S := S) (s := s8) rfl (by omega) b8) ?_; rintro _ _ ⟨rfl, rfl⟩; simp only [wk,if_true,if_false,forall_const,implies_true,ne_eq,eq_self,Nat.reduceEqDiff,Nat.reduceAdd,Nat.reduceMul,Nat.reduceSub,Nat.reduceLeDiff,Nat.reduceLT,Int.reduceEq,Int.reduceLT,Int.reduceLE,Int.reduceAdd,Int.reduceSub,Int.reduceMul,Int.reduceNeg,Int.reduceNe,reduceCtorEq,Int.reduceToNat,↓reduceIte]
        cases hb : (s8.1 || decide (s8.2 < S.size)) with
        | true =>
          have hn : D = none := by
            rw [hfin]
            simp only [Bool.or_eq_true, decide_eq_true_eq] at hb
            rcases hb with hb | hb
            · simp [hb]
            · simp [finM, hb]
          rw [hn]
          simp only [eI, valL, wk,if_true,if_false,forall_const,implies_true,ne_eq,eq_self,Nat.reduceEqDiff,Nat.reduceAdd,Nat.reduceMul,Nat.reduceSub,Nat.reduceLeDiff,Nat.reduceLT,Int.reduceEq,Int.reduceLT,Int.reduceLE,Int.reduceAdd,Int.reduceSub,Int.reduceMul,Int.reduceNeg,Int.reduceNe,reduceCtorEq,Int.reduceToNat,↓reduceIte]
          exact zero
        | false =>
          simp only [Bool.or_eq_false_iff, decide_eq_false_iff_not] at hb
          have qf := p_fits22 ⟨nI r1, nI r2, nI r3, ⟨nI r4, nI r5, nI r6, ⟨nI r7, nL r8⟩⟩, 0, 0, ⟨#[]⟩, []⟩ ⟨by show nI r2 < 65536; omega, by rw [e8]; exact rL_small' _, Nat.zero_le _, Nat.zero_le _, fun c hc => by simp at hc⟩
          simp only [vM, mC, zeroQ, List.length_nil, List.map_nil, certsC_nil] at qf
          simp only [eI, deg_fL, wk,if_true,if_false,forall_const,implies_true,ne_eq,eq_self,Nat.reduceEqDiff,Nat.reduceAdd,Nat.reduceMul,Nat.reduceSub,Nat.reduceLeDiff,Nat.reduceLT,Int.reduceEq,Int.reduceLT,Int.reduceLE,Int.reduceAdd,Int.reduceSub,Int.reduceMul,Int.reduceNeg,Int.reduceNe,reduceCtorEq,Int.reduceToNat,↓reduceIte]
          refine PCalls.use (v := .bool (fitsE ⟨nI r1, nI r2, nI r3, ⟨nI r4, nI r5, nI r6, ⟨nI r7, nL r8⟩⟩, 0, 0, ⟨#[]⟩, []⟩)) (PCalls.argd ?_) ?_
          · simp only [rdpw, rdp_fL, rdps_str, rdps_certs]; exact qf
          simp only [wk,if_true,if_false,forall_const,implies_true,ne_eq,eq_self,Nat.reduceEqDiff,Nat.reduceAdd,Nat.reduceMul,Nat.reduceSub,Nat.reduceLeDiff,Nat.reduceLT,Int.reduceEq,Int.reduceLT,Int.reduceLE,Int.reduceAdd,Int.reduceSub,Int.reduceMul,Int.reduceNeg,Int.reduceNe,reduceCtorEq,Int.reduceToNat,↓reduceIte]
          refine ⟨fun hf => ?_, fun hf => ?_⟩
          · have hn : D = none := by rw [hfin]; simp [finM, hf]
            rw [hn]
            simp only [valL, deg_fL, wk,if_true,if_false,forall_const,implies_true,ne_eq,eq_self,Nat.reduceEqDiff,Nat.reduceAdd,Nat.reduceMul,Nat.reduceSub,Nat.reduceLeDiff,Nat.reduceLT,Int.reduceEq,Int.reduceLT,Int.reduceLE,Int.reduceAdd,Int.reduceSub,Int.reduceMul,Int.reduceNeg,Int.reduceNe,reduceCtorEq,Int.reduceToNat,↓reduceIte]
            exact zero
          · have hn : D = some ⟨nI r1, nI r2, nI r3, ⟨nI r4, nI r5, nI r6, ⟨nI r7, nL r8⟩⟩, 0, 0, ⟨#[]⟩, []⟩ := by rw [hfin, hb.1]; simp [finM, hb.2, hf]
            rw [hn]
            simp only [valL, deg_fL, wk,if_true,if_false,forall_const,implies_true,ne_eq,eq_self,Nat.reduceEqDiff,Nat.reduceAdd,Nat.reduceMul,Nat.reduceSub,Nat.reduceLeDiff,Nat.reduceLT,Int.reduceEq,Int.reduceLT,Int.reduceLE,Int.reduceAdd,Int.reduceSub,Int.reduceMul,Int.reduceNeg,Int.reduceNe,reduceCtorEq,Int.reduceToNat,↓reduceIte]
            (simp only [vDec, vM, mC, zeroQ, List.length_nil, List.map_nil, certsC_nil, rdpw, rdp_fL, rdps_str, rdps_certs]) <;> rfl
      · rw [if_neg (show ¬ 2 ≤ nI r5 by omega)] at h6
        have hfin : D = if s6.1 = true then none else finM S ⟨nI r1, nI r2, nI r3, ⟨nI r4, nI r5, nI r6, ⟨0, []⟩⟩, 0, 0, ⟨#[]⟩, []⟩ s6.2 := by rw [k2]; exact h6
        simp only [J_ref22_Decode_j1, wk,if_true,if_false,forall_const,implies_true,ne_eq,eq_self,Nat.reduceEqDiff,Nat.reduceAdd,Nat.reduceMul,Nat.reduceSub,Nat.reduceLeDiff,Nat.reduceLT,Int.reduceEq,Int.reduceLT,Int.reduceLE,Int.reduceAdd,Int.reduceSub,Int.reduceMul,Int.reduceNeg,Int.reduceNe,reduceCtorEq,Int.reduceToNat,↓reduceIte]
        refine ACalls.use (r_idone (S := S) (s := s6) rfl (by omega) b6) ?_; rintro _ _ ⟨rfl, rfl⟩; simp only [wk,if_true,if_false,forall_const,implies_true,ne_eq,eq_self,Nat.reduceEqDiff,Nat.reduceAdd,Nat.reduceMul,Nat.reduceSub,Nat.reduceLeDiff,Nat.reduceLT,Int.reduceEq,Int.reduceLT,Int.reduceLE,Int.reduceAdd,Int.reduceSub,Int.reduceMul,Int.reduceNeg,Int.reduceNe,reduceCtorEq,Int.reduceToNat,↓reduceIte]
        cases hb : (s6.1 || decide (s6.2 < S.size)) with
        | true =>
          have hn : D = none := by
            rw [hfin]
            simp only [Bool.or_eq_true, decide_eq_true_eq] at hb
            rcases hb with hb | hb
            · simp [hb]
            · simp [finM, hb]
          rw [hn]
          simp only [eI, valL, wk,if_true,if_false,forall_const,implies_true,ne_eq,eq_self,Nat.reduceEqDiff,Nat.reduceAdd,Nat.reduceMul,Nat.reduceSub,Nat.reduceLeDiff,Nat.reduceLT,Int.reduceEq,Int.reduceLT,Int.reduceLE,Int.reduceAdd,Int.reduceSub,Int.reduceMul,Int.reduceNeg,Int.reduceNe,reduceCtorEq,Int.reduceToNat,↓reduceIte]
          exact zero
        | false =>
          simp only [Bool.or_eq_false_iff, decide_eq_false_iff_not] at hb
          have qf := p_fits22 ⟨nI r1, nI r2, nI r3, ⟨nI r4, nI r5, nI r6, ⟨0, []⟩⟩, 0, 0, ⟨#[]⟩, []⟩ ⟨by show nI r2 < 65536; omega, smallE_0 0, Nat.zero_le _, Nat.zero_le _, fun c hc => by simp at hc⟩
          simp only [vM, mC, zeroQ, List.length_nil, List.map_nil, certsC_nil] at qf
          simp only [eI, wk,if_true,if_false,forall_const,implies_true,ne_eq,eq_self,Nat.reduceEqDiff,Nat.reduceAdd,Nat.reduceMul,Nat.reduceSub,Nat.reduceLeDiff,Nat.reduceLT,Int.reduceEq,Int.reduceLT,Int.reduceLE,Int.reduceAdd,Int.reduceSub,Int.reduceMul,Int.reduceNeg,Int.reduceNe,reduceCtorEq,Int.reduceToNat,↓reduceIte]
          refine PCalls.use (v := .bool (fitsE ⟨nI r1, nI r2, nI r3, ⟨nI r4, nI r5, nI r6, ⟨0, []⟩⟩, 0, 0, ⟨#[]⟩, []⟩)) (PCalls.argd ?_) ?_
          · simp only [rdpw, rdp_fL, rdps_str, rdps_certs]; exact qf
          simp only [wk,if_true,if_false,forall_const,implies_true,ne_eq,eq_self,Nat.reduceEqDiff,Nat.reduceAdd,Nat.reduceMul,Nat.reduceSub,Nat.reduceLeDiff,Nat.reduceLT,Int.reduceEq,Int.reduceLT,Int.reduceLE,Int.reduceAdd,Int.reduceSub,Int.reduceMul,Int.reduceNeg,Int.reduceNe,reduceCtorEq,Int.reduceToNat,↓reduceIte]
          refine ⟨fun hf => ?_, fun hf => ?_⟩
          · have hn : D = none := by rw [hfin]; simp [finM, hf]
            rw [hn]
            simp only [valL, wk,if_true,if_false,forall_const,implies_true,ne_eq,eq_self,Nat.reduceEqDiff,Nat.reduceAdd,Nat.reduceMul,Nat.reduceSub,Nat.reduceLeDiff,Nat.reduceLT,Int.reduceEq,Int.reduceLT,Int.reduceLE,Int.reduceAdd,Int.reduceSub,Int.reduceMul,Int.reduceNeg,Int.reduceNe,reduceCtorEq,Int.reduceToNat,↓reduceIte]
            exact zero
          · have hn : D = some ⟨nI r1, nI r2, nI r3, ⟨nI r4, nI r5, nI r6, ⟨0, []⟩⟩, 0, 0, ⟨#[]⟩, []⟩ := by rw [hfin, hb.1]; simp [finM, hb.2, hf]
            rw [hn]
            simp only [valL, wk,if_true,if_false,forall_const,implies_true,ne_eq,eq_self,Nat.reduceEqDiff,Nat.reduceAdd,Nat.reduceMul,Nat.reduceSub,Nat.reduceLeDiff,Nat.reduceLT,Int.reduceEq,Int.reduceLT,Int.reduceLE,Int.reduceAdd,Int.reduceSub,Int.reduceMul,Int.reduceNeg,Int.reduceNe,reduceCtorEq,Int.reduceToNat,↓reduceIte]
            (simp only [vDec, vM, mC, zeroQ, List.length_nil, List.map_nil, certsC_nil, rdpw, rdp_fL, rdps_str, rdps_certs]) <;> rfl
    · have h2 := bdN (F := fun g p => bd (rNum S big p) fun s p => bd (rNum S 100 p) fun e p => bd (rNum S big p) fun v p => finM S ⟨3, g, s, zeroQ, e, v, ⟨#[]⟩, []⟩ p) (jStop S s1) (h1.trans (by rw [if_neg (show ¬ nI r1 = 1 by omega), if_neg (show ¬ nI r1 = 2 by omega), if_pos (show nI r1 = 3 by omega)]; rfl)) e2
      rw [← d2] at h2
      obtain ⟨r3, e3⟩ : ∃ r, r = rN S 4611686018427387904 s2 := ⟨_, rfl⟩
      obtain ⟨s3, d3⟩ : ∃ s, s = stO r3 (jStop S s2) := ⟨_, rfl⟩
      have b3 : s3.2 ≤ S.size := by rw [d3, e3]; exact rN_le b2 (jStop_le b2)
      refine ACalls.use (b_num' (S := S) (s := s2) 4611686018427387904 rfl hS b2 e3 d3) ?_; rintro _ _ ⟨rfl, rfl⟩; simp only [wk,if_true,if_false,forall_const,implies_true,ne_eq,eq_self,Nat.reduceEqDiff,Nat.reduceAdd,Nat.reduceMul,Nat.reduceSub,Nat.reduceLeDiff,Nat.reduceLT,Int.reduceEq,Int.reduceLT,Int.reduceLE,Int.reduceAdd,Int.reduceSub,Int.reduceMul,Int.reduceNeg,Int.reduceNe,reduceCtorEq,Int.reduceToNat,↓reduceIte]
      obtain ⟨r4, e4⟩ : ∃ r, r = rN S 100 s3 := ⟨_, rfl⟩
      obtain ⟨s4, d4⟩ : ∃ s, s = stO r4 (jStop S s3) := ⟨_, rfl⟩
      have b4 : s4.2 ≤ S.size := by rw [d4, e4]; exact rN_le b3 (jStop_le b3)
      refine ACalls.use (b_num' (S := S) (s := s3) 100 rfl hS b3 e4 d4) ?_; rintro _ _ ⟨rfl, rfl⟩; simp only [wk,if_true,if_false,forall_const,implies_true,ne_eq,eq_self,Nat.reduceEqDiff,Nat.reduceAdd,Nat.reduceMul,Nat.reduceSub,Nat.reduceLeDiff,Nat.reduceLT,Int.reduceEq,Int.reduceLT,Int.reduceLE,Int.reduceAdd,Int.reduceSub,Int.reduceMul,Int.reduceNeg,Int.reduceNe,reduceCtorEq,Int.reduceToNat,↓reduceIte]
      obtain ⟨r5, e5⟩ : ∃ r, r = rN S 4611686018427387904 s4 := ⟨_, rfl⟩
      obtain ⟨s5, d5⟩ : ∃ s, s = stO r5 (jStop S s4) := ⟨_, rfl⟩
      have b5 : s5.2 ≤ S.size := by rw [d5, e5]; exact rN_le b4 (jStop_le b4)
      refine ACalls.use (b_num' (S := S) (s := s4) 4611686018427387904 rfl hS b4 e5 d5) ?_; rintro _ _ ⟨rfl, rfl⟩; simp only [wk,if_true,if_false,forall_const,implies_true,ne_eq,eq_self,Nat.reduceEqDiff,Nat.reduceAdd,Nat.reduceMul,Nat.reduceSub,Nat.reduceLeDiff,Nat.reduceLT,Int.reduceEq,Int.reduceLT,Int.reduceLE,Int.reduceAdd,Int.reduceSub,Int.reduceMul,Int.reduceNeg,Int.reduceNe,reduceCtorEq,Int.reduceToNat,↓reduceIte]
      have h3 := bdN (jStop S s2) h2 e3
      rw [← d3] at h3
      have h4 := bdN (jStop S s3) h3 e4
      rw [← d4] at h4
      have h5 := bdN (jStop S s4) h4 e5
      rw [← d5] at h5
      have hfin : D = if s5.1 = true then none else finM S ⟨nI r1, nI r2, nI r3, zeroQ, nI r4, nI r5, ⟨#[]⟩, []⟩ s5.2 := by rw [k3]; exact h5
      simp only [J_ref22_Decode_j1, wk,if_true,if_false,forall_const,implies_true,ne_eq,eq_self,Nat.reduceEqDiff,Nat.reduceAdd,Nat.reduceMul,Nat.reduceSub,Nat.reduceLeDiff,Nat.reduceLT,Int.reduceEq,Int.reduceLT,Int.reduceLE,Int.reduceAdd,Int.reduceSub,Int.reduceMul,Int.reduceNeg,Int.reduceNe,reduceCtorEq,Int.reduceToNat,↓reduceIte]
      refine ACalls.use (r_idone (S := S) (s := s5) rfl (by omega) b5) ?_; rintro _ _ ⟨rfl, rfl⟩; simp only [wk,if_true,if_false,forall_const,implies_true,ne_eq,eq_self,Nat.reduceEqDiff,Nat.reduceAdd,Nat.reduceMul,Nat.reduceSub,Nat.reduceLeDiff,Nat.reduceLT,Int.reduceEq,Int.reduceLT,Int.reduceLE,Int.reduceAdd,Int.reduceSub,Int.reduceMul,Int.reduceNeg,Int.reduceNe,reduceCtorEq,Int.reduceToNat,↓reduceIte]
      cases hb : (s5.1 || decide (s5.2 < S.size)) with
      | true =>
        have hn : D = none := by
          rw [hfin]
          simp only [Bool.or_eq_true, decide_eq_true_eq] at hb
          rcases hb with hb | hb
          · simp [hb]
          · simp [finM, hb]
        rw [hn]
        simp only [eI, valL, wk,if_true,if_false,forall_const,implies_true,ne_eq,eq_self,Nat.reduceEqDiff,Nat.reduceAdd,Nat.reduceMul,Nat.reduceSub,Nat.reduceLeDiff,Nat.reduceLT,Int.reduceEq,Int.reduceLT,Int.reduceLE,Int.reduceAdd,Int.reduceSub,Int.reduceMul,Int.reduceNeg,Int.reduceNe,reduceCtorEq,Int.reduceToNat,↓reduceIte]
        exact zero
      | false =>
        simp only [Bool.or_eq_false_iff, decide_eq_false_iff_not] at hb
        have qf := p_fits22 ⟨nI r1, nI r2, nI r3, zeroQ, nI r4, nI r5, ⟨#[]⟩, []⟩ (smallM_0 (by omega))
        simp only [vM, mC, zeroQ, List.length_nil, List.map_nil, certsC_nil] at qf
        simp only [eI, wk,if_true,if_false,forall_const,implies_true,ne_eq,eq_self,Nat.reduceEqDiff,Nat.reduceAdd,Nat.reduceMul,Nat.reduceSub,Nat.reduceLeDiff,Nat.reduceLT,Int.reduceEq,Int.reduceLT,Int.reduceLE,Int.reduceAdd,Int.reduceSub,Int.reduceMul,Int.reduceNeg,Int.reduceNe,reduceCtorEq,Int.reduceToNat,↓reduceIte]
        refine PCalls.use (v := .bool (fitsE ⟨nI r1, nI r2, nI r3, zeroQ, nI r4, nI r5, ⟨#[]⟩, []⟩)) (PCalls.argd ?_) ?_
        · simp only [rdpw, rdp_fL, rdps_str, rdps_certs]; exact qf
        simp only [wk,if_true,if_false,forall_const,implies_true,ne_eq,eq_self,Nat.reduceEqDiff,Nat.reduceAdd,Nat.reduceMul,Nat.reduceSub,Nat.reduceLeDiff,Nat.reduceLT,Int.reduceEq,Int.reduceLT,Int.reduceLE,Int.reduceAdd,Int.reduceSub,Int.reduceMul,Int.reduceNeg,Int.reduceNe,reduceCtorEq,Int.reduceToNat,↓reduceIte]
        refine ⟨fun hf => ?_, fun hf => ?_⟩
        · have hn : D = none := by rw [hfin]; simp [finM, hf]
          rw [hn]
          simp only [valL, wk,if_true,if_false,forall_const,implies_true,ne_eq,eq_self,Nat.reduceEqDiff,Nat.reduceAdd,Nat.reduceMul,Nat.reduceSub,Nat.reduceLeDiff,Nat.reduceLT,Int.reduceEq,Int.reduceLT,Int.reduceLE,Int.reduceAdd,Int.reduceSub,Int.reduceMul,Int.reduceNeg,Int.reduceNe,reduceCtorEq,Int.reduceToNat,↓reduceIte]
          exact zero
        · have hn : D = some ⟨nI r1, nI r2, nI r3, zeroQ, nI r4, nI r5, ⟨#[]⟩, []⟩ := by rw [hfin, hb.1]; simp [finM, hb.2, hf]
          rw [hn]
          simp only [valL, wk,if_true,if_false,forall_const,implies_true,ne_eq,eq_self,Nat.reduceEqDiff,Nat.reduceAdd,Nat.reduceMul,Nat.reduceSub,Nat.reduceLeDiff,Nat.reduceLT,Int.reduceEq,Int.reduceLT,Int.reduceLE,Int.reduceAdd,Int.reduceSub,Int.reduceMul,Int.reduceNeg,Int.reduceNe,reduceCtorEq,Int.reduceToNat,↓reduceIte]
          (simp only [vDec, vM, mC, zeroQ, List.length_nil, List.map_nil, certsC_nil, rdpw, rdp_fL, rdps_str, rdps_certs]) <;> rfl
    · have hD : D = if s2.1 = true then none else rCrtF S s2.2 (fun l p => finM S ⟨(nI r1 : Int), nI r2, 0, zeroQ, 0, 0, ⟨#[]⟩, l⟩ p) := by
        by_cases k1 : nI r1 = 1
        · have h2 := bdN (F := fun g p => rCrtF S p fun l p => finM S ⟨1, g, 0, zeroQ, 0, 0, ⟨#[]⟩, l⟩ p) (jStop S s1) (h1.trans (by rw [if_pos k1]; rfl)) e2
          rw [← d2] at h2
          rw [k1]
          exact h2
        · rw [if_neg k1, if_neg (show ¬ nI r1 = 2 by omega), if_neg (show ¬ nI r1 = 3 by omega), if_neg (show ¬ nI r1 = 4 by omega), if_neg (show ¬ nI r1 = 5 by omega)] at h1
          rw [h1, rCrtF_none (fun l q => finM_kind0 (by show (nI r1 : Int) = 0; omega))]
          simp
      obtain ⟨r3, e3⟩ : ∃ r, r = rN S 8 s2 := ⟨_, rfl⟩
      obtain ⟨s3, d3⟩ : ∃ s, s = stO r3 (jStop S s2) := ⟨_, rfl⟩
      have b3 : s3.2 ≤ S.size := by rw [d3, e3]; exact rN_le b2 (jStop_le b2)
      have n8 : nI r3 ≤ 8 := by have := (nI_le (S := S) (m := 8) b2).2 (by omega); rw [← e3] at this; omega
      have bad0 : s3.1 = true → nI r3 = 0 := by
        rw [d3]
        cases r3 with
        | none => intro _; rfl
        | some x => intro h; cases h
      refine ACalls.use (b_num' (S := S) (s := s2) 8 rfl hS b2 e3 d3) ?_; rintro _ _ ⟨rfl, rfl⟩; simp only [wk,if_true,if_false,forall_const,implies_true,ne_eq,eq_self,Nat.reduceEqDiff,Nat.reduceAdd,Nat.reduceMul,Nat.reduceSub,Nat.reduceLeDiff,Nat.reduceLT,Int.reduceEq,Int.reduceLT,Int.reduceLE,Int.reduceAdd,Int.reduceSub,Int.reduceMul,Int.reduceNeg,Int.reduceNe,reduceCtorEq,Int.reduceToNat,↓reduceIte]
      have h3 : D = if s3.1 = true then none else bd (rMany (rCrt S) s3.2 (nI r3)) (fun l p => finM S ⟨nI r1, nI r2, 0, zeroQ, 0, 0, ⟨#[]⟩, l⟩ p) := by
        have := bdN (jStop S s2) hD e3
        rw [← d3] at this
        exact this
      refine W_loop (fun n fr h' => ∃ (i : Nat) (ez : Hp) (st : Bool × Nat) (l : List Crt), i ≤ nI r3 ∧ n = nI r3 - i ∧ st.2 ≤ S.size ∧ l.length = i ∧ (∀ c ∈ l, smallC c) ∧ (s3.1 = false → st.1 = false ∧ rMany (rCrt S) s3.2 i = some (l, st.2)) ∧ (s3.1 = true → st.1 = true) ∧ h' = some (false, [.int .i64 0, .int .u16 0, .int .i64 0, .int .i64 0, .int .i64 0, .int .i64 0, .int .i64 0, .lst .clip 0 [], .int .i64 0, .int .i64 0, .str ⟨#[]⟩, .lst (.own 80) 0 []]) :: some (true, [.int .i64 0, .int .u16 0, .int .i64 0, .int .i64 0, .int .i64 0, .int .i64 0, .int .i64 0, .lst .clip 0 [], .int .i64 0, .int .i64 0, .str ⟨#[]⟩, .lst .clip 0 []]) :: jObj S st :: some (false, [.int .i64 (nI r1), .int .u16 (nI r2), .int .i64 0, .int .i64 0, .int .i64 0, .int .i64 0, .int .i64 0, .lst .clip 0 [], .int .i64 0, .int .i64 0, .str ⟨#[]⟩, .lst (.own 80) i (certsC l)]) :: ez ∧ fr = [(2, .ptr 0 0), (4, .ptr 1 0), (5, .ptr 2 0), (6, .ptr 3 0), (7, .int .i64 (nI r3)), (8, .int .i64 i)]) (nI r3) ⟨0, [], s3, [], by omega, by omega, b3, rfl, fun c hc => by simp at hc, fun h => ⟨h, by simp [rMany]⟩, fun h => h, rfl, rfl⟩ ?_
      rintro n fr h' ⟨i, ez, st, l, hi, rfl, hst, hll, hsm, hgood, hbad, rfl, rfl⟩
      simp only [J_ref22_Decode_j2, wk,if_true,if_false,forall_const,implies_true,ne_eq,eq_self,Nat.reduceEqDiff,Nat.reduceAdd,Nat.reduceMul,Nat.reduceSub,Nat.reduceLeDiff,Nat.reduceLT,Int.reduceEq,Int.reduceLT,Int.reduceLE,Int.reduceAdd,Int.reduceSub,Int.reduceMul,Int.reduceNeg,Int.reduceNe,reduceCtorEq,Int.reduceToNat,↓reduceIte]
      refine ⟨fun hlt => ?_, fun hge => ?_⟩
      · have hin : i < nI r3 := by omega
        have g1 : s3.1 = false := by cases h : s3.1 with | false => rfl | true => have := bad0 h; omega
        obtain ⟨g2, g3⟩ := hgood g1
        obtain ⟨r4, e4⟩ : ∃ r, r = rT S 4000 st := ⟨_, rfl⟩
        refine ACalls.use (b_text' (id := 2) (s := st) 4000 rfl hS hst e4) ?_
        rintro _ _ ⟨rfl, q4, hq4, rfl⟩
        obtain ⟨s4, d4⟩ : ∃ s, s = stO r4 q4 := ⟨_, rfl⟩
        rw [← d4]
        have b4 : s4.2 ≤ S.size := by rw [d4, e4]; exact rT_le hst hq4
        have z4 : (nS r4).size ≤ S.size := by rw [e4]; exact rT_size hst
        simp only [wk,if_true,if_false,forall_const,implies_true,ne_eq,eq_self,Nat.reduceEqDiff,Nat.reduceAdd,Nat.reduceMul,Nat.reduceSub,Nat.reduceLeDiff,Nat.reduceLT,Int.reduceEq,Int.reduceLT,Int.reduceLE,Int.reduceAdd,Int.reduceSub,Int.reduceMul,Int.reduceNeg,Int.reduceNe,reduceCtorEq,Int.reduceToNat,↓reduceIte]
        have qd := p_rcdec (nS r4) (by omega)
        cases hd : decE (nS r4) with
        | none =>
          rw [hd] at qd
          simp only [decV, vC, cC, zeroC, List.length_nil, List.map_nil] at qd
          refine PCalls.use (qd) ?_; simp only [wk,if_true,if_false,forall_const,implies_true,ne_eq,eq_self,Nat.reduceEqDiff,Nat.reduceAdd,Nat.reduceMul,Nat.reduceSub,Nat.reduceLeDiff,Nat.reduceLT,Int.reduceEq,Int.reduceLT,Int.reduceLE,Int.reduceAdd,Int.reduceSub,Int.reduceMul,Int.reduceNeg,Int.reduceNe,reduceCtorEq,Int.reduceToNat,↓reduceIte]
          have hn : rMany (rCrt S) s3.2 (i + 1) = none := by
            simp only [rMany, g3]
            have : rCrt S st.2 = none := by
              unfold rCrt
              unfold rT at e4
              rw [g2] at e4
              simp only [Bool.false_eq_true, if_false] at e4
              rw [← e4]
              cases r4 with
              | none => rfl
              | some x => simp only [bd]; simp only [nS] at hd; rw [hd]
            rw [this]
          have hnn : D = none := by
            rw [h3, g1, rMany_none (by omega) hn]
            rfl
          rw [hnn]
          simp only [valL, wk,if_true,if_false,forall_const,implies_true,ne_eq,eq_self,Nat.reduceEqDiff,Nat.reduceAdd,Nat.reduceMul,Nat.reduceSub,Nat.reduceLeDiff,Nat.reduceLT,Int.reduceEq,Int.reduceLT,Int.reduceLE,Int.reduceAdd,Int.reduceSub,Int.reduceMul,Int.reduceNeg,Int.reduceNe,reduceCtorEq,Int.reduceToNat,↓reduceIte]
          exact zero
        | some c =>
          rw [hd] at qd
          simp only [decV, vC, cC] at qd
          refine PCalls.use (qd) ?_; simp only [wk,if_true,if_false,forall_const,implies_true,ne_eq,eq_self,Nat.reduceEqDiff,Nat.reduceAdd,Nat.reduceMul,Nat.reduceSub,Nat.reduceLeDiff,Nat.reduceLT,Int.reduceEq,Int.reduceLT,Int.reduceLE,Int.reduceAdd,Int.reduceSub,Int.reduceMul,Int.reduceNeg,Int.reduceNe,reduceCtorEq,Int.reduceToNat,↓reduceIte]
          have hr : ∃ t p, r4 = some (t, p) := by
            cases r4 with
            | none => simp only [nS] at hd; rw [decE_empty] at hd; cases hd
            | some x => exact ⟨x.1, x.2, rfl⟩
          obtain ⟨t, p, rfl⟩ := hr
          have hs4 : s4 = (false, p) := d4
          have hrc : rCrt S st.2 = some (c, p) := by
            unfold rCrt
            unfold rT at e4
            rw [g2] at e4
            simp only [Bool.false_eq_true, if_false] at e4
            rw [← e4]
            simp only [bd]
            simp only [nS] at hd
            rw [hd]
          have hcs := (rCrt_fit hrc).2
          refine ⟨⟨by omega, by omega⟩, inR_of (by omega) (by omega), nI r3 - (i + 1), by omega, i + 1, ez ++ [some (true, cC c)], s4, l ++ [c], by omega, rfl, b4, by simp [hll], fun x hx => ?_, fun _ => ?_, fun h => ?_, ?_, ?_⟩
          · rw [List.mem_append, List.mem_singleton] at hx
            rcases hx with hx | rfl
            · exact hsm x hx
            · exact hcs
          · rw [hs4]
            exact ⟨rfl, by simp only [rMany, g3, hrc]⟩
          · rw [g1] at h; cases h
          · rw [certsC_sn]; rfl
          · simp
      · have : i = nI r3 := by omega
        subst this
        have hD2 : D = if st.1 = true then none else finM S ⟨nI r1, nI r2, 0, zeroQ, 0, 0, ⟨#[]⟩, l⟩ st.2 := by
          cases hs1 : s3.1 with
          | true => rw [hs1] at h3; rw [hbad hs1]; exact h3
          | false =>
            obtain ⟨g2, g3⟩ := hgood hs1
            rw [hs1, g3] at h3
            rw [g2]
            exact h3
        have hl8 : l.length = nI r3 := hll
        rw [← hl8]
        have hfin : D = if st.1 = true then none else finM S ⟨nI r1, nI r2, 0, zeroQ, 0, 0, ⟨#[]⟩, l⟩ st.2 := hD2
        simp only [J_ref22_Decode_j1, wk,if_true,if_false,forall_const,implies_true,ne_eq,eq_self,Nat.reduceEqDiff,Nat.reduceAdd,Nat.reduceMul,Nat.reduceSub,Nat.reduceLeDiff,Nat.reduceLT,Int.reduceEq,Int.reduceLT,Int.reduceLE,Int.reduceAdd,Int.reduceSub,Int.reduceMul,Int.reduceNeg,Int.reduceNe,reduceCtorEq,Int.reduceToNat,↓reduceIte]
        refine ACalls.use (r_idone (S := S) (s := st) rfl (by omega) hst) ?_; rintro _ _ ⟨rfl, rfl⟩; simp only [wk,if_true,if_false,forall_const,implies_true,ne_eq,eq_self,Nat.reduceEqDiff,Nat.reduceAdd,Nat.reduceMul,Nat.reduceSub,Nat.reduceLeDiff,Nat.reduceLT,Int.reduceEq,Int.reduceLT,Int.reduceLE,Int.reduceAdd,Int.reduceSub,Int.reduceMul,Int.reduceNeg,Int.reduceNe,reduceCtorEq,Int.reduceToNat,↓reduceIte]
        cases hb : (st.1 || decide (st.2 < S.size)) with
        | true =>
          have hn : D = none := by
            rw [hfin]
            simp only [Bool.or_eq_true, decide_eq_true_eq] at hb
            rcases hb with hb | hb
            · simp [hb]
            · simp [finM, hb]
          rw [hn]
          simp only [eI, valL, wk,if_true,if_false,forall_const,implies_true,ne_eq,eq_self,Nat.reduceEqDiff,Nat.reduceAdd,Nat.reduceMul,Nat.reduceSub,Nat.reduceLeDiff,Nat.reduceLT,Int.reduceEq,Int.reduceLT,Int.reduceLE,Int.reduceAdd,Int.reduceSub,Int.reduceMul,Int.reduceNeg,Int.reduceNe,reduceCtorEq,Int.reduceToNat,↓reduceIte]
          exact zero
        | false =>
          simp only [Bool.or_eq_false_iff, decide_eq_false_iff_not] at hb
          have qf := p_fits22 ⟨nI r1, nI r2, 0, zeroQ, 0, 0, ⟨#[]⟩, l⟩ ⟨by show (nI r2 : Nat) < 65536; omega, smallE_0 0, Nat.zero_le _, by show l.length ≤ 1000; omega, hsm⟩
          simp only [vM, mC, zeroQ, List.length_nil, List.map_nil, certsC_nil] at qf
          simp only [eI, wk,if_true,if_false,forall_const,implies_true,ne_eq,eq_self,Nat.reduceEqDiff,Nat.reduceAdd,Nat.reduceMul,Nat.reduceSub,Nat.reduceLeDiff,Nat.reduceLT,Int.reduceEq,Int.reduceLT,Int.reduceLE,Int.reduceAdd,Int.reduceSub,Int.reduceMul,Int.reduceNeg,Int.reduceNe,reduceCtorEq,Int.reduceToNat,↓reduceIte]
          refine PCalls.use (v := .bool (fitsE ⟨nI r1, nI r2, 0, zeroQ, 0, 0, ⟨#[]⟩, l⟩)) (PCalls.argd ?_) ?_
          · simp only [rdpw, rdp_fL, rdps_str, rdps_certs]; exact qf
          simp only [wk,if_true,if_false,forall_const,implies_true,ne_eq,eq_self,Nat.reduceEqDiff,Nat.reduceAdd,Nat.reduceMul,Nat.reduceSub,Nat.reduceLeDiff,Nat.reduceLT,Int.reduceEq,Int.reduceLT,Int.reduceLE,Int.reduceAdd,Int.reduceSub,Int.reduceMul,Int.reduceNeg,Int.reduceNe,reduceCtorEq,Int.reduceToNat,↓reduceIte]
          refine ⟨fun hf => ?_, fun hf => ?_⟩
          · have hn : D = none := by rw [hfin]; simp [finM, hf]
            rw [hn]
            simp only [valL, wk,if_true,if_false,forall_const,implies_true,ne_eq,eq_self,Nat.reduceEqDiff,Nat.reduceAdd,Nat.reduceMul,Nat.reduceSub,Nat.reduceLeDiff,Nat.reduceLT,Int.reduceEq,Int.reduceLT,Int.reduceLE,Int.reduceAdd,Int.reduceSub,Int.reduceMul,Int.reduceNeg,Int.reduceNe,reduceCtorEq,Int.reduceToNat,↓reduceIte]
            exact zero
          · have hn : D = some ⟨nI r1, nI r2, 0, zeroQ, 0, 0, ⟨#[]⟩, l⟩ := by rw [hfin, hb.1]; simp [finM, hb.2, hf]
            rw [hn]
            simp only [valL, wk,if_true,if_false,forall_const,implies_true,ne_eq,eq_self,Nat.reduceEqDiff,Nat.reduceAdd,Nat.reduceMul,Nat.reduceSub,Nat.reduceLeDiff,Nat.reduceLT,Int.reduceEq,Int.reduceLT,Int.reduceLE,Int.reduceAdd,Int.reduceSub,Int.reduceMul,Int.reduceNeg,Int.reduceNe,reduceCtorEq,Int.reduceToNat,↓reduceIte]
            (simp only [vDec, vM, mC, zeroQ, List.length_nil, List.map_nil, certsC_nil, rdpw, rdp_fL, rdps_str, rdps_certs]) <;> rfl
  · simp only [J_ref22_Decode_j3, wk,if_true,if_false,forall_const,implies_true,ne_eq,eq_self,Nat.reduceEqDiff,Nat.reduceAdd,Nat.reduceMul,Nat.reduceSub,Nat.reduceLeDiff,Nat.reduceLT,Int.reduceEq,Int.reduceLT,Int.reduceLE,Int.reduceAdd,Int.reduceSub,Int.reduceMul,Int.reduceNeg,Int.reduceNe,reduceCtorEq,Int.reduceToNat,↓reduceIte]
    refine ⟨fun k2 => by omega, fun k2 => ⟨fun k3 => by omega, fun k3 => ⟨fun k4 => ?_, fun k4 => ?_⟩⟩⟩
    · obtain ⟨r2, e2⟩ : ∃ r, r = rW S s1 := ⟨_, rfl⟩
      obtain ⟨s2, d2⟩ : ∃ s, s = stO r2 s1.2 := ⟨_, rfl⟩
      have b2 : s2.2 ≤ S.size := by rw [d2, e2]; exact rW_le b1
      refine ACalls.use (b_word' (S := S) (s := s1) rfl hS b1 e2 d2) ?_; rintro _ _ ⟨rfl, rfl⟩; simp only [wk,if_true,if_false,forall_const,implies_true,ne_eq,eq_self,Nat.reduceEqDiff,Nat.reduceAdd,Nat.reduceMul,Nat.reduceSub,Nat.reduceLeDiff,Nat.reduceLT,Int.reduceEq,Int.reduceLT,Int.reduceLE,Int.reduceAdd,Int.reduceSub,Int.reduceMul,Int.reduceNeg,Int.reduceNe,reduceCtorEq,Int.reduceToNat,↓reduceIte]
      have h2 := bdW (F := fun w p => finM S ⟨4, 0, 0, zeroQ, 0, 0, w, []⟩ p) s1.2 (h1.trans (by rw [if_neg (show ¬ nI r1 = 1 by omega), if_neg (show ¬ nI r1 = 2 by omega), if_neg (show ¬ nI r1 = 3 by omega), if_pos (show nI r1 = 4 by omega)]; rfl)) e2
      rw [← d2] at h2
      have hfin : D = if s2.1 = true then none else finM S ⟨nI r1, 0, 0, zeroQ, 0, 0, nS r2, []⟩ s2.2 := by rw [k4]; exact h2
      simp only [J_ref22_Decode_j1, wk,if_true,if_false,forall_const,implies_true,ne_eq,eq_self,Nat.reduceEqDiff,Nat.reduceAdd,Nat.reduceMul,Nat.reduceSub,Nat.reduceLeDiff,Nat.reduceLT,Int.reduceEq,Int.reduceLT,Int.reduceLE,Int.reduceAdd,Int.reduceSub,Int.reduceMul,Int.reduceNeg,Int.reduceNe,reduceCtorEq,Int.reduceToNat,↓reduceIte]
      refine ACalls.use (r_idone (S := S) (s := s2) rfl (by omega) b2) ?_; rintro _ _ ⟨rfl, rfl⟩; simp only [wk,if_true,if_false,forall_const,implies_true,ne_eq,eq_self,Nat.reduceEqDiff,Nat.reduceAdd,Nat.reduceMul,Nat.reduceSub,Nat.reduceLeDiff,Nat.reduceLT,Int.reduceEq,Int.reduceLT,Int.reduceLE,Int.reduceAdd,Int.reduceSub,Int.reduceMul,Int.reduceNeg,Int.reduceNe,reduceCtorEq,Int.reduceToNat,↓reduceIte]
      cases hb : (s2.1 || decide (s2.2 < S.size)) with
      | true =>
        have hn : D = none := by
          rw [hfin]
          simp only [Bool.or_eq_true, decide_eq_true_eq] at hb
          rcases hb with hb | hb
          · simp [hb]
          · simp [finM, hb]
        rw [hn]
        simp only [eI, valL, wk,if_true,if_false,forall_const,implies_true,ne_eq,eq_self,Nat.reduceEqDiff,Nat.reduceAdd,Nat.reduceMul,Nat.reduceSub,Nat.reduceLeDiff,Nat.reduceLT,Int.reduceEq,Int.reduceLT,Int.reduceLE,Int.reduceAdd,Int.reduceSub,Int.reduceMul,Int.reduceNeg,Int.reduceNe,reduceCtorEq,Int.reduceToNat,↓reduceIte]
        exact zero
      | false =>
        simp only [Bool.or_eq_false_iff, decide_eq_false_iff_not] at hb
        have qf := p_fits22 ⟨nI r1, 0, 0, zeroQ, 0, 0, nS r2, []⟩ ⟨by show (0 : Nat) < 65536; omega, smallE_0 0, by show (nS r2).size ≤ 1000; rw [e2]; exact Nat.le_trans rW_small (by omega), Nat.zero_le _, fun c hc => by simp at hc⟩
        simp only [vM, mC, zeroQ, List.length_nil, List.map_nil, certsC_nil] at qf
        simp only [eI, wk,if_true,if_false,forall_const,implies_true,ne_eq,eq_self,Nat.reduceEqDiff,Nat.reduceAdd,Nat.reduceMul,Nat.reduceSub,Nat.reduceLeDiff,Nat.reduceLT,Int.reduceEq,Int.reduceLT,Int.reduceLE,Int.reduceAdd,Int.reduceSub,Int.reduceMul,Int.reduceNeg,Int.reduceNe,reduceCtorEq,Int.reduceToNat,↓reduceIte]
        refine PCalls.use (v := .bool (fitsE ⟨nI r1, 0, 0, zeroQ, 0, 0, nS r2, []⟩)) (PCalls.argd ?_) ?_
        · simp only [rdpw, rdp_fL, rdps_str, rdps_certs]; exact qf
        simp only [wk,if_true,if_false,forall_const,implies_true,ne_eq,eq_self,Nat.reduceEqDiff,Nat.reduceAdd,Nat.reduceMul,Nat.reduceSub,Nat.reduceLeDiff,Nat.reduceLT,Int.reduceEq,Int.reduceLT,Int.reduceLE,Int.reduceAdd,Int.reduceSub,Int.reduceMul,Int.reduceNeg,Int.reduceNe,reduceCtorEq,Int.reduceToNat,↓reduceIte]
        refine ⟨fun hf => ?_, fun hf => ?_⟩
        · have hn : D = none := by rw [hfin]; simp [finM, hf]
          rw [hn]
          simp only [valL, wk,if_true,if_false,forall_const,implies_true,ne_eq,eq_self,Nat.reduceEqDiff,Nat.reduceAdd,Nat.reduceMul,Nat.reduceSub,Nat.reduceLeDiff,Nat.reduceLT,Int.reduceEq,Int.reduceLT,Int.reduceLE,Int.reduceAdd,Int.reduceSub,Int.reduceMul,Int.reduceNeg,Int.reduceNe,reduceCtorEq,Int.reduceToNat,↓reduceIte]
          exact zero
        · have hn : D = some ⟨nI r1, 0, 0, zeroQ, 0, 0, nS r2, []⟩ := by rw [hfin, hb.1]; simp [finM, hb.2, hf]
          rw [hn]
          simp only [valL, wk,if_true,if_false,forall_const,implies_true,ne_eq,eq_self,Nat.reduceEqDiff,Nat.reduceAdd,Nat.reduceMul,Nat.reduceSub,Nat.reduceLeDiff,Nat.reduceLT,Int.reduceEq,Int.reduceLT,Int.reduceLE,Int.reduceAdd,Int.reduceSub,Int.reduceMul,Int.reduceNeg,Int.reduceNe,reduceCtorEq,Int.reduceToNat,↓reduceIte]
          (simp only [vDec, vM, mC, zeroQ, List.length_nil, List.map_nil, certsC_nil, rdpw, rdp_fL, rdps_str, rdps_certs]) <;> rfl
    · have hD : D = if s1.1 = true then none else rCrtF S s1.2 (fun l p => finM S ⟨(nI r1 : Int), 0, 0, zeroQ, 0, 0, ⟨#[]⟩, l⟩ p) := by
        rw [if_neg (show ¬ nI r1 = 1 by omega), if_neg (show ¬ nI r1 = 2 by omega), if_neg (show ¬ nI r1 = 3 by omega), if_neg (show ¬ nI r1 = 4 by omega), if_pos (show nI r1 = 5 by omega)] at h1
        rw [show nI r1 = 5 by omega]
        exact h1
      obtain ⟨r3, e3⟩ : ∃ r, r = rN S 8 s1 := ⟨_, rfl⟩
      obtain ⟨s3, d3⟩ : ∃ s, s = stO r3 (jStop S s1) := ⟨_, rfl⟩
      have b3 : s3.2 ≤ S.size := by rw [d3, e3]; exact rN_le b1 (jStop_le b1)
      have n8 : nI r3 ≤ 8 := by have := (nI_le (S := S) (m := 8) b1).2 (by omega); rw [← e3] at this; omega
      have bad0 : s3.1 = true → nI r3 = 0 := by
        rw [d3]
        cases r3 with
        | none => intro _; rfl
        | some x => intro h; cases h
      refine ACalls.use (b_num' (S := S) (s := s1) 8 rfl hS b1 e3 d3) ?_; rintro _ _ ⟨rfl, rfl⟩; simp only [wk,if_true,if_false,forall_const,implies_true,ne_eq,eq_self,Nat.reduceEqDiff,Nat.reduceAdd,Nat.reduceMul,Nat.reduceSub,Nat.reduceLeDiff,Nat.reduceLT,Int.reduceEq,Int.reduceLT,Int.reduceLE,Int.reduceAdd,Int.reduceSub,Int.reduceMul,Int.reduceNeg,Int.reduceNe,reduceCtorEq,Int.reduceToNat,↓reduceIte]
      have h3 : D = if s3.1 = true then none else bd (rMany (rCrt S) s3.2 (nI r3)) (fun l p => finM S ⟨nI r1, 0, 0, zeroQ, 0, 0, ⟨#[]⟩, l⟩ p) := by
        have := bdN (jStop S s1) hD e3
        rw [← d3] at this
        exact this
      refine W_loop (fun n fr h' => ∃ (i : Nat) (ez : Hp) (st : Bool × Nat) (l : List Crt), i ≤ nI r3 ∧ n = nI r3 - i ∧ st.2 ≤ S.size ∧ l.length = i ∧ (∀ c ∈ l, smallC c) ∧ (s3.1 = false → st.1 = false ∧ rMany (rCrt S) s3.2 i = some (l, st.2)) ∧ (s3.1 = true → st.1 = true) ∧ h' = some (false, [.int .i64 0, .int .u16 0, .int .i64 0, .int .i64 0, .int .i64 0, .int .i64 0, .int .i64 0, .lst .clip 0 [], .int .i64 0, .int .i64 0, .str ⟨#[]⟩, .lst (.own 80) 0 []]) :: some (true, [.int .i64 0, .int .u16 0, .int .i64 0, .int .i64 0, .int .i64 0, .int .i64 0, .int .i64 0, .lst .clip 0 [], .int .i64 0, .int .i64 0, .str ⟨#[]⟩, .lst .clip 0 []]) :: jObj S st :: some (false, [.int .i64 (nI r1), .int .u16 (0), .int .i64 0, .int .i64 0, .int .i64 0, .int .i64 0, .int .i64 0, .lst .clip 0 [], .int .i64 0, .int .i64 0, .str ⟨#[]⟩, .lst (.own 80) i (certsC l)]) :: ez ∧ fr = [(2, .ptr 0 0), (4, .ptr 1 0), (5, .ptr 2 0), (6, .ptr 3 0), (7, .int .i64 (nI r3)), (8, .int .i64 i)]) (nI r3) ⟨0, [], s3, [], by omega, by omega, b3, rfl, fun c hc => by simp at hc, fun h => ⟨h, by simp [rMany]⟩, fun h => h, rfl, rfl⟩ ?_
      rintro n fr h' ⟨i, ez, st, l, hi, rfl, hst, hll, hsm, hgood, hbad, rfl, rfl⟩
      simp only [J_ref22_Decode_j2, wk,if_true,if_false,forall_const,implies_true,ne_eq,eq_self,Nat.reduceEqDiff,Nat.reduceAdd,Nat.reduceMul,Nat.reduceSub,Nat.reduceLeDiff,Nat.reduceLT,Int.reduceEq,Int.reduceLT,Int.reduceLE,Int.reduceAdd,Int.reduceSub,Int.reduceMul,Int.reduceNeg,Int.reduceNe,reduceCtorEq,Int.reduceToNat,↓reduceIte]
      refine ⟨fun hlt => ?_, fun hge => ?_⟩
      · have hin : i < nI r3 := by omega
        have g1 : s3.1 = false := by cases h : s3.1 with | false => rfl | true => have := bad0 h; omega
        obtain ⟨g2, g3⟩ := hgood g1
        obtain ⟨r4, e4⟩ : ∃ r, r = rT S 4000 st := ⟨_, rfl⟩
        refine ACalls.use (b_text' (id := 2) (s := st) 4000 rfl hS hst e4) ?_
        rintro _ _ ⟨rfl, q4, hq4, rfl⟩
        obtain ⟨s4, d4⟩ : ∃ s, s = stO r4 q4 := ⟨_, rfl⟩
        rw [← d4]
        have b4 : s4.2 ≤ S.size := by rw [d4, e4]; exact rT_le hst hq4
        have z4 : (nS r4).size ≤ S.size := by rw [e4]; exact rT_size hst
        simp only [wk,if_true,if_false,forall_const,implies_true,ne_eq,eq_self,Nat.reduceEqDiff,Nat.reduceAdd,Nat.reduceMul,Nat.reduceSub,Nat.reduceLeDiff,Nat.reduceLT,Int.reduceEq,Int.reduceLT,Int.reduceLE,Int.reduceAdd,Int.reduceSub,Int.reduceMul,Int.reduceNeg,Int.reduceNe,reduceCtorEq,Int.reduceToNat,↓reduceIte]
        have qd := p_rcdec (nS r4) (by omega)
        cases hd : decE (nS r4) with
        | none =>
          rw [hd] at qd
          simp only [decV, vC, cC, zeroC, List.length_nil, List.map_nil] at qd
          refine PCalls.use (qd) ?_; simp only [wk,if_true,if_false,forall_const,implies_true,ne_eq,eq_self,Nat.reduceEqDiff,Nat.reduceAdd,Nat.reduceMul,Nat.reduceSub,Nat.reduceLeDiff,Nat.reduceLT,Int.reduceEq,Int.reduceLT,Int.reduceLE,Int.reduceAdd,Int.reduceSub,Int.reduceMul,Int.reduceNeg,Int.reduceNe,reduceCtorEq,Int.reduceToNat,↓reduceIte]
          have hn : rMany (rCrt S) s3.2 (i + 1) = none := by
            simp only [rMany, g3]
            have : rCrt S st.2 = none := by
              unfold rCrt
              unfold rT at e4
              rw [g2] at e4
              simp only [Bool.false_eq_true, if_false] at e4
              rw [← e4]
              cases r4 with
              | none => rfl
              | some x => simp only [bd]; simp only [nS] at hd; rw [hd]
            rw [this]
          have hnn : D = none := by
            rw [h3, g1, rMany_none (by omega) hn]
            rfl
          rw [hnn]
          simp only [valL, wk,if_true,if_false,forall_const,implies_true,ne_eq,eq_self,Nat.reduceEqDiff,Nat.reduceAdd,Nat.reduceMul,Nat.reduceSub,Nat.reduceLeDiff,Nat.reduceLT,Int.reduceEq,Int.reduceLT,Int.reduceLE,Int.reduceAdd,Int.reduceSub,Int.reduceMul,Int.reduceNeg,Int.reduceNe,reduceCtorEq,Int.reduceToNat,↓reduceIte]
          exact zero
        | some c =>
          rw [hd] at qd
          simp only [decV, vC, cC] at qd
          refine PCalls.use (qd) ?_; simp only [wk,if_true,if_false,forall_const,implies_true,ne_eq,eq_self,Nat.reduceEqDiff,Nat.reduceAdd,Nat.reduceMul,Nat.reduceSub,Nat.reduceLeDiff,Nat.reduceLT,Int.reduceEq,Int.reduceLT,Int.reduceLE,Int.reduceAdd,Int.reduceSub,Int.reduceMul,Int.reduceNeg,Int.reduceNe,reduceCtorEq,Int.reduceToNat,↓reduceIte]
          have hr : ∃ t p, r4 = some (t, p) := by
            cases r4 with
            | none => simp only [nS] at hd; rw [decE_empty] at hd; cases hd
            | some x => exact ⟨x.1, x.2, rfl⟩
          obtain ⟨t, p, rfl⟩ := hr
          have hs4 : s4 = (false, p) := d4
          have hrc : rCrt S st.2 = some (c, p) := by
            unfold rCrt
            unfold rT at e4
            rw [g2] at e4
            simp only [Bool.false_eq_true, if_false] at e4
            rw [← e4]
            simp only [bd]
            simp only [nS] at hd
            rw [hd]
          have hcs := (rCrt_fit hrc).2
          refine ⟨⟨by omega, by omega⟩, inR_of (by omega) (by omega), nI r3 - (i + 1), by omega, i + 1, ez ++ [some (true, cC c)], s4, l ++ [c], by omega, rfl, b4, by simp [hll], fun x hx => ?_, fun _ => ?_, fun h => ?_, ?_, ?_⟩
          · rw [List.mem_append, List.mem_singleton] at hx
            rcases hx with hx | rfl
            · exact hsm x hx
            · exact hcs
          · rw [hs4]
            exact ⟨rfl, by simp only [rMany, g3, hrc]⟩
          · rw [g1] at h; cases h
          · rw [certsC_sn]; rfl
          · simp
      · have : i = nI r3 := by omega
        subst this
        have hD2 : D = if st.1 = true then none else finM S ⟨nI r1, 0, 0, zeroQ, 0, 0, ⟨#[]⟩, l⟩ st.2 := by
          cases hs1 : s3.1 with
          | true => rw [hs1] at h3; rw [hbad hs1]; exact h3
          | false =>
            obtain ⟨g2, g3⟩ := hgood hs1
            rw [hs1, g3] at h3
            rw [g2]
            exact h3
        have hl8 : l.length = nI r3 := hll
        rw [← hl8]
        have hfin : D = if st.1 = true then none else finM S ⟨nI r1, 0, 0, zeroQ, 0, 0, ⟨#[]⟩, l⟩ st.2 := hD2
        simp only [J_ref22_Decode_j1, wk,if_true,if_false,forall_const,implies_true,ne_eq,eq_self,Nat.reduceEqDiff,Nat.reduceAdd,Nat.reduceMul,Nat.reduceSub,Nat.reduceLeDiff,Nat.reduceLT,Int.reduceEq,Int.reduceLT,Int.reduceLE,Int.reduceAdd,Int.reduceSub,Int.reduceMul,Int.reduceNeg,Int.reduceNe,reduceCtorEq,Int.reduceToNat,↓reduceIte]
        refine ACalls.use (r_idone (S := S) (s := st) rfl (by omega) hst) ?_; rintro _ _ ⟨rfl, rfl⟩; simp only [wk,if_true,if_false,forall_const,implies_true,ne_eq,eq_self,Nat.reduceEqDiff,Nat.reduceAdd,Nat.reduceMul,Nat.reduceSub,Nat.reduceLeDiff,Nat.reduceLT,Int.reduceEq,Int.reduceLT,Int.reduceLE,Int.reduceAdd,Int.reduceSub,Int.reduceMul,Int.reduceNeg,Int.reduceNe,reduceCtorEq,Int.reduceToNat,↓reduceIte]
        cases hb : (st.1 || decide (st.2 < S.size)) with
        | true =>
          have hn : D = none := by
            rw [hfin]
            simp only [Bool.or_eq_true, decide_eq_true_eq] at hb
            rcases hb with hb | hb
            · simp [hb]
            · simp [finM, hb]
          rw [hn]
          simp only [eI, valL, wk,if_true,if_false,forall_const,implies_true,ne_eq,eq_self,Nat.reduceEqDiff,Nat.reduceAdd,Nat.reduceMul,Nat.reduceSub,Nat.reduceLeDiff,Nat.reduceLT,Int.reduceEq,Int.reduceLT,Int.reduceLE,Int.reduceAdd,Int.reduceSub,Int.reduceMul,Int.reduceNeg,Int.reduceNe,reduceCtorEq,Int.reduceToNat,↓reduceIte]
          exact zero
        | false =>
          simp only [Bool.or_eq_false_iff, decide_eq_false_iff_not] at hb
          have qf := p_fits22 ⟨nI r1, 0, 0, zeroQ, 0, 0, ⟨#[]⟩, l⟩ ⟨by show (0 : Nat) < 65536; omega, smallE_0 0, Nat.zero_le _, by show l.length ≤ 1000; omega, hsm⟩
          simp only [vM, mC, zeroQ, List.length_nil, List.map_nil, certsC_nil] at qf
          simp only [eI, wk,if_true,if_false,forall_const,implies_true,ne_eq,eq_self,Nat.reduceEqDiff,Nat.reduceAdd,Nat.reduceMul,Nat.reduceSub,Nat.reduceLeDiff,Nat.reduceLT,Int.reduceEq,Int.reduceLT,Int.reduceLE,Int.reduceAdd,Int.reduceSub,Int.reduceMul,Int.reduceNeg,Int.reduceNe,reduceCtorEq,Int.reduceToNat,↓reduceIte]
          refine PCalls.use (v := .bool (fitsE ⟨nI r1, 0, 0, zeroQ, 0, 0, ⟨#[]⟩, l⟩)) (PCalls.argd ?_) ?_
          · simp only [rdpw, rdp_fL, rdps_str, rdps_certs]; exact qf
          simp only [wk,if_true,if_false,forall_const,implies_true,ne_eq,eq_self,Nat.reduceEqDiff,Nat.reduceAdd,Nat.reduceMul,Nat.reduceSub,Nat.reduceLeDiff,Nat.reduceLT,Int.reduceEq,Int.reduceLT,Int.reduceLE,Int.reduceAdd,Int.reduceSub,Int.reduceMul,Int.reduceNeg,Int.reduceNe,reduceCtorEq,Int.reduceToNat,↓reduceIte]
          refine ⟨fun hf => ?_, fun hf => ?_⟩
          · have hn : D = none := by rw [hfin]; simp [finM, hf]
            rw [hn]
            simp only [valL, wk,if_true,if_false,forall_const,implies_true,ne_eq,eq_self,Nat.reduceEqDiff,Nat.reduceAdd,Nat.reduceMul,Nat.reduceSub,Nat.reduceLeDiff,Nat.reduceLT,Int.reduceEq,Int.reduceLT,Int.reduceLE,Int.reduceAdd,Int.reduceSub,Int.reduceMul,Int.reduceNeg,Int.reduceNe,reduceCtorEq,Int.reduceToNat,↓reduceIte]
            exact zero
          · have hn : D = some ⟨nI r1, 0, 0, zeroQ, 0, 0, ⟨#[]⟩, l⟩ := by rw [hfin, hb.1]; simp [finM, hb.2, hf]
            rw [hn]
            simp only [valL, wk,if_true,if_false,forall_const,implies_true,ne_eq,eq_self,Nat.reduceEqDiff,Nat.reduceAdd,Nat.reduceMul,Nat.reduceSub,Nat.reduceLeDiff,Nat.reduceLT,Int.reduceEq,Int.reduceLT,Int.reduceLE,Int.reduceAdd,Int.reduceSub,Int.reduceMul,Int.reduceNeg,Int.reduceNe,reduceCtorEq,Int.reduceToNat,↓reduceIte]
            (simp only [vDec, vM, mC, zeroQ, List.length_nil, List.map_nil, certsC_nil, rdpw, rdp_fL, rdps_str, rdps_certs]) <;> rfl
end Go.Proofs.YtpjlkefadnbgdaaGreat

/- LetterTells and LetterReads, over the abstract code. -/
namespace Go.Proofs.YtpjlkefadnbgdaaGreat
set_option linter.unusedSimpArgs false
set_option linter.unusedVariables false
open Go.RowKit Go.Lib

set_option maxRecDepth 100000 in
set_option maxHeartbeats 8000000 in
theorem a_lreads (s : ByteArray) : ACalls Tryz.prog 4 [.str s] [] (fun a _ => a = .bool true) := by
  refine acalls_of mixed J_law22_LetterReads_ok (Nat.le_of_ble_eq_true rfl) ?_; simp only [J_law22_LetterReads, wk,if_true,if_false,forall_const,implies_true,ne_eq,eq_self,Nat.reduceEqDiff,Nat.reduceAdd,Nat.reduceMul,Nat.reduceSub,Nat.reduceLeDiff,Nat.reduceLT,Int.reduceEq,Int.reduceLT,Int.reduceLE,Int.reduceAdd,Int.reduceSub,Int.reduceMul,Int.reduceNeg,Int.reduceNe,reduceCtorEq,Int.reduceToNat,↓reduceIte]
  refine PCalls.use (p_awake22) ?_; simp only [wk,if_true,if_false,forall_const,implies_true,ne_eq,eq_self,Nat.reduceEqDiff,Nat.reduceAdd,Nat.reduceMul,Nat.reduceSub,Nat.reduceLeDiff,Nat.reduceLT,Int.reduceEq,Int.reduceLT,Int.reduceLE,Int.reduceAdd,Int.reduceSub,Int.reduceMul,Int.reduceNeg,Int.reduceNe,reduceCtorEq,Int.reduceToNat,↓reduceIte]
  intro hsz
  obtain ⟨n, en, hvd, nsm, hcase⟩ := vDec_get s
  have q1 := p_ldec s
  have q2 := p_rdec22 s
  rw [hvd] at q1 q2
  have q3 := p_rsame22 n n (by have := nsm.2.1.1; omega) (by have := nsm.2.2.2.1; omega) (fun c hc => by have := (nsm.2.2.2.2 c hc).2.2.1; omega)
  rw [sameM_iff.2 rfl] at q3
  simp only [vM, mC] at q1 q2 q3
  refine PCalls.use (q1) ?_; simp only [wk,if_true,if_false,forall_const,implies_true,ne_eq,eq_self,Nat.reduceEqDiff,Nat.reduceAdd,Nat.reduceMul,Nat.reduceSub,Nat.reduceLeDiff,Nat.reduceLT,Int.reduceEq,Int.reduceLT,Int.reduceLE,Int.reduceAdd,Int.reduceSub,Int.reduceMul,Int.reduceNeg,Int.reduceNe,reduceCtorEq,Int.reduceToNat,↓reduceIte]
  refine PCalls.use (q2) ?_; simp only [wk,if_true,if_false,forall_const,implies_true,ne_eq,eq_self,Nat.reduceEqDiff,Nat.reduceAdd,Nat.reduceMul,Nat.reduceSub,Nat.reduceLeDiff,Nat.reduceLT,Int.reduceEq,Int.reduceLT,Int.reduceLE,Int.reduceAdd,Int.reduceSub,Int.reduceMul,Int.reduceNeg,Int.reduceNe,reduceCtorEq,Int.reduceToNat,↓reduceIte]
  refine PCalls.use (q3) ?_; simp only [wk,if_true,if_false,forall_const,implies_true,ne_eq,eq_self,Nat.reduceEqDiff,Nat.reduceAdd,Nat.reduceMul,Nat.reduceSub,Nat.reduceLeDiff,Nat.reduceLT,Int.reduceEq,Int.reduceLT,Int.reduceLE,Int.reduceAdd,Int.reduceSub,Int.reduceMul,Int.reduceNeg,Int.reduceNe,reduceCtorEq,Int.reduceToNat,↓reduceIte]
end Go.Proofs.YtpjlkefadnbgdaaGreat

/- LetterApart, over the abstract code. -/
namespace Go.Proofs.YtpjlkefadnbgdaaGreat
set_option linter.unusedSimpArgs false
set_option linter.unusedVariables false
open Go.RowKit Go.Lib

end Go.Proofs.YtpjlkefadnbgdaaGreat
