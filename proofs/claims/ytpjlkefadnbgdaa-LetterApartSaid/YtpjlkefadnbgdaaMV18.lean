/- Texts of one proof, laid together: Yj Yk. -/
import Derived.Test.YtpjlkefadnbgdaaMV17

/- The document's Same of messages; LetterBack and LetterApart, over the abstract code. -/
namespace Go.Proofs.Ytpjlkefadnbgdaa
set_option linter.unusedSimpArgs false
set_option linter.unusedVariables false
open Go.RowKit Go.Lib

set_option maxRecDepth 100000 in
set_option maxHeartbeats 8000000 in
theorem p_rsame22 (a b : Lm) (ha : a.ask.ent.who.length ≤ 9223372036854775807) (hc : a.certs.length ≤ 9223372036854775807) (hw : ∀ c ∈ a.certs, c.words.length ≤ 9223372036854775807) : PCalls Try.prog 11 [vM a, vM b] (.bool (sameM a b)) := by
  refine pcalls_of (by simp [free.frees, free_vM]) rfl (acalls_of mixed J_ref22_Same_ok (Nat.le_of_ble_eq_true rfl) ?_); simp only [J_ref22_Same, vM, mC, wk,if_true,if_false,forall_const,implies_true,ne_eq,eq_self,Nat.reduceEqDiff,Nat.reduceAdd,Nat.reduceMul,Nat.reduceSub,Nat.reduceLeDiff,Nat.reduceLT,Int.reduceEq,Int.reduceLT,Int.reduceLE,Int.reduceAdd,Int.reduceSub,Int.reduceMul,Int.reduceNeg,Int.reduceNe,reduceCtorEq,Int.reduceToNat,↓reduceIte]
  have q := p_requal a.ask.ent.who b.ask.ent.who ha
  repeat' (first | (refine PCalls.use q ?_; simp only [wk,if_true,if_false,forall_const,implies_true,ne_eq,eq_self,Nat.reduceEqDiff,Nat.reduceAdd,Nat.reduceMul,Nat.reduceSub,Nat.reduceLeDiff,Nat.reduceLT,Int.reduceEq,Int.reduceLT,Int.reduceLE,Int.reduceAdd,Int.reduceSub,Int.reduceMul,Int.reduceNeg,Int.reduceNe,reduceCtorEq,Int.reduceToNat,↓reduceIte]) | (refine And.intro ?_ ?_) | intro _)
  all_goals first
    | (refine bool_eq ?_; simp_all [sameM, sameQ]; done)
    | (refine bool_eq ?_; cases hs : sameM a b with
      | false => rfl
      | true => rw [sameM_iff] at hs; subst hs; simp_all; done)
    | skip
  rename_i h1 h2 h3 h4 h5 h6 h7 h8 h9 h10 h11 h12
  have hl : a.certs.length = b.certs.length := by omega
  have heq : sameM a b = sameLs a.certs b.certs := by
    have h2' : a.chan = b.chan := by omega
    simp [sameM, sameQ, h1, h2', h3, h4, h5, h6, h7, h8, h9, h10, h11]
  refine W_loop (fun n fr h' => ∃ i : Nat, i ≤ a.certs.length ∧ n = a.certs.length - i ∧ a.certs.take i = b.certs.take i ∧ h' = [some (false, mC a), some (false, mC b)] ∧ fr = [(2, .ptr 0 0), (3, .ptr 1 0), (5, .int .i64 i)]) a.certs.length ⟨0, by omega, by omega, by simp, rfl, rfl⟩ ?_
  rintro n fr h' ⟨i, hi, rfl, htk, rfl, rfl⟩
  simp only [J_ref22_Same_j2, mC, wk,if_true,if_false,forall_const,implies_true,ne_eq,eq_self,Nat.reduceEqDiff,Nat.reduceAdd,Nat.reduceMul,Nat.reduceSub,Nat.reduceLeDiff,Nat.reduceLT,Int.reduceEq,Int.reduceLT,Int.reduceLE,Int.reduceAdd,Int.reduceSub,Int.reduceMul,Int.reduceNeg,Int.reduceNe,reduceCtorEq,Int.reduceToNat,↓reduceIte]
  refine ⟨fun hlt => ?_, fun hge => ?_⟩
  · have hil : i < a.certs.length := by omega
    have hd := certsC_at hil
    have hd2 := certsC_at (show i < b.certs.length by omega)
    have q := p_rcsame a.certs[i] (b.certs[i]'(by omega)) (hw _ (List.getElem_mem hil))
    simp only [vC, cC] at q
    have hin : ((0 ≤ (i : Int)) ∧ (i : Int) < (a.certs.length : Int)) = True := by simp; omega
    have hin2 : ((0 ≤ (i : Int)) ∧ (i : Int) < (b.certs.length : Int)) = True := by simp; omega
    simp only [hin, hin2, hd, hd2, true_and, wk,if_true,if_false,forall_const,implies_true,ne_eq,eq_self,Nat.reduceEqDiff,Nat.reduceAdd,Nat.reduceMul,Nat.reduceSub,Nat.reduceLeDiff,Nat.reduceLT,Int.reduceEq,Int.reduceLT,Int.reduceLE,Int.reduceAdd,Int.reduceSub,Int.reduceMul,Int.reduceNeg,Int.reduceNe,reduceCtorEq,Int.reduceToNat,↓reduceIte]
    refine ⟨_, q, ?_⟩; simp only [wk,if_true,if_false,forall_const,implies_true,ne_eq,eq_self,Nat.reduceEqDiff,Nat.reduceAdd,Nat.reduceMul,Nat.reduceSub,Nat.reduceLeDiff,Nat.reduceLT,Int.reduceEq,Int.reduceLT,Int.reduceLE,Int.reduceAdd,Int.reduceSub,Int.reduceMul,Int.reduceNeg,Int.reduceNe,reduceCtorEq,Int.reduceToNat,↓reduceIte]
    refine ⟨fun hf => bool_eq ?_, fun ht => ⟨inR_of (by omega) (by omega), a.certs.length - (i + 1), by omega, i + 1, by omega, rfl, take_same hl hil htk (sameE_iff.1 ht), by simp⟩⟩
    cases hs : sameM a b with
    | false => rfl
    | true =>
      rw [sameM_iff] at hs
      subst hs
      rw [sameE_iff.2 rfl] at hf
      cases hf
  · have : i = a.certs.length := by omega
    subst this
    simp only [J_ref22_Same_j1, wk,if_true,if_false,forall_const,implies_true,ne_eq,eq_self,Nat.reduceEqDiff,Nat.reduceAdd,Nat.reduceMul,Nat.reduceSub,Nat.reduceLeDiff,Nat.reduceLT,Int.reduceEq,Int.reduceLT,Int.reduceLE,Int.reduceAdd,Int.reduceSub,Int.reduceMul,Int.reduceNeg,Int.reduceNe,reduceCtorEq,Int.reduceToNat,↓reduceIte]
    refine bool_eq ?_
    symm
    rw [heq, sameLs_iff]
    rw [List.take_length, List.take_of_length_le (by omega)] at htk
    exact htk
theorem vDec_get (S : ByteArray) : ∃ m e, vDec (decM S) = .tup [vM m, .int .i64 e] ∧ smallM m ∧ ((decM S = some m ∧ e = 0 ∧ okM m = true ∧ encMS m = S ∧ S.size ≤ 4000) ∨ (decM S = none ∧ m = zeroM ∧ e = 2)) := by
  cases h : decM S with
  | some m =>
    obtain ⟨h1, h2, h3, h4⟩ := decP2_up h
    have hok : okM m = true := by
      simp only [okM, h2, Bool.true_and, decide_eq_true_eq, h1]
      simpa using h4
    refine ⟨m, 0, rfl, h3, .inl ⟨rfl, rfl, hok, ?_, h4⟩⟩
    simp only [encMS, hok, if_true, h1]
  | none => exact ⟨zeroM, 2, rfl, smallM_0 (by decide), .inr ⟨rfl, rfl, rfl⟩⟩
theorem dec_of {m : Lm} (h : okM m = true) : decM (encMS m) = some m := by
  have h' := h
  simp only [okM, Bool.and_eq_true, decide_eq_true_eq] at h'
  refine (decP2_iff (by decide) (by decide)).2 ⟨h'.1, ?_, ?_⟩
  · simp [encMS, h]
  · simp only [encMS, h, if_true, ba_size]; exact h'.2
set_option maxRecDepth 100000 in
set_option maxHeartbeats 8000000 in
theorem a_lback (m : Lm) (s : ByteArray) (hg : m.chan < 65536) (hsg : ∀ c ∈ m.certs, c.signer < 65536) : ACalls Try.prog 3 [vM m, .str s] [] (fun a _ => a = .bool true) := by
  refine acalls_of mixed J_law22_LetterBack_ok (Nat.le_of_ble_eq_true rfl) ?_; simp only [J_law22_LetterBack, vM, mC, wk,if_true,if_false,forall_const,implies_true,ne_eq,eq_self,Nat.reduceEqDiff,Nat.reduceAdd,Nat.reduceMul,Nat.reduceSub,Nat.reduceLeDiff,Nat.reduceLT,Int.reduceEq,Int.reduceLT,Int.reduceLE,Int.reduceAdd,Int.reduceSub,Int.reduceMul,Int.reduceNeg,Int.reduceNe,reduceCtorEq,Int.reduceToNat,↓reduceIte]
  have ql := p_large22 m
  simp only [vM, mC] at ql
  refine PCalls.use (p_awake22) ?_; simp only [wk,if_true,if_false,forall_const,implies_true,ne_eq,eq_self,Nat.reduceEqDiff,Nat.reduceAdd,Nat.reduceMul,Nat.reduceSub,Nat.reduceLeDiff,Nat.reduceLT,Int.reduceEq,Int.reduceLT,Int.reduceLE,Int.reduceAdd,Int.reduceSub,Int.reduceMul,Int.reduceNeg,Int.reduceNe,reduceCtorEq,Int.reduceToNat,↓reduceIte]
  refine PCalls.use (ql) ?_; simp only [wk,if_true,if_false,forall_const,implies_true,ne_eq,eq_self,Nat.reduceEqDiff,Nat.reduceAdd,Nat.reduceMul,Nat.reduceSub,Nat.reduceLeDiff,Nat.reduceLT,Int.reduceEq,Int.reduceLT,Int.reduceLE,Int.reduceAdd,Int.reduceSub,Int.reduceMul,Int.reduceNeg,Int.reduceNe,reduceCtorEq,Int.reduceToNat,↓reduceIte]
  intro hl hsz
  have sm := not_large22 hg hsg hl
  obtain ⟨n, en, hvd, nsm, hcase⟩ := vDec_get s
  have q1 := p_lenc m sm
  have q3 := p_ldec s
  rw [hvd] at q3
  simp only [vM, mC, vEnc] at q1 q3
  refine PCalls.use (q1) ?_; simp only [wk,if_true,if_false,forall_const,implies_true,ne_eq,eq_self,Nat.reduceEqDiff,Nat.reduceAdd,Nat.reduceMul,Nat.reduceSub,Nat.reduceLeDiff,Nat.reduceLT,Int.reduceEq,Int.reduceLT,Int.reduceLE,Int.reduceAdd,Int.reduceSub,Int.reduceMul,Int.reduceNeg,Int.reduceNe,reduceCtorEq,Int.reduceToNat,↓reduceIte]
  refine ⟨fun he => ?_, fun he => ?_⟩
  · have hokm : okM m = true := by
      cases h : okM m with
      | true => rfl
      | false => simp [encMN, h] at he
    have q2 := p_ldec (encMS m)
    rw [dec_of hokm] at q2
    have q6 := p_lsame m m (by have := sm.2.1.1; omega) (by have := sm.2.2.2.1; omega) (fun c hc => by have := (sm.2.2.2.2 c hc).2.2.1; omega)
    have q7 := p_rsame22 m m (by have := sm.2.1.1; omega) (by have := sm.2.2.2.1; omega) (fun c hc => by have := (sm.2.2.2.2 c hc).2.2.1; omega)
    rw [sameM_iff.2 rfl] at q6 q7
    simp only [vM, mC, vDec] at q2 q6 q7
    refine PCalls.use (q2) ?_; simp only [wk,if_true,if_false,forall_const,implies_true,ne_eq,eq_self,Nat.reduceEqDiff,Nat.reduceAdd,Nat.reduceMul,Nat.reduceSub,Nat.reduceLeDiff,Nat.reduceLT,Int.reduceEq,Int.reduceLT,Int.reduceLE,Int.reduceAdd,Int.reduceSub,Int.reduceMul,Int.reduceNeg,Int.reduceNe,reduceCtorEq,Int.reduceToNat,↓reduceIte]
    refine PCalls.use (q6) ?_; simp only [wk,if_true,if_false,forall_const,implies_true,ne_eq,eq_self,Nat.reduceEqDiff,Nat.reduceAdd,Nat.reduceMul,Nat.reduceSub,Nat.reduceLeDiff,Nat.reduceLT,Int.reduceEq,Int.reduceLT,Int.reduceLE,Int.reduceAdd,Int.reduceSub,Int.reduceMul,Int.reduceNeg,Int.reduceNe,reduceCtorEq,Int.reduceToNat,↓reduceIte]
    refine PCalls.use (q7) ?_; simp only [wk,if_true,if_false,forall_const,implies_true,ne_eq,eq_self,Nat.reduceEqDiff,Nat.reduceAdd,Nat.reduceMul,Nat.reduceSub,Nat.reduceLeDiff,Nat.reduceLT,Int.reduceEq,Int.reduceLT,Int.reduceLE,Int.reduceAdd,Int.reduceSub,Int.reduceMul,Int.reduceNeg,Int.reduceNe,reduceCtorEq,Int.reduceToNat,↓reduceIte]
    simp only [J_law22_LetterBack_j1, wk,if_true,if_false,forall_const,implies_true,ne_eq,eq_self,Nat.reduceEqDiff,Nat.reduceAdd,Nat.reduceMul,Nat.reduceSub,Nat.reduceLeDiff,Nat.reduceLT,Int.reduceEq,Int.reduceLT,Int.reduceLE,Int.reduceAdd,Int.reduceSub,Int.reduceMul,Int.reduceNeg,Int.reduceNe,reduceCtorEq,Int.reduceToNat,↓reduceIte]
    refine PCalls.use (q3) ?_; simp only [wk,if_true,if_false,forall_const,implies_true,ne_eq,eq_self,Nat.reduceEqDiff,Nat.reduceAdd,Nat.reduceMul,Nat.reduceSub,Nat.reduceLeDiff,Nat.reduceLT,Int.reduceEq,Int.reduceLT,Int.reduceLE,Int.reduceAdd,Int.reduceSub,Int.reduceMul,Int.reduceNeg,Int.reduceNe,reduceCtorEq,Int.reduceToNat,↓reduceIte]
    rcases hcase with ⟨hd, rfl, hok, hes, hsz2⟩ | ⟨hd, rfl, rfl⟩
    · have q4 := p_lenc n nsm
      have q5 := p_lmay n nsm
      have hen : encMN n = 0 := by simp [encMN, hok]
      simp only [vM, mC, vEnc, hes, hen, hok] at q4 q5
      refine ⟨fun h => absurd rfl h, fun _ => ?_⟩
      refine PCalls.use (q4) ?_; simp only [wk,if_true,if_false,forall_const,implies_true,ne_eq,eq_self,Nat.reduceEqDiff,Nat.reduceAdd,Nat.reduceMul,Nat.reduceSub,Nat.reduceLeDiff,Nat.reduceLT,Int.reduceEq,Int.reduceLT,Int.reduceLE,Int.reduceAdd,Int.reduceSub,Int.reduceMul,Int.reduceNeg,Int.reduceNe,reduceCtorEq,Int.reduceToNat,↓reduceIte]
      refine PCalls.use (q5) ?_; simp only [wk,if_true,if_false,forall_const,implies_true,ne_eq,eq_self,Nat.reduceEqDiff,Nat.reduceAdd,Nat.reduceMul,Nat.reduceSub,Nat.reduceLeDiff,Nat.reduceLT,Int.reduceEq,Int.reduceLT,Int.reduceLE,Int.reduceAdd,Int.reduceSub,Int.reduceMul,Int.reduceNeg,Int.reduceNe,reduceCtorEq,Int.reduceToNat,↓reduceIte]
      exact bool_eq (by rw [decide_eq_true_eq]; omega)
    · refine ⟨fun _ => ?_, fun h => absurd h (by decide)⟩
      refine PCalls.use (v := .bool true) (PCalls.argd ?_) ?_
      · have q6 := p_rsame22 zeroM zeroM (by decide) (by decide) (fun c hc => by simp [zeroM] at hc)
        rw [sameM_iff.2 rfl] at q6
        simp only [rdpw]
        exact q6
      · simp only [wk,if_true,if_false,forall_const,implies_true,ne_eq,eq_self,Nat.reduceEqDiff,Nat.reduceAdd,Nat.reduceMul,Nat.reduceSub,Nat.reduceLeDiff,Nat.reduceLT,Int.reduceEq,Int.reduceLT,Int.reduceLE,Int.reduceAdd,Int.reduceSub,Int.reduceMul,Int.reduceNeg,Int.reduceNe,reduceCtorEq,Int.reduceToNat,↓reduceIte]
  · have hokm : okM m = false := by
      cases h : okM m with
      | false => rfl
      | true => simp [encMN, h] at he
    have q2 := p_lmay m sm
    rw [hokm] at q2
    simp only [vM, mC] at q2
    have hes0 : encMS m = ⟨#[]⟩ := by simp [encMS, hokm]
    rw [hes0]
    refine ⟨fun _ => ?_, fun h => absurd rfl h⟩
    refine PCalls.use (q2) ?_; simp only [wk,if_true,if_false,forall_const,implies_true,ne_eq,eq_self,Nat.reduceEqDiff,Nat.reduceAdd,Nat.reduceMul,Nat.reduceSub,Nat.reduceLeDiff,Nat.reduceLT,Int.reduceEq,Int.reduceLT,Int.reduceLE,Int.reduceAdd,Int.reduceSub,Int.reduceMul,Int.reduceNeg,Int.reduceNe,reduceCtorEq,Int.reduceToNat,↓reduceIte]
    simp only [J_law22_LetterBack_j1, wk,if_true,if_false,forall_const,implies_true,ne_eq,eq_self,Nat.reduceEqDiff,Nat.reduceAdd,Nat.reduceMul,Nat.reduceSub,Nat.reduceLeDiff,Nat.reduceLT,Int.reduceEq,Int.reduceLT,Int.reduceLE,Int.reduceAdd,Int.reduceSub,Int.reduceMul,Int.reduceNeg,Int.reduceNe,reduceCtorEq,Int.reduceToNat,↓reduceIte]
    refine PCalls.use (q3) ?_; simp only [wk,if_true,if_false,forall_const,implies_true,ne_eq,eq_self,Nat.reduceEqDiff,Nat.reduceAdd,Nat.reduceMul,Nat.reduceSub,Nat.reduceLeDiff,Nat.reduceLT,Int.reduceEq,Int.reduceLT,Int.reduceLE,Int.reduceAdd,Int.reduceSub,Int.reduceMul,Int.reduceNeg,Int.reduceNe,reduceCtorEq,Int.reduceToNat,↓reduceIte]
    rcases hcase with ⟨hd, rfl, hok, hes, hsz2⟩ | ⟨hd, rfl, rfl⟩
    · have q4 := p_lenc n nsm
      have q5 := p_lmay n nsm
      have hen : encMN n = 0 := by simp [encMN, hok]
      simp only [vM, mC, vEnc, hes, hen, hok] at q4 q5
      refine ⟨fun h => absurd rfl h, fun _ => ?_⟩
      refine PCalls.use (q4) ?_; simp only [wk,if_true,if_false,forall_const,implies_true,ne_eq,eq_self,Nat.reduceEqDiff,Nat.reduceAdd,Nat.reduceMul,Nat.reduceSub,Nat.reduceLeDiff,Nat.reduceLT,Int.reduceEq,Int.reduceLT,Int.reduceLE,Int.reduceAdd,Int.reduceSub,Int.reduceMul,Int.reduceNeg,Int.reduceNe,reduceCtorEq,Int.reduceToNat,↓reduceIte]
      refine PCalls.use (q5) ?_; simp only [wk,if_true,if_false,forall_const,implies_true,ne_eq,eq_self,Nat.reduceEqDiff,Nat.reduceAdd,Nat.reduceMul,Nat.reduceSub,Nat.reduceLeDiff,Nat.reduceLT,Int.reduceEq,Int.reduceLT,Int.reduceLE,Int.reduceAdd,Int.reduceSub,Int.reduceMul,Int.reduceNeg,Int.reduceNe,reduceCtorEq,Int.reduceToNat,↓reduceIte]
      exact bool_eq (by rw [decide_eq_true_eq]; omega)
    · refine ⟨fun _ => ?_, fun h => absurd h (by decide)⟩
      refine PCalls.use (v := .bool true) (PCalls.argd ?_) ?_
      · have q6 := p_rsame22 zeroM zeroM (by decide) (by decide) (fun c hc => by simp [zeroM] at hc)
        rw [sameM_iff.2 rfl] at q6
        simp only [rdpw]
        exact q6
      · simp only [wk,if_true,if_false,forall_const,implies_true,ne_eq,eq_self,Nat.reduceEqDiff,Nat.reduceAdd,Nat.reduceMul,Nat.reduceSub,Nat.reduceLeDiff,Nat.reduceLT,Int.reduceEq,Int.reduceLT,Int.reduceLE,Int.reduceAdd,Int.reduceSub,Int.reduceMul,Int.reduceNeg,Int.reduceNe,reduceCtorEq,Int.reduceToNat,↓reduceIte]
end Go.Proofs.Ytpjlkefadnbgdaa

/- LetterApart, over the abstract code. -/
namespace Go.Proofs.Ytpjlkefadnbgdaa
set_option linter.unusedSimpArgs false
set_option linter.unusedVariables false
open Go.RowKit Go.Lib

theorem sameM_symm (a b : Lm) : sameM a b = sameM b a := by
  rw [Bool.eq_iff_iff, sameM_iff, sameM_iff]
  exact ⟨Eq.symm, Eq.symm⟩
theorem encMS_eq {a b : Lm} (ha : okM a = true) (hb : okM b = true) : decide (encMS a = encMS b) = sameM a b := by
  rw [Bool.eq_iff_iff, decide_eq_true_eq, sameM_iff]
  constructor
  · intro h
    refine msgB_inj ha hb ?_
    simp only [encMS, ha, hb, if_true] at h
    exact ba_eq.1 h
  · rintro rfl; rfl
theorem mac_eq {a b : Lm} (ha : okM a = true) (hb : okM b = true) : eqCells [0, 0, 0, 1] (macC a) (macC b) = some (sameM a b) := by
  have h : eqCells [0, 0, 0, 1] (macC a) (macC b) = some (decide (a.chan = b.chan) && (decide (a.kind - 2 = b.kind - 2) && (decide (a.seq = b.seq) && decide ((⟨(msgB a).toArray⟩ : ByteArray) = ⟨(msgB b).toArray⟩)))) := by
    simp [eqCells, eqCell, macC, Int.natCast_inj]
  rw [h]
  congr 1
  rw [Bool.eq_iff_iff, sameM_iff]
  simp only [Bool.and_eq_true, decide_eq_true_eq, ba_eq]
  constructor
  · rintro ⟨_, _, _, h⟩; exact msgB_inj ha hb h
  · rintro rfl; exact ⟨rfl, rfl, rfl, rfl⟩
def macZ : List AV := [.int .u16 0, .int .i64 0, .int .i64 0, .str ⟨#[]⟩]
theorem vMac_get {m : Lm} (h : okM m = true) : vMac m = .tup [.agg (macC m), .int .i64 0] ∨ vMac m = .tup [.agg macZ, .int .i64 1] := by
  unfold vMac
  rw [if_pos h]
  split
  · left; rfl
  · right; rfl
set_option maxRecDepth 100000 in
set_option maxHeartbeats 16000000 in
theorem a_lapart (a b : Lm) (hga : a.chan < 65536) (hsa : ∀ c ∈ a.certs, c.signer < 65536) (hgb : b.chan < 65536) (hsb : ∀ c ∈ b.certs, c.signer < 65536) : ACalls Try.prog 4 [vM a, vM b] [] (fun a _ => a = .bool true) := by
  refine acalls_of mixed J_law22_LetterApart_ok (Nat.le_of_ble_eq_true rfl) ?_; simp only [J_law22_LetterApart, vM, mC, wk,if_true,if_false,forall_const,implies_true,ne_eq,eq_self,Nat.reduceEqDiff,Nat.reduceAdd,Nat.reduceMul,Nat.reduceSub,Nat.reduceLeDiff,Nat.reduceLT,Int.reduceEq,Int.reduceLT,Int.reduceLE,Int.reduceAdd,Int.reduceSub,Int.reduceMul,Int.reduceNeg,Int.reduceNe,reduceCtorEq,Int.reduceToNat,↓reduceIte]
  have la := p_large22 a
  have lb := p_large22 b
  simp only [vM, mC] at la lb
  refine PCalls.use (p_awake22) ?_; simp only [wk,if_true,if_false,forall_const,implies_true,ne_eq,eq_self,Nat.reduceEqDiff,Nat.reduceAdd,Nat.reduceMul,Nat.reduceSub,Nat.reduceLeDiff,Nat.reduceLT,Int.reduceEq,Int.reduceLT,Int.reduceLE,Int.reduceAdd,Int.reduceSub,Int.reduceMul,Int.reduceNeg,Int.reduceNe,reduceCtorEq,Int.reduceToNat,↓reduceIte]
  refine PCalls.use (la) ?_; simp only [wk,if_true,if_false,forall_const,implies_true,ne_eq,eq_self,Nat.reduceEqDiff,Nat.reduceAdd,Nat.reduceMul,Nat.reduceSub,Nat.reduceLeDiff,Nat.reduceLT,Int.reduceEq,Int.reduceLT,Int.reduceLE,Int.reduceAdd,Int.reduceSub,Int.reduceMul,Int.reduceNeg,Int.reduceNe,reduceCtorEq,Int.reduceToNat,↓reduceIte]
  intro hla
  refine PCalls.use (lb) ?_; simp only [wk,if_true,if_false,forall_const,implies_true,ne_eq,eq_self,Nat.reduceEqDiff,Nat.reduceAdd,Nat.reduceMul,Nat.reduceSub,Nat.reduceLeDiff,Nat.reduceLT,Int.reduceEq,Int.reduceLT,Int.reduceLE,Int.reduceAdd,Int.reduceSub,Int.reduceMul,Int.reduceNeg,Int.reduceNe,reduceCtorEq,Int.reduceToNat,↓reduceIte]
  intro hlb
  have sa := not_large22 hga hsa hla
  have sb := not_large22 hgb hsb hlb
  have same : ∀ x y : Lm, smallM x → PCalls Try.prog 10 [vM x, vM y] (.bool (sameM x y)) := fun x y hx => p_lsame x y (by have := hx.2.1.1; omega) (by have := hx.2.2.2.1; omega) (fun c hc => by have := (hx.2.2.2.2 c hc).2.2.1; omega)
  have saa := same a a sa
  have sab := same a b sa
  have sba := same b a sb
  have rab := p_rsame22 a b (by have := sa.2.1.1; omega) (by have := sa.2.2.2.1; omega) (fun c hc => by have := (sa.2.2.2.2 c hc).2.2.1; omega)
  rw [sameM_iff.2 rfl] at saa
  rw [sameM_symm] at sba
  have ea := p_lenc a sa
  have eb := p_lenc b sb
  have ma := p_lmac a sa
  have mb := p_lmac b sb
  simp only [vM, mC, vEnc] at saa sab sba rab ea eb ma mb
  refine ⟨_, saa, ?_⟩; simp only [wk,if_true,if_false,forall_const,implies_true,ne_eq,eq_self,Nat.reduceEqDiff,Nat.reduceAdd,Nat.reduceMul,Nat.reduceSub,Nat.reduceLeDiff,Nat.reduceLT,Int.reduceEq,Int.reduceLT,Int.reduceLE,Int.reduceAdd,Int.reduceSub,Int.reduceMul,Int.reduceNeg,Int.reduceNe,reduceCtorEq,Int.reduceToNat,↓reduceIte]
  refine ⟨_, sab, ?_⟩; simp only [wk,if_true,if_false,forall_const,implies_true,ne_eq,eq_self,Nat.reduceEqDiff,Nat.reduceAdd,Nat.reduceMul,Nat.reduceSub,Nat.reduceLeDiff,Nat.reduceLT,Int.reduceEq,Int.reduceLT,Int.reduceLE,Int.reduceAdd,Int.reduceSub,Int.reduceMul,Int.reduceNeg,Int.reduceNe,reduceCtorEq,Int.reduceToNat,↓reduceIte]
  refine ⟨_, sba, ?_⟩; simp only [wk,if_true,if_false,forall_const,implies_true,ne_eq,eq_self,Nat.reduceEqDiff,Nat.reduceAdd,Nat.reduceMul,Nat.reduceSub,Nat.reduceLeDiff,Nat.reduceLT,Int.reduceEq,Int.reduceLT,Int.reduceLE,Int.reduceAdd,Int.reduceSub,Int.reduceMul,Int.reduceNeg,Int.reduceNe,reduceCtorEq,Int.reduceToNat,↓reduceIte]
  refine ⟨_, sab, ?_⟩; simp only [wk,if_true,if_false,forall_const,implies_true,ne_eq,eq_self,Nat.reduceEqDiff,Nat.reduceAdd,Nat.reduceMul,Nat.reduceSub,Nat.reduceLeDiff,Nat.reduceLT,Int.reduceEq,Int.reduceLT,Int.reduceLE,Int.reduceAdd,Int.reduceSub,Int.reduceMul,Int.reduceNeg,Int.reduceNe,reduceCtorEq,Int.reduceToNat,↓reduceIte]
  refine ⟨_, rab, ?_⟩; simp only [wk,if_true,if_false,forall_const,implies_true,ne_eq,eq_self,Nat.reduceEqDiff,Nat.reduceAdd,Nat.reduceMul,Nat.reduceSub,Nat.reduceLeDiff,Nat.reduceLT,Int.reduceEq,Int.reduceLT,Int.reduceLE,Int.reduceAdd,Int.reduceSub,Int.reduceMul,Int.reduceNeg,Int.reduceNe,reduceCtorEq,Int.reduceToNat,↓reduceIte]
  have full : ∀ {m : Lm}, encMN m = 0 → okM m = true := fun {m} h => by
    cases hh : okM m with
    | true => rfl
    | false => simp [encMN, hh] at h
  refine PCalls.use (ea) ?_; simp only [wk,if_true,if_false,forall_const,implies_true,ne_eq,eq_self,Nat.reduceEqDiff,Nat.reduceAdd,Nat.reduceMul,Nat.reduceSub,Nat.reduceLeDiff,Nat.reduceLT,Int.reduceEq,Int.reduceLT,Int.reduceLE,Int.reduceAdd,Int.reduceSub,Int.reduceMul,Int.reduceNeg,Int.reduceNe,reduceCtorEq,Int.reduceToNat,↓reduceIte]
  refine PCalls.use (eb) ?_; simp only [wk,if_true,if_false,forall_const,implies_true,ne_eq,eq_self,Nat.reduceEqDiff,Nat.reduceAdd,Nat.reduceMul,Nat.reduceSub,Nat.reduceLeDiff,Nat.reduceLT,Int.reduceEq,Int.reduceLT,Int.reduceLE,Int.reduceAdd,Int.reduceSub,Int.reduceMul,Int.reduceNeg,Int.reduceNe,reduceCtorEq,Int.reduceToNat,↓reduceIte]
  intro hea heb
  have oa := full hea
  have ob := full heb
  have hse := encMS_eq oa ob
  have hma := mac_eq oa ob
  simp only [macC] at hma
  rcases vMac_get oa with va | va <;> rcases vMac_get ob with vb | vb <;> rw [va] at ma <;> rw [vb] at mb
  all_goals
    simp only [macC, macZ] at ma mb
    refine PCalls.use (ma) ?_; simp only [wk,if_true,if_false,forall_const,implies_true,ne_eq,eq_self,Nat.reduceEqDiff,Nat.reduceAdd,Nat.reduceMul,Nat.reduceSub,Nat.reduceLeDiff,Nat.reduceLT,Int.reduceEq,Int.reduceLT,Int.reduceLE,Int.reduceAdd,Int.reduceSub,Int.reduceMul,Int.reduceNeg,Int.reduceNe,reduceCtorEq,Int.reduceToNat,↓reduceIte]
    refine PCalls.use (mb) ?_; simp only [wk,if_true,if_false,forall_const,implies_true,ne_eq,eq_self,Nat.reduceEqDiff,Nat.reduceAdd,Nat.reduceMul,Nat.reduceSub,Nat.reduceLeDiff,Nat.reduceLT,Int.reduceEq,Int.reduceLT,Int.reduceLE,Int.reduceAdd,Int.reduceSub,Int.reduceMul,Int.reduceNeg,Int.reduceNe,reduceCtorEq,Int.reduceToNat,↓reduceIte]
    refine PCalls.use (sab) ?_; simp only [wk,if_true,if_false,forall_const,implies_true,ne_eq,eq_self,Nat.reduceEqDiff,Nat.reduceAdd,Nat.reduceMul,Nat.reduceSub,Nat.reduceLeDiff,Nat.reduceLT,Int.reduceEq,Int.reduceLT,Int.reduceLE,Int.reduceAdd,Int.reduceSub,Int.reduceMul,Int.reduceNeg,Int.reduceNe,reduceCtorEq,Int.reduceToNat,↓reduceIte]
  all_goals first
    | (exact fun h => absurd hse.symm h)
    | (refine ⟨fun _ => ?_, fun h => absurd hse.symm h⟩
       rw [hma]
       simp only [wk,if_true,if_false,forall_const,implies_true,ne_eq,eq_self,Nat.reduceEqDiff,Nat.reduceAdd,Nat.reduceMul,Nat.reduceSub,Nat.reduceLeDiff,Nat.reduceLT,Int.reduceEq,Int.reduceLT,Int.reduceLE,Int.reduceAdd,Int.reduceSub,Int.reduceMul,Int.reduceNeg,Int.reduceNe,reduceCtorEq,Int.reduceToNat,↓reduceIte])
end Go.Proofs.Ytpjlkefadnbgdaa
