/- Texts of one proof, laid together: Yn Yo Yp Yq Yk. -/
import Derived.Test.YtpjlkefadnbgdaaGreatMV19
import Derived.Test.YtpjlkefadnbgdaaGreatMV15

/- The document's bytes of messages. -/
namespace Go.Proofs.YtpjlkefadnbgdaaGreat
set_option linter.unusedSimpArgs false
set_option linter.unusedVariables false
open Go.RowKit Go.Lib

set_option maxRecDepth 100000 in
set_option maxHeartbeats 16000000 in
theorem p_bytes22 (m : Lm) (hm : fitsE m = true) (hs : smallM m) : PCalls Tryz.prog 46 [vM m] (.str ⟨(msgB m).toArray⟩) := by
  refine pcalls_of (by simp [free.frees, free_vM]) rfl (acalls_of mixed J_ref22_bytes_ok (Nat.le_of_ble_eq_true rfl) ?_); simp only [J_ref22_bytes, vM, mC, wk,if_true,if_false,forall_const,implies_true,ne_eq,eq_self,Nat.reduceEqDiff,Nat.reduceAdd,Nat.reduceMul,Nat.reduceSub,Nat.reduceLeDiff,Nat.reduceLT,Int.reduceEq,Int.reduceLT,Int.reduceLE,Int.reduceAdd,Int.reduceSub,Int.reduceMul,Int.reduceNeg,Int.reduceNe,reduceCtorEq,Int.reduceToNat,↓reduceIte]
  obtain ⟨hc, g1, g5, f2, f3, f4⟩ := fits_get hm
  obtain ⟨hc8, hca⟩ := certsOk_all hc
  have hw : IntKind.i64.wrap (m.chan : Int) = m.chan := wrap_small (by omega) (by have := hs.1; omega)
  have hg := hs.1
  have lk := num9 (z := m.kind) (by omega)
  have lc : (num m.chan).length ≤ 9 := (num_len9 (by omega)).2
  have ln : (num m.certs.length).length ≤ 9 := (num_len9 (by omega)).2
  have pn : ∀ z : Int, 0 ≤ z → z ≤ 4611686018427387904 → PCalls Tryz.prog 97 [.int .i64 z] (.str ⟨(num z.toNat).toArray⟩) := fun z h0 h1 => by
    have := p_rnum z.toNat (by omega)
    rw [Int.toNat_of_nonneg h0] at this
    exact this
  refine PCalls.use (pn m.kind (by omega) (by omega)) ?_; simp only [wk,if_true,if_false,forall_const,implies_true,ne_eq,eq_self,Nat.reduceEqDiff,Nat.reduceAdd,Nat.reduceMul,Nat.reduceSub,Nat.reduceLeDiff,Nat.reduceLT,Int.reduceEq,Int.reduceLT,Int.reduceLE,Int.reduceAdd,Int.reduceSub,Int.reduceMul,Int.reduceNeg,Int.reduceNe,reduceCtorEq,Int.reduceToNat,↓reduceIte]
  refine ⟨fun k3 => ?_, fun k3 => ?_⟩
  · simp only [hw]
    refine PCalls.use (p_rnum m.chan (by omega)) ?_; simp only [wk,if_true,if_false,forall_const,implies_true,ne_eq,eq_self,Nat.reduceEqDiff,Nat.reduceAdd,Nat.reduceMul,Nat.reduceSub,Nat.reduceLeDiff,Nat.reduceLT,Int.reduceEq,Int.reduceLT,Int.reduceLE,Int.reduceAdd,Int.reduceSub,Int.reduceMul,Int.reduceNeg,Int.reduceNe,reduceCtorEq,Int.reduceToNat,↓reduceIte]
    refine ⟨by rw [ba_size, ba_size]; omega, ?_⟩
    rw [str_app2]
    simp only [J_ref22_bytes_j3, wk,if_true,if_false,forall_const,implies_true,ne_eq,eq_self,Nat.reduceEqDiff,Nat.reduceAdd,Nat.reduceMul,Nat.reduceSub,Nat.reduceLeDiff,Nat.reduceLT,Int.reduceEq,Int.reduceLT,Int.reduceLE,Int.reduceAdd,Int.reduceSub,Int.reduceMul,Int.reduceNeg,Int.reduceNe,reduceCtorEq,Int.reduceToNat,↓reduceIte]
    refine ⟨fun k2 => ?_, fun k2 => ⟨fun k3' => ?_, fun k3' => ⟨fun k4 => by omega, fun k4 => ?_⟩⟩⟩
    · obtain ⟨hsq, ha⟩ := f2 k2
      obtain ⟨o1, o2, p1, p2, z1, z2, hmm⟩ := asks_ok ha
      have ns := numOk_get hsq
      have l2 := num9 (z := m.seq) (by omega)
      have l3 := num9 (z := m.ask.object) (by omega)
      have l4 := num9 (z := m.ask.op) (by omega)
      have l5 := num9 (z := m.ask.arg) (by omega)
      refine ⟨_, pn m.seq (by omega) (by omega), ?_⟩; simp only [wk,if_true,if_false,forall_const,implies_true,ne_eq,eq_self,Nat.reduceEqDiff,Nat.reduceAdd,Nat.reduceMul,Nat.reduceSub,Nat.reduceLeDiff,Nat.reduceLT,Int.reduceEq,Int.reduceLT,Int.reduceLE,Int.reduceAdd,Int.reduceSub,Int.reduceMul,Int.reduceNeg,Int.reduceNe,reduceCtorEq,Int.reduceToNat,↓reduceIte]
      refine ⟨_, pn m.ask.object (by omega) (by omega), ?_⟩; simp only [wk,if_true,if_false,forall_const,implies_true,ne_eq,eq_self,Nat.reduceEqDiff,Nat.reduceAdd,Nat.reduceMul,Nat.reduceSub,Nat.reduceLeDiff,Nat.reduceLT,Int.reduceEq,Int.reduceLT,Int.reduceLE,Int.reduceAdd,Int.reduceSub,Int.reduceMul,Int.reduceNeg,Int.reduceNe,reduceCtorEq,Int.reduceToNat,↓reduceIte]
      refine ⟨by rw [ba_size, ba_size]; (try simp only [List.length_append]); omega, ?_⟩
      rw [str_app2]
      refine ⟨_, pn m.ask.op (by omega) (by omega), ?_⟩; simp only [wk,if_true,if_false,forall_const,implies_true,ne_eq,eq_self,Nat.reduceEqDiff,Nat.reduceAdd,Nat.reduceMul,Nat.reduceSub,Nat.reduceLeDiff,Nat.reduceLT,Int.reduceEq,Int.reduceLT,Int.reduceLE,Int.reduceAdd,Int.reduceSub,Int.reduceMul,Int.reduceNeg,Int.reduceNe,reduceCtorEq,Int.reduceToNat,↓reduceIte]
      refine ⟨by rw [ba_size, ba_size]; (try simp only [List.length_append]); omega, ?_⟩
      rw [str_app2]
      refine ⟨_, pn m.ask.arg (by omega) (by omega), ?_⟩; simp only [wk,if_true,if_false,forall_const,implies_true,ne_eq,eq_self,Nat.reduceEqDiff,Nat.reduceAdd,Nat.reduceMul,Nat.reduceSub,Nat.reduceLeDiff,Nat.reduceLT,Int.reduceEq,Int.reduceLT,Int.reduceLE,Int.reduceAdd,Int.reduceSub,Int.reduceMul,Int.reduceNeg,Int.reduceNe,reduceCtorEq,Int.reduceToNat,↓reduceIte]
      refine ⟨by rw [ba_size, ba_size]; (try simp only [List.length_append]); omega, ?_⟩
      rw [str_app2]
      refine ⟨by rw [ba_size, ba_size]; (try simp only [List.length_append]); omega, ?_⟩
      rw [str_app2]
      refine ⟨fun h2 => ?_, fun h2 => ?_⟩
      · obtain ⟨m1, m2, m3⟩ := mayEnt_ok (hmm (by omega))
        have l6 := num9 (z := m.ask.ent.op) (by omega)
        have l7 := setBytes_len m.ask.ent.who hs.2.1.1 hs.2.1.2
        refine ⟨_, pn m.ask.ent.op (by omega) (by omega), ?_⟩; simp only [wk,if_true,if_false,forall_const,implies_true,ne_eq,eq_self,Nat.reduceEqDiff,Nat.reduceAdd,Nat.reduceMul,Nat.reduceSub,Nat.reduceLeDiff,Nat.reduceLT,Int.reduceEq,Int.reduceLT,Int.reduceLE,Int.reduceAdd,Int.reduceSub,Int.reduceMul,Int.reduceNeg,Int.reduceNe,reduceCtorEq,Int.reduceToNat,↓reduceIte]
        refine ⟨_, p_rset m.ask.ent.who hs.2.1.1 hs.2.1.2, ?_⟩; simp only [wk,if_true,if_false,forall_const,implies_true,ne_eq,eq_self,Nat.reduceEqDiff,Nat.reduceAdd,Nat.reduceMul,Nat.reduceSub,Nat.reduceLeDiff,Nat.reduceLT,Int.reduceEq,Int.reduceLT,Int.reduceLE,Int.reduceAdd,Int.reduceSub,Int.reduceMul,Int.reduceNeg,Int.reduceNe,reduceCtorEq,Int.reduceToNat,↓reduceIte]
        refine ⟨by rw [ba_size, ba_size]; omega, ?_⟩
        rw [str_app2]
        refine ⟨by rw [ba_size, ba_size]; (try simp only [List.length_append]); omega, ?_⟩
        rw [str_app2]
        simp only [J_ref22_bytes_j1, wk,if_true,if_false,forall_const,implies_true,ne_eq,eq_self,Nat.reduceEqDiff,Nat.reduceAdd,Nat.reduceMul,Nat.reduceSub,Nat.reduceLeDiff,Nat.reduceLT,Int.reduceEq,Int.reduceLT,Int.reduceLE,Int.reduceAdd,Int.reduceSub,Int.reduceMul,Int.reduceNeg,Int.reduceNe,reduceCtorEq,Int.reduceToNat,↓reduceIte]
        have : 2 ≤ m.ask.op := by omega
        simp [msgB, askB, k2, this, List.append_assoc]
      · simp only [J_ref22_bytes_j1, wk,if_true,if_false,forall_const,implies_true,ne_eq,eq_self,Nat.reduceEqDiff,Nat.reduceAdd,Nat.reduceMul,Nat.reduceSub,Nat.reduceLeDiff,Nat.reduceLT,Int.reduceEq,Int.reduceLT,Int.reduceLE,Int.reduceAdd,Int.reduceSub,Int.reduceMul,Int.reduceNeg,Int.reduceNe,reduceCtorEq,Int.reduceToNat,↓reduceIte]
        have : ¬ 2 ≤ m.ask.op := by omega
        simp [msgB, askB, k2, this, List.append_assoc]
    · obtain ⟨hsq, he0, he1, hv⟩ := f3 k3'
      have ns := numOk_get hsq
      have nv := numOk_get hv
      have l2 := num9 (z := m.seq) (by omega)
      have l3 := num9 (z := m.err) (by omega)
      have l4 := num9 (z := m.value) (by omega)
      refine ⟨_, pn m.seq (by omega) (by omega), ?_⟩; simp only [wk,if_true,if_false,forall_const,implies_true,ne_eq,eq_self,Nat.reduceEqDiff,Nat.reduceAdd,Nat.reduceMul,Nat.reduceSub,Nat.reduceLeDiff,Nat.reduceLT,Int.reduceEq,Int.reduceLT,Int.reduceLE,Int.reduceAdd,Int.reduceSub,Int.reduceMul,Int.reduceNeg,Int.reduceNe,reduceCtorEq,Int.reduceToNat,↓reduceIte]
      refine ⟨_, pn m.err (by omega) (by omega), ?_⟩; simp only [wk,if_true,if_false,forall_const,implies_true,ne_eq,eq_self,Nat.reduceEqDiff,Nat.reduceAdd,Nat.reduceMul,Nat.reduceSub,Nat.reduceLeDiff,Nat.reduceLT,Int.reduceEq,Int.reduceLT,Int.reduceLE,Int.reduceAdd,Int.reduceSub,Int.reduceMul,Int.reduceNeg,Int.reduceNe,reduceCtorEq,Int.reduceToNat,↓reduceIte]
      refine ⟨by rw [ba_size, ba_size]; (try simp only [List.length_append]); omega, ?_⟩
      rw [str_app2]
      refine ⟨_, pn m.value (by omega) (by omega), ?_⟩; simp only [wk,if_true,if_false,forall_const,implies_true,ne_eq,eq_self,Nat.reduceEqDiff,Nat.reduceAdd,Nat.reduceMul,Nat.reduceSub,Nat.reduceLeDiff,Nat.reduceLT,Int.reduceEq,Int.reduceLT,Int.reduceLE,Int.reduceAdd,Int.reduceSub,Int.reduceMul,Int.reduceNeg,Int.reduceNe,reduceCtorEq,Int.reduceToNat,↓reduceIte]
      refine ⟨by rw [ba_size, ba_size]; (try simp only [List.length_append]); omega, ?_⟩
      rw [str_app2]
      refine ⟨by rw [ba_size, ba_size]; (try simp only [List.length_append]); omega, ?_⟩
      rw [str_app2]
      simp only [J_ref22_bytes_j1, wk,if_true,if_false,forall_const,implies_true,ne_eq,eq_self,Nat.reduceEqDiff,Nat.reduceAdd,Nat.reduceMul,Nat.reduceSub,Nat.reduceLeDiff,Nat.reduceLT,Int.reduceEq,Int.reduceLT,Int.reduceLE,Int.reduceAdd,Int.reduceSub,Int.reduceMul,Int.reduceNeg,Int.reduceNe,reduceCtorEq,Int.reduceToNat,↓reduceIte]
      simp [msgB, k3', List.append_assoc]
    · have k1 : m.kind = 1 := by omega
      refine PCalls.use (p_rnum m.certs.length (by omega)) ?_; simp only [wk,if_true,if_false,forall_const,implies_true,ne_eq,eq_self,Nat.reduceEqDiff,Nat.reduceAdd,Nat.reduceMul,Nat.reduceSub,Nat.reduceLeDiff,Nat.reduceLT,Int.reduceEq,Int.reduceLT,Int.reduceLE,Int.reduceAdd,Int.reduceSub,Int.reduceMul,Int.reduceNeg,Int.reduceNe,reduceCtorEq,Int.reduceToNat,↓reduceIte]
      refine ⟨by rw [ba_size, ba_size]; (try simp only [List.length_append]); omega, ?_⟩
      rw [str_app2]
      refine W_loop (fun n fr h' => ∃ (i : Nat) (ex : Hp), i ≤ m.certs.length ∧ n = m.certs.length - i ∧ h' = some (false, mC m) :: ex ∧ fr = [(1, .ptr 0 0), (3, .str ⟨((num m.kind.toNat ++ num m.chan) ++ (num m.certs.length ++ (m.certs.take i).flatMap crtB)).toArray⟩), (4, .int .i64 i)]) m.certs.length ⟨0, [], by omega, by omega, rfl, by simp [List.append_assoc]; rfl⟩ ?_
      rintro n fr h' ⟨i, ex, hi, rfl, rfl, rfl⟩
      simp only [J_ref22_bytes_j2, mC, wk,if_true,if_false,forall_const,implies_true,ne_eq,eq_self,Nat.reduceEqDiff,Nat.reduceAdd,Nat.reduceMul,Nat.reduceSub,Nat.reduceLeDiff,Nat.reduceLT,Int.reduceEq,Int.reduceLT,Int.reduceLE,Int.reduceAdd,Int.reduceSub,Int.reduceMul,Int.reduceNeg,Int.reduceNe,reduceCtorEq,Int.reduceToNat,↓reduceIte]
      refine ⟨fun hlt => ?_, fun hge => ?_⟩
      · have hil : i < m.certs.length := by omega
        have hd := certsC_at hil
        have hmem := List.getElem_mem hil
        have hin : ((0 ≤ (i : Int)) ∧ (i : Int) < (m.certs.length : Int)) = True := by simp; omega
        have q := p_rcenc m.certs[i] (hs.2.2.2.2 _ hmem)
        unfold encV at q
        rw [if_pos (hca _ hmem)] at q
        simp only [vC, cC] at q
        have hb := bytes_bound (hca _ hmem) (hs.2.2.2.2 _ hmem)
        have hbn := (num_len9 (n := (encBytes m.certs[i]).length) (by omega)).2
        have hpre : ((m.certs.take i).flatMap crtB).length ≤ 1000018 * 8 := by
          have := crts_len (l := m.certs.take i) (fun c hcm => hca c (List.mem_of_mem_take hcm)) (fun c hcm => hs.2.2.2.2 c (List.mem_of_mem_take hcm))
          have h2 : (m.certs.take i).length ≤ 8 := by simp; omega
          omega
        obtain ⟨B, hB⟩ : ∃ B, B = (num m.kind.toNat ++ num m.chan) ++ (num m.certs.length ++ (m.certs.take i).flatMap crtB) := ⟨_, rfl⟩
        have lB : B.length ≤ 10000000 := by rw [hB]; simp only [List.length_append]; omega
        rw [← hB]
        simp only [hin, hd, true_and, wk,if_true,if_false,forall_const,implies_true,ne_eq,eq_self,Nat.reduceEqDiff,Nat.reduceAdd,Nat.reduceMul,Nat.reduceSub,Nat.reduceLeDiff,Nat.reduceLT,Int.reduceEq,Int.reduceLT,Int.reduceLE,Int.reduceAdd,Int.reduceSub,Int.reduceMul,Int.reduceNeg,Int.reduceNe,reduceCtorEq,Int.reduceToNat,↓reduceIte]
        refine PCalls.use (q) ?_; simp only [wk,if_true,if_false,forall_const,implies_true,ne_eq,eq_self,Nat.reduceEqDiff,Nat.reduceAdd,Nat.reduceMul,Nat.reduceSub,Nat.reduceLeDiff,Nat.reduceLT,Int.reduceEq,Int.reduceLT,Int.reduceLE,Int.reduceAdd,Int.reduceSub,Int.reduceMul,Int.reduceNeg,Int.reduceNe,reduceCtorEq,Int.reduceToNat,↓reduceIte]
        rw [ba_size]
        refine PCalls.use (p_rnum (encBytes m.certs[i]).length (by omega)) ?_; simp only [wk,if_true,if_false,forall_const,implies_true,ne_eq,eq_self,Nat.reduceEqDiff,Nat.reduceAdd,Nat.reduceMul,Nat.reduceSub,Nat.reduceLeDiff,Nat.reduceLT,Int.reduceEq,Int.reduceLT,Int.reduceLE,Int.reduceAdd,Int.reduceSub,Int.reduceMul,Int.reduceNeg,Int.reduceNe,reduceCtorEq,Int.reduceToNat,↓reduceIte]
        refine ⟨by rw [ba_size, ba_size]; omega, ?_⟩
        rw [str_app2]
        refine ⟨by rw [ba_size, ba_size, List.length_append]; omega, ?_⟩
        rw [str_app2]
        refine ⟨inR_of (by omega) (by omega), m.certs.length - (i + 1), by omega, i + 1, ex ++ [], by omega, rfl, ?_, ?_⟩
        · simp [mC]
        · rw [hB, List.take_succ_eq_append_getElem hil, List.flatMap_append]
          simp [crtB, List.append_assoc]
      · have : i = m.certs.length := by omega
        subst this
        simp only [J_ref22_bytes_j1, wk,if_true,if_false,forall_const,implies_true,ne_eq,eq_self,Nat.reduceEqDiff,Nat.reduceAdd,Nat.reduceMul,Nat.reduceSub,Nat.reduceLeDiff,Nat.reduceLT,Int.reduceEq,Int.reduceLT,Int.reduceLE,Int.reduceAdd,Int.reduceSub,Int.reduceMul,Int.reduceNeg,Int.reduceNe,reduceCtorEq,Int.reduceToNat,↓reduceIte]
        rw [List.take_length]
        simp [msgB, crtsB, k1, List.append_assoc]
  · simp only [J_ref22_bytes_j3, wk,if_true,if_false,forall_const,implies_true,ne_eq,eq_self,Nat.reduceEqDiff,Nat.reduceAdd,Nat.reduceMul,Nat.reduceSub,Nat.reduceLeDiff,Nat.reduceLT,Int.reduceEq,Int.reduceLT,Int.reduceLE,Int.reduceAdd,Int.reduceSub,Int.reduceMul,Int.reduceNeg,Int.reduceNe,reduceCtorEq,Int.reduceToNat,↓reduceIte]
    refine ⟨fun k2 => by omega, fun k2 => ⟨fun k3' => by omega, fun k3' => ⟨fun k4 => ?_, fun k4 => ?_⟩⟩⟩
    · have hwl := wordMay_le (f4 k4)
      refine PCalls.use (p_rword m.word (by omega)) ?_; simp only [wk,if_true,if_false,forall_const,implies_true,ne_eq,eq_self,Nat.reduceEqDiff,Nat.reduceAdd,Nat.reduceMul,Nat.reduceSub,Nat.reduceLeDiff,Nat.reduceLT,Int.reduceEq,Int.reduceLT,Int.reduceLE,Int.reduceAdd,Int.reduceSub,Int.reduceMul,Int.reduceNeg,Int.reduceNe,reduceCtorEq,Int.reduceToNat,↓reduceIte]
      refine ⟨by rw [ba_size, ba_size]; simp [wordBytes]; omega, ?_⟩
      rw [str_app2]
      simp only [J_ref22_bytes_j1, wk,if_true,if_false,forall_const,implies_true,ne_eq,eq_self,Nat.reduceEqDiff,Nat.reduceAdd,Nat.reduceMul,Nat.reduceSub,Nat.reduceLeDiff,Nat.reduceLT,Int.reduceEq,Int.reduceLT,Int.reduceLE,Int.reduceAdd,Int.reduceSub,Int.reduceMul,Int.reduceNeg,Int.reduceNe,reduceCtorEq,Int.reduceToNat,↓reduceIte]
      simp [msgB, k4]
    · have k5 : m.kind = 5 := by omega
      refine PCalls.use (p_rnum m.certs.length (by omega)) ?_; simp only [wk,if_true,if_false,forall_const,implies_true,ne_eq,eq_self,Nat.reduceEqDiff,Nat.reduceAdd,Nat.reduceMul,Nat.reduceSub,Nat.reduceLeDiff,Nat.reduceLT,Int.reduceEq,Int.reduceLT,Int.reduceLE,Int.reduceAdd,Int.reduceSub,Int.reduceMul,Int.reduceNeg,Int.reduceNe,reduceCtorEq,Int.reduceToNat,↓reduceIte]
      refine ⟨by rw [ba_size, ba_size]; (try simp only [List.length_append]); omega, ?_⟩
      rw [str_app2]
      refine W_loop (fun n fr h' => ∃ (i : Nat) (ex : Hp), i ≤ m.certs.length ∧ n = m.certs.length - i ∧ h' = some (false, mC m) :: ex ∧ fr = [(1, .ptr 0 0), (3, .str ⟨(num m.kind.toNat ++ (num m.certs.length ++ (m.certs.take i).flatMap crtB)).toArray⟩), (4, .int .i64 i)]) m.certs.length ⟨0, [], by omega, by omega, rfl, by simp [List.append_assoc]; rfl⟩ ?_
      rintro n fr h' ⟨i, ex, hi, rfl, rfl, rfl⟩
      simp only [J_ref22_bytes_j2, mC, wk,if_true,if_false,forall_const,implies_true,ne_eq,eq_self,Nat.reduceEqDiff,Nat.reduceAdd,Nat.reduceMul,Nat.reduceSub,Nat.reduceLeDiff,Nat.reduceLT,Int.reduceEq,Int.reduceLT,Int.reduceLE,Int.reduceAdd,Int.reduceSub,Int.reduceMul,Int.reduceNeg,Int.reduceNe,reduceCtorEq,Int.reduceToNat,↓reduceIte]
      refine ⟨fun hlt => ?_, fun hge => ?_⟩
      · have hil : i < m.certs.length := by omega
        have hd := certsC_at hil
        have hmem := List.getElem_mem hil
        have hin : ((0 ≤ (i : Int)) ∧ (i : Int) < (m.certs.length : Int)) = True := by simp; omega
        have q := p_rcenc m.certs[i] (hs.2.2.2.2 _ hmem)
        unfold encV at q
        rw [if_pos (hca _ hmem)] at q
        simp only [vC, cC] at q
        have hb := bytes_bound (hca _ hmem) (hs.2.2.2.2 _ hmem)
        have hbn := (num_len9 (n := (encBytes m.certs[i]).length) (by omega)).2
        have hpre : ((m.certs.take i).flatMap crtB).length ≤ 1000018 * 8 := by
          have := crts_len (l := m.certs.take i) (fun c hcm => hca c (List.mem_of_mem_take hcm)) (fun c hcm => hs.2.2.2.2 c (List.mem_of_mem_take hcm))
          have h2 : (m.certs.take i).length ≤ 8 := by simp; omega
          omega
        obtain ⟨B, hB⟩ : ∃ B, B = num m.kind.toNat ++ (num m.certs.length ++ (m.certs.take i).flatMap crtB) := ⟨_, rfl⟩
        have lB : B.length ≤ 10000000 := by rw [hB]; simp only [List.length_append]; omega
        rw [← hB]
        simp only [hin, hd, true_and, wk,if_true,if_false,forall_const,implies_true,ne_eq,eq_self,Nat.reduceEqDiff,Nat.reduceAdd,Nat.reduceMul,Nat.reduceSub,Nat.reduceLeDiff,Nat.reduceLT,Int.reduceEq,Int.reduceLT,Int.reduceLE,Int.reduceAdd,Int.reduceSub,Int.reduceMul,Int.reduceNeg,Int.reduceNe,reduceCtorEq,Int.reduceToNat,↓reduceIte]
        refine PCalls.use (q) ?_; simp only [wk,if_true,if_false,forall_const,implies_true,ne_eq,eq_self,Nat.reduceEqDiff,Nat.reduceAdd,Nat.reduceMul,Nat.reduceSub,Nat.reduceLeDiff,Nat.reduceLT,Int.reduceEq,Int.reduceLT,Int.reduceLE,Int.reduceAdd,Int.reduceSub,Int.reduceMul,Int.reduceNeg,Int.reduceNe,reduceCtorEq,Int.reduceToNat,↓reduceIte]
        rw [ba_size]
        refine PCalls.use (p_rnum (encBytes m.certs[i]).length (by omega)) ?_; simp only [wk,if_true,if_false,forall_const,implies_true,ne_eq,eq_self,Nat.reduceEqDiff,Nat.reduceAdd,Nat.reduceMul,Nat.reduceSub,Nat.reduceLeDiff,Nat.reduceLT,Int.reduceEq,Int.reduceLT,Int.reduceLE,Int.reduceAdd,Int.reduceSub,Int.reduceMul,Int.reduceNeg,Int.reduceNe,reduceCtorEq,Int.reduceToNat,↓reduceIte]
        refine ⟨by rw [ba_size, ba_size]; omega, ?_⟩
        rw [str_app2]
        refine ⟨by rw [ba_size, ba_size, List.length_append]; omega, ?_⟩
        rw [str_app2]
        refine ⟨inR_of (by omega) (by omega), m.certs.length - (i + 1), by omega, i + 1, ex ++ [], by omega, rfl, ?_, ?_⟩
        · simp [mC]
        · rw [hB, List.take_succ_eq_append_getElem hil, List.flatMap_append]
          simp [crtB, List.append_assoc]
      · have : i = m.certs.length := by omega
        subst this
        simp only [J_ref22_bytes_j1, wk,if_true,if_false,forall_const,implies_true,ne_eq,eq_self,Nat.reduceEqDiff,Nat.reduceAdd,Nat.reduceMul,Nat.reduceSub,Nat.reduceLeDiff,Nat.reduceLT,Int.reduceEq,Int.reduceLT,Int.reduceLE,Int.reduceAdd,Int.reduceSub,Int.reduceMul,Int.reduceNeg,Int.reduceNe,reduceCtorEq,Int.reduceToNat,↓reduceIte]
        rw [List.take_length]
        simp [msgB, crtsB, k5, List.append_assoc]
end Go.Proofs.YtpjlkefadnbgdaaGreat

/- The document's Encode, May, Mac of messages. -/
namespace Go.Proofs.YtpjlkefadnbgdaaGreat
set_option linter.unusedSimpArgs false
set_option linter.unusedVariables false
open Go.RowKit Go.Lib

set_option maxRecDepth 100000 in
set_option maxHeartbeats 4000000 in
theorem p_renc22 (m : Lm) (hs : smallM m) : PCalls Tryz.prog 14 [vM m] (vEnc m) := by
  refine pcalls_of (by simp [free.frees, free_vM]) (by simp [vEnc, free, free.frees]) (acalls_of mixed J_ref22_Encode_ok (Nat.le_of_ble_eq_true rfl) ?_); simp only [J_ref22_Encode, vM, mC, wk,if_true,if_false,forall_const,implies_true,ne_eq,eq_self,Nat.reduceEqDiff,Nat.reduceAdd,Nat.reduceMul,Nat.reduceSub,Nat.reduceLeDiff,Nat.reduceLT,Int.reduceEq,Int.reduceLT,Int.reduceLE,Int.reduceAdd,Int.reduceSub,Int.reduceMul,Int.reduceNeg,Int.reduceNe,reduceCtorEq,Int.reduceToNat,↓reduceIte]
  have qr := p_fits22 m hs
  simp only [vM, mC] at qr
  refine PCalls.use (qr) ?_; simp only [wk,if_true,if_false,forall_const,implies_true,ne_eq,eq_self,Nat.reduceEqDiff,Nat.reduceAdd,Nat.reduceMul,Nat.reduceSub,Nat.reduceLeDiff,Nat.reduceLT,Int.reduceEq,Int.reduceLT,Int.reduceLE,Int.reduceAdd,Int.reduceSub,Int.reduceMul,Int.reduceNeg,Int.reduceNe,reduceCtorEq,Int.reduceToNat,↓reduceIte]
  have hno : okM m = false → (.tup [.str ⟨#[]⟩, .int .i64 2] : AV) = vEnc m := fun e => by simp [vEnc, encMS, encMN, e]
  refine ⟨fun hf => hno (by simp [okM, hf]), fun hf => ?_⟩
  have qw := p_bytes22 m hf hs
  simp only [vM, mC] at qw
  refine PCalls.use (qw) ?_; simp only [wk,if_true,if_false,forall_const,implies_true,ne_eq,eq_self,Nat.reduceEqDiff,Nat.reduceAdd,Nat.reduceMul,Nat.reduceSub,Nat.reduceLeDiff,Nat.reduceLT,Int.reduceEq,Int.reduceLT,Int.reduceLE,Int.reduceAdd,Int.reduceSub,Int.reduceMul,Int.reduceNeg,Int.reduceNe,reduceCtorEq,Int.reduceToNat,↓reduceIte]
  rw [ba_size]
  refine ⟨fun hg => hno ?_, fun hg => ?_⟩
  · simp only [okM, Bool.and_eq_false_iff, decide_eq_false_iff_not]; right; omega
  · have : okM m = true := by simp only [okM, hf, Bool.true_and, decide_eq_true_eq]; omega
    simp [vEnc, encMS, encMN, this]
theorem p_rmay22 (m : Lm) (hs : smallM m) : PCalls Tryz.prog 18 [vM m] (.bool (okM m)) := by
  refine pcalls_of (by simp [free.frees, free_vM]) rfl (acalls_of mixed J_ref22_May_ok (Nat.le_of_ble_eq_true rfl) ?_); simp only [J_ref22_May, vM, mC, wk,if_true,if_false,forall_const,implies_true,ne_eq,eq_self,Nat.reduceEqDiff,Nat.reduceAdd,Nat.reduceMul,Nat.reduceSub,Nat.reduceLeDiff,Nat.reduceLT,Int.reduceEq,Int.reduceLT,Int.reduceLE,Int.reduceAdd,Int.reduceSub,Int.reduceMul,Int.reduceNeg,Int.reduceNe,reduceCtorEq,Int.reduceToNat,↓reduceIte]
  have q := p_renc22 m hs
  simp only [vM, mC, vEnc] at q
  refine PCalls.use (q) ?_; simp only [wk,if_true,if_false,forall_const,implies_true,ne_eq,eq_self,Nat.reduceEqDiff,Nat.reduceAdd,Nat.reduceMul,Nat.reduceSub,Nat.reduceLeDiff,Nat.reduceLT,Int.reduceEq,Int.reduceLT,Int.reduceLE,Int.reduceAdd,Int.reduceSub,Int.reduceMul,Int.reduceNeg,Int.reduceNe,reduceCtorEq,Int.reduceToNat,↓reduceIte]
  refine bool_eq ?_
  unfold encMN
  split
  · next h => rw [h]; rfl
  · next h => simp only [Bool.not_eq_true] at h; rw [h]; rfl
set_option maxRecDepth 100000 in
set_option maxHeartbeats 4000000 in
theorem p_rmac22 (m : Lm) (hs : smallM m) : PCalls Tryz.prog 16 [vM m] (vMac m) := by
  refine pcalls_of (by simp [free.frees, free_vM]) (free_vMac m) (acalls_of mixed J_ref22_Mac_ok (Nat.le_of_ble_eq_true rfl) ?_); simp only [J_ref22_Mac, vM, mC, wk,if_true,if_false,forall_const,implies_true,ne_eq,eq_self,Nat.reduceEqDiff,Nat.reduceAdd,Nat.reduceMul,Nat.reduceSub,Nat.reduceLeDiff,Nat.reduceLT,Int.reduceEq,Int.reduceLT,Int.reduceLE,Int.reduceAdd,Int.reduceSub,Int.reduceMul,Int.reduceNeg,Int.reduceNe,reduceCtorEq,Int.reduceToNat,↓reduceIte]
  have q := p_renc22 m hs
  simp only [vM, mC, vEnc] at q
  have two : (m.kind = 2 ∨ m.kind = 3) → okM m = true → vMac m = .tup [.agg (macC m), .int .i64 0] := fun h1 h2 => by unfold vMac; rw [if_pos h1, if_pos h2]
  have bad : (m.kind = 2 ∨ m.kind = 3) → okM m = false → vMac m = .tup [.agg [.int .u16 0, .int .i64 0, .int .i64 0, .str ⟨#[]⟩], .int .i64 2] := fun h1 h2 => by unfold vMac; rw [if_pos h1, if_neg (by simp [h2])]
  have none : ¬ (m.kind = 2 ∨ m.kind = 3) → vMac m = .tup [.agg [.int .u16 0, .int .i64 0, .int .i64 0, .str ⟨#[]⟩], .int .i64 1] := fun h1 => by unfold vMac; rw [if_neg h1]
  have full : encMN m = 0 ↔ okM m = true := by unfold encMN; split <;> simp [*]
  have leaf : (m.kind = 2 ∨ m.kind = 3) → ∀ {P1 P2 : Prop}, (okM m = false → P1) → (okM m = true → P2) → (¬ encMN m = 0 → P1) ∧ (encMN m = 0 → P2) := fun _ P1 P2 h1 h2 => ⟨fun e => h1 (by cases h : okM m with | false => rfl | true => exact absurd (full.2 h) e), fun e => h2 (full.1 e)⟩
  refine ⟨fun k2 => ⟨fun k3 => ?_, fun k3 => ?_⟩, fun k2 => ?_⟩
  · simp only [valL, wk,if_true,if_false,forall_const,implies_true,ne_eq,eq_self,Nat.reduceEqDiff,Nat.reduceAdd,Nat.reduceMul,Nat.reduceSub,Nat.reduceLeDiff,Nat.reduceLT,Int.reduceEq,Int.reduceLT,Int.reduceLE,Int.reduceAdd,Int.reduceSub,Int.reduceMul,Int.reduceNeg,Int.reduceNe,reduceCtorEq,Int.reduceToNat,↓reduceIte]
    exact (none (by omega)).symm
  · refine PCalls.use (q) ?_; simp only [wk,if_true,if_false,forall_const,implies_true,ne_eq,eq_self,Nat.reduceEqDiff,Nat.reduceAdd,Nat.reduceMul,Nat.reduceSub,Nat.reduceLeDiff,Nat.reduceLT,Int.reduceEq,Int.reduceLT,Int.reduceLE,Int.reduceAdd,Int.reduceSub,Int.reduceMul,Int.reduceNeg,Int.reduceNe,reduceCtorEq,Int.reduceToNat,↓reduceIte]
    refine leaf (.inr k3) (fun h2 => ?_) (fun h2 => ?_)
    · simp only [valL, wk,if_true,if_false,forall_const,implies_true,ne_eq,eq_self,Nat.reduceEqDiff,Nat.reduceAdd,Nat.reduceMul,Nat.reduceSub,Nat.reduceLeDiff,Nat.reduceLT,Int.reduceEq,Int.reduceLT,Int.reduceLE,Int.reduceAdd,Int.reduceSub,Int.reduceMul,Int.reduceNeg,Int.reduceNe,reduceCtorEq,Int.reduceToNat,↓reduceIte]
      rw [bad (.inr k3) h2]
      simp [encMN, h2]
    · simp only [valL, wk,if_true,if_false,forall_const,implies_true,ne_eq,eq_self,Nat.reduceEqDiff,Nat.reduceAdd,Nat.reduceMul,Nat.reduceSub,Nat.reduceLeDiff,Nat.reduceLT,Int.reduceEq,Int.reduceLT,Int.reduceLE,Int.reduceAdd,Int.reduceSub,Int.reduceMul,Int.reduceNeg,Int.reduceNe,reduceCtorEq,Int.reduceToNat,↓reduceIte]
      refine ⟨inR_of (by omega) (by omega), ?_⟩
      rw [two (.inr k3) h2]
      simp [macC, k3, encMS, h2]
  · refine PCalls.use (q) ?_; simp only [wk,if_true,if_false,forall_const,implies_true,ne_eq,eq_self,Nat.reduceEqDiff,Nat.reduceAdd,Nat.reduceMul,Nat.reduceSub,Nat.reduceLeDiff,Nat.reduceLT,Int.reduceEq,Int.reduceLT,Int.reduceLE,Int.reduceAdd,Int.reduceSub,Int.reduceMul,Int.reduceNeg,Int.reduceNe,reduceCtorEq,Int.reduceToNat,↓reduceIte]
    refine leaf (.inl k2) (fun h2 => ?_) (fun h2 => ?_)
    · simp only [valL, wk,if_true,if_false,forall_const,implies_true,ne_eq,eq_self,Nat.reduceEqDiff,Nat.reduceAdd,Nat.reduceMul,Nat.reduceSub,Nat.reduceLeDiff,Nat.reduceLT,Int.reduceEq,Int.reduceLT,Int.reduceLE,Int.reduceAdd,Int.reduceSub,Int.reduceMul,Int.reduceNeg,Int.reduceNe,reduceCtorEq,Int.reduceToNat,↓reduceIte]
      rw [bad (.inl k2) h2]
      simp [encMN, h2]
    · simp only [valL, wk,if_true,if_false,forall_const,implies_true,ne_eq,eq_self,Nat.reduceEqDiff,Nat.reduceAdd,Nat.reduceMul,Nat.reduceSub,Nat.reduceLeDiff,Nat.reduceLT,Int.reduceEq,Int.reduceLT,Int.reduceLE,Int.reduceAdd,Int.reduceSub,Int.reduceMul,Int.reduceNeg,Int.reduceNe,reduceCtorEq,Int.reduceToNat,↓reduceIte]
      refine ⟨inR_of (by omega) (by omega), ?_⟩
      rw [two (.inl k2) h2]
      simp [macC, k2, encMS, h2]
end Go.Proofs.YtpjlkefadnbgdaaGreat

/- The document's Decode of messages. -/
namespace Go.Proofs.YtpjlkefadnbgdaaGreat
set_option linter.unusedSimpArgs false
set_option linter.unusedVariables false
open Go.RowKit Go.Lib

end Go.Proofs.YtpjlkefadnbgdaaGreat

/- LetterTells and LetterReads, over the abstract code. -/
namespace Go.Proofs.YtpjlkefadnbgdaaGreat
set_option linter.unusedSimpArgs false
set_option linter.unusedVariables false
open Go.RowKit Go.Lib

theorem mac_self (g : Int) (k q : Int) (s : ByteArray) : eqCells [0, 0, 0, 1] [.int .u16 g, .int .i64 k, .int .i64 q, .str s] [.int .u16 g, .int .i64 k, .int .i64 q, .str s] = some true := by
  simp [eqCells, eqCell]
theorem vMac_any (m : Lm) : ∃ g k q s e, vMac m = .tup [.agg [.int .u16 g, .int .i64 k, .int .i64 q, .str s], .int .i64 e] := by
  unfold vMac
  split
  · split
    · exact ⟨_, _, _, _, _, rfl⟩
    · exact ⟨_, _, _, _, _, rfl⟩
  · exact ⟨_, _, _, _, _, rfl⟩
set_option maxRecDepth 100000 in
set_option maxHeartbeats 8000000 in
theorem a_ltells (m : Lm) (hg : m.chan < 65536) (hsg : ∀ c ∈ m.certs, c.signer < 65536) : ACalls Tryz.prog 3 [vM m] [] (fun a _ => a = .bool true) := by
  refine acalls_of mixed J_law22_LetterTells_ok (Nat.le_of_ble_eq_true rfl) ?_; simp only [J_law22_LetterTells, vM, mC, wk,if_true,if_false,forall_const,implies_true,ne_eq,eq_self,Nat.reduceEqDiff,Nat.reduceAdd,Nat.reduceMul,Nat.reduceSub,Nat.reduceLeDiff,Nat.reduceLT,Int.reduceEq,Int.reduceLT,Int.reduceLE,Int.reduceAdd,Int.reduceSub,Int.reduceMul,Int.reduceNeg,Int.reduceNe,reduceCtorEq,Int.reduceToNat,↓reduceIte]
  have ql := p_large22 m
  simp only [vM, mC] at ql
  refine PCalls.use (p_awake22) ?_; simp only [wk,if_true,if_false,forall_const,implies_true,ne_eq,eq_self,Nat.reduceEqDiff,Nat.reduceAdd,Nat.reduceMul,Nat.reduceSub,Nat.reduceLeDiff,Nat.reduceLT,Int.reduceEq,Int.reduceLT,Int.reduceLE,Int.reduceAdd,Int.reduceSub,Int.reduceMul,Int.reduceNeg,Int.reduceNe,reduceCtorEq,Int.reduceToNat,↓reduceIte]
  refine PCalls.use (ql) ?_; simp only [wk,if_true,if_false,forall_const,implies_true,ne_eq,eq_self,Nat.reduceEqDiff,Nat.reduceAdd,Nat.reduceMul,Nat.reduceSub,Nat.reduceLeDiff,Nat.reduceLT,Int.reduceEq,Int.reduceLT,Int.reduceLE,Int.reduceAdd,Int.reduceSub,Int.reduceMul,Int.reduceNeg,Int.reduceNe,reduceCtorEq,Int.reduceToNat,↓reduceIte]
  intro hl
  have sm := not_large22 hg hsg hl
  have e1 := p_lenc m sm
  have e2 := p_renc22 m sm
  have m1 := p_lmac m sm
  have m2 := p_rmac22 m sm
  have y1 := p_lmay m sm
  have y2 := p_rmay22 m sm
  obtain ⟨g, k, q, s, e, hv⟩ := vMac_any m
  rw [hv] at m1 m2
  simp only [vM, mC, vEnc] at e1 e2 m1 m2 y1 y2
  refine PCalls.use (e1) ?_; simp only [wk,if_true,if_false,forall_const,implies_true,ne_eq,eq_self,Nat.reduceEqDiff,Nat.reduceAdd,Nat.reduceMul,Nat.reduceSub,Nat.reduceLeDiff,Nat.reduceLT,Int.reduceEq,Int.reduceLT,Int.reduceLE,Int.reduceAdd,Int.reduceSub,Int.reduceMul,Int.reduceNeg,Int.reduceNe,reduceCtorEq,Int.reduceToNat,↓reduceIte]
  refine PCalls.use (e2) ?_; simp only [wk,if_true,if_false,forall_const,implies_true,ne_eq,eq_self,Nat.reduceEqDiff,Nat.reduceAdd,Nat.reduceMul,Nat.reduceSub,Nat.reduceLeDiff,Nat.reduceLT,Int.reduceEq,Int.reduceLT,Int.reduceLE,Int.reduceAdd,Int.reduceSub,Int.reduceMul,Int.reduceNeg,Int.reduceNe,reduceCtorEq,Int.reduceToNat,↓reduceIte]
  refine PCalls.use (m1) ?_; simp only [wk,if_true,if_false,forall_const,implies_true,ne_eq,eq_self,Nat.reduceEqDiff,Nat.reduceAdd,Nat.reduceMul,Nat.reduceSub,Nat.reduceLeDiff,Nat.reduceLT,Int.reduceEq,Int.reduceLT,Int.reduceLE,Int.reduceAdd,Int.reduceSub,Int.reduceMul,Int.reduceNeg,Int.reduceNe,reduceCtorEq,Int.reduceToNat,↓reduceIte]
  refine PCalls.use (m2) ?_; simp only [wk,if_true,if_false,forall_const,implies_true,ne_eq,eq_self,Nat.reduceEqDiff,Nat.reduceAdd,Nat.reduceMul,Nat.reduceSub,Nat.reduceLeDiff,Nat.reduceLT,Int.reduceEq,Int.reduceLT,Int.reduceLE,Int.reduceAdd,Int.reduceSub,Int.reduceMul,Int.reduceNeg,Int.reduceNe,reduceCtorEq,Int.reduceToNat,↓reduceIte]
  rw [mac_self]
  simp only [wk,if_true,if_false,forall_const,implies_true,ne_eq,eq_self,Nat.reduceEqDiff,Nat.reduceAdd,Nat.reduceMul,Nat.reduceSub,Nat.reduceLeDiff,Nat.reduceLT,Int.reduceEq,Int.reduceLT,Int.reduceLE,Int.reduceAdd,Int.reduceSub,Int.reduceMul,Int.reduceNeg,Int.reduceNe,reduceCtorEq,Int.reduceToNat,↓reduceIte]
  refine ⟨_, y1, ?_⟩; simp only [wk,if_true,if_false,forall_const,implies_true,ne_eq,eq_self,Nat.reduceEqDiff,Nat.reduceAdd,Nat.reduceMul,Nat.reduceSub,Nat.reduceLeDiff,Nat.reduceLT,Int.reduceEq,Int.reduceLT,Int.reduceLE,Int.reduceAdd,Int.reduceSub,Int.reduceMul,Int.reduceNeg,Int.reduceNe,reduceCtorEq,Int.reduceToNat,↓reduceIte]
  refine ⟨_, y2, ?_⟩; simp only [wk,if_true,if_false,forall_const,implies_true,ne_eq,eq_self,Nat.reduceEqDiff,Nat.reduceAdd,Nat.reduceMul,Nat.reduceSub,Nat.reduceLeDiff,Nat.reduceLT,Int.reduceEq,Int.reduceLT,Int.reduceLE,Int.reduceAdd,Int.reduceSub,Int.reduceMul,Int.reduceNeg,Int.reduceNe,reduceCtorEq,Int.reduceToNat,↓reduceIte]
end Go.Proofs.YtpjlkefadnbgdaaGreat

/- LetterApart, over the abstract code. -/
namespace Go.Proofs.YtpjlkefadnbgdaaGreat
set_option linter.unusedSimpArgs false
set_option linter.unusedVariables false
open Go.RowKit Go.Lib

end Go.Proofs.YtpjlkefadnbgdaaGreat
