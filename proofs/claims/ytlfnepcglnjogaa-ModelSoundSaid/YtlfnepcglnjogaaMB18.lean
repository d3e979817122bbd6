/- Texts of one proof, laid together: Wd. -/
import Derived.Test.YtlfnepcglnjogaaMB17

/- ModelSound, over the abstract code. -/
-- fast
namespace Go.Proofs.Ytlfnepcglnjogaa
set_option linter.unusedSimpArgs false
set_option linter.unusedVariables false
open Go.RowKit Go.Lib

theorem orR_zero : ∀ {r : Rl}, r.length = 8 → orR zR r = r := by
  intro r hr
  refine List.ext_getElem (by simp [orR, zR, hr]) fun i h1 h2 => ?_
  have hz : zR = List.replicate 8 0 := rfl
  have hg : zR[i]'(by rw [hz]; simp; omega) = 0 := by
    have : ∀ (l : Rl) (h : i < l.length), l = List.replicate 8 0 → l[i] = 0 := by intro l h e; subst e; exact List.getElem_replicate h
    exact this _ _ hz
  simp only [orR, List.getElem_zipWith, hg, UInt8.zero_or]
theorem setN_one (l : List Row) (w : ByteArray) : setN l [w] = wordR l w := orR_zero (wordR_length l w)
theorem setMay_one {v : ByteArray} (h : wordMay v = true) : setMay [v] = true := setMay_mk (by simp) (by simp) (by intro x hx; simp at hx; subst hx; exact h) rfl
theorem step_len {rules : List RlB} {bound : Nat} {v : ByteArray} {a k : Nat} {st st' : List ByteArray} (hs : st.length ≤ bound) (h : stepF rules bound v a k st = some st') : st'.length ≤ bound := by
  unfold stepF at h
  split at h
  · injection h with h; rw [← h]; exact hs
  · split at h
    · injection h with h; rw [← h]; exact hs
    · split at h
      · cases h
      · injection h with h
        rw [← h, List.length_append, List.length_cons, List.length_nil]
        omega
theorem kLoop_len {rules : List RlB} {bound : Nat} {v : ByteArray} {a : Nat} : ∀ (f k : Nat) (st st' : List ByteArray), st.length ≤ bound → kLoop rules bound v a f k st = some st' → st'.length ≤ bound
  | 0, _, st, st', hs, h => by simp only [kLoop] at h; injection h with h; rw [← h]; exact hs
  | f + 1, k, st, st', hs, h => by
    simp only [kLoop] at h
    cases h1 : stepF rules bound v a k st with
    | none => rw [h1] at h; cases h
    | some s1 => rw [h1] at h; exact kLoop_len f (k + 1) s1 st' (step_len hs h1) h
theorem aLoop_len {rules : List RlB} {bound : Nat} {v : ByteArray} : ∀ (f a : Nat) (st st' : List ByteArray), st.length ≤ bound → aLoop rules bound v f a st = some st' → st'.length ≤ bound
  | 0, _, st, st', hs, h => by simp only [aLoop] at h; injection h with h; rw [← h]; exact hs
  | f + 1, a, st, st', hs, h => by
    simp only [aLoop] at h
    cases h1 : kLoop rules bound v a rules.length 0 st with
    | none => rw [h1] at h; cases h
    | some s1 => rw [h1] at h; exact aLoop_len f (a + 1) s1 st' (kLoop_len _ _ _ _ hs h1) h
theorem iLoop_len {rules : List RlB} {bound : Nat} : ∀ (f i : Nat) (st st' : List ByteArray), st.length ≤ bound → iLoop rules bound f i st = some st' → st'.length ≤ bound
  | 0, _, st, st', hs, h => by simp only [iLoop] at h; injection h with h; rw [← h]; exact hs
  | f + 1, i, st, st', hs, h => by
    simp only [iLoop] at h
    split at h
    · cases h1 : aLoop rules bound (st.getD i ⟨#[]⟩) ((st.getD i ⟨#[]⟩).size / 2) 0 st with
      | none => rw [h1] at h; cases h
      | some s1 => rw [h1] at h; exact iLoop_len f (i + 1) s1 st' (aLoop_len _ _ _ _ hs h1) h
    · injection h with h; rw [← h]; exact hs
theorem find_len {rules : List RlB} {w : ByteArray} {bound : Nat} (hb : 1 ≤ bound) : (findE rules w bound).1.length ≤ bound := by
  unfold findE
  split
  · simp
  · split
    · simp
    · split
      · simp
      · next h => exact iLoop_len _ _ _ _ (by simp; omega) h
set_option maxRecDepth 100000 in
set_option maxHeartbeats 8000000 in
theorem sound_j4 (m : Mdl) (hm : smallMd m) (hmay : mdMay m = true) (rules : List RlB) (hr : smallR rules) (hri : RulesIn m.rows rules) (h : Hp) (q : Nat) (st : Bool) (z : AV) (h0 : h[0]? = some (some (false, [.int .i64 m.n, .lst .ro m.rows.length (rowsC m.rows)]))) (h1 : h[q]? = some (some (st, [z, .lst .ro rules.length (rulB rules)]))) :
    W Try.prog J_law14_ModelSound_j4 [(4, .ptr 0 0), (17, .ptr q 0)] h (kret [.t 8] fun a _ => a = .bool true) := by
  have hrl := hr.1
  simp only [J_law14_ModelSound_j4, h1, wk,if_true,if_false,forall_const,implies_true,ne_eq,eq_self,Nat.reduceEqDiff,Nat.reduceAdd,Nat.reduceMul,Nat.reduceSub,Nat.reduceLeDiff,Nat.reduceLT,Int.reduceEq,Int.reduceLT,Int.reduceLE,Int.reduceAdd,Int.reduceSub,Int.reduceMul,Int.reduceNeg,Int.reduceNe,reduceCtorEq,Int.reduceToNat,↓reduceIte]
  refine W_loop (fun n fr h' => ∃ i : Nat, i ≤ rules.length ∧ n = rules.length - i ∧ fr = [(4, .ptr 0 0), (149, .lst .ro rules.length (rulB rules)), (150, .int .i64 rules.length), (151, .int .i64 i)] ∧ h'[0]? = some (some (false, [.int .i64 m.n, .lst .ro m.rows.length (rowsC m.rows)]))) rules.length ⟨0, by omega, by omega, rfl, h0⟩ ?_
  rintro n fr h' ⟨i, hi, rfl, rfl, g0⟩
  simp only [J_law14_ModelSound_j3, wk,if_true,if_false,forall_const,implies_true,ne_eq,eq_self,Nat.reduceEqDiff,Nat.reduceAdd,Nat.reduceMul,Nat.reduceSub,Nat.reduceLeDiff,Nat.reduceLT,Int.reduceEq,Int.reduceLT,Int.reduceLE,Int.reduceAdd,Int.reduceSub,Int.reduceMul,Int.reduceNeg,Int.reduceNe,reduceCtorEq,Int.reduceToNat,↓reduceIte]
  refine ⟨fun hlt => ?_, fun hge => ?_⟩
  · have hil : i < rules.length := by omega
    have hin : ((0 ≤ (i : Int)) ∧ (i : Int) < (rules.length : Int)) = True := eqT ⟨by omega, by omega⟩
    have hd := rulB_drop hil
    have hmem := List.getElem_mem hil
    have hs := hr.2 _ hmem
    have hrx := hri _ hmem
    generalize rules[i] = r at hd hs hrx
    have g1 : ∀ x, (h' ++ [x])[0]? = some (some (false, [.int .i64 m.n, .lst .ro m.rows.length (rowsC m.rows)])) := fun x => by rw [List.getElem?_append_left (lt_of_get g0)]; exact g0
    have qc := p_rcounts r hs.1 hs.2
    simp only [hin, Int.toNat_natCast, hd, g1, wk,if_true,if_false,forall_const,implies_true,ne_eq,eq_self,Nat.reduceEqDiff,Nat.reduceAdd,Nat.reduceMul,Nat.reduceSub,Nat.reduceLeDiff,Nat.reduceLT,Int.reduceEq,Int.reduceLT,Int.reduceLE,Int.reduceAdd,Int.reduceSub,Int.reduceMul,Int.reduceNeg,Int.reduceNe,reduceCtorEq,Int.reduceToNat,↓reduceIte]
    refine PCalls.use qc ?_
    cases hc : countsE r with
    | false =>
      simp only [J_law14_ModelSound_j2, g1, wk,if_true,if_false,forall_const,implies_true,ne_eq,eq_self,Nat.reduceEqDiff,Nat.reduceAdd,Nat.reduceMul,Nat.reduceSub,Nat.reduceLeDiff,Nat.reduceLT,Int.reduceEq,Int.reduceLT,Int.reduceLE,Int.reduceAdd,Int.reduceSub,Int.reduceMul,Int.reduceNeg,Int.reduceNe,reduceCtorEq,Int.reduceToNat,↓reduceIte]
      exact ⟨inR_of (by omega) (by omega), rules.length - (i + 1), by omega, i + 1, by omega, rfl, by simp⟩
    | true =>
      simp only [countsE, Bool.and_eq_true] at hc
      have z1 := wordMay_size hc.1.1
      have z2 := wordMay_size hc.1.2
      have qh := p_mHolds m r.1 r.2 hm (by omega) (by omega)
      rw [hmay, hc.1.1, hc.1.2, hrx (by simp only [countsE, Bool.and_eq_true]; exact hc)] at qh
      simp only [mdV, tupB, Bool.and_self, if_true] at qh
      simp only [g1, wk,if_true,if_false,forall_const,implies_true,ne_eq,eq_self,Nat.reduceEqDiff,Nat.reduceAdd,Nat.reduceMul,Nat.reduceSub,Nat.reduceLeDiff,Nat.reduceLT,Int.reduceEq,Int.reduceLT,Int.reduceLE,Int.reduceAdd,Int.reduceSub,Int.reduceMul,Int.reduceNeg,Int.reduceNe,reduceCtorEq,Int.reduceToNat,↓reduceIte]
      refine PCalls.use qh ?_
      simp only [J_law14_ModelSound_j2, g1, wk,if_true,if_false,forall_const,implies_true,ne_eq,eq_self,Nat.reduceEqDiff,Nat.reduceAdd,Nat.reduceMul,Nat.reduceSub,Nat.reduceLeDiff,Nat.reduceLT,Int.reduceEq,Int.reduceLT,Int.reduceLE,Int.reduceAdd,Int.reduceSub,Int.reduceMul,Int.reduceNeg,Int.reduceNe,reduceCtorEq,Int.reduceToNat,↓reduceIte]
      exact ⟨inR_of (by omega) (by omega), rules.length - (i + 1), by omega, i + 1, by omega, rfl, by simp⟩
  · simp only [J_law14_ModelSound_j1, wk,if_true,if_false,forall_const,implies_true,ne_eq,eq_self,Nat.reduceEqDiff,Nat.reduceAdd,Nat.reduceMul,Nat.reduceSub,Nat.reduceLeDiff,Nat.reduceLT,Int.reduceEq,Int.reduceLT,Int.reduceLE,Int.reduceAdd,Int.reduceSub,Int.reduceMul,Int.reduceNeg,Int.reduceNe,reduceCtorEq,Int.reduceToNat,↓reduceIte]
set_option maxRecDepth 100000 in
set_option maxHeartbeats 8000000 in
theorem sound_j6 (m : Mdl) (hm : smallMd m) (hmay : mdMay m = true) (roots : List RlB) (hr : smallR roots) (hrl : roots.length ≤ 12) (hri : RulesIn m.rows roots) (certs : List Crt) (hcl : certs.length ≤ 8) (hcs : ∀ c ∈ certs, smallC c) (hh : ∀ c ∈ certs, honestE m c = true) (w : ByteArray) (hw : w.size ≤ 100) (h : Hp) (h0 : h[0]? = some (some (false, [.int .i64 m.n, .lst .ro m.rows.length (rowsC m.rows)]))) :
    W Try.prog J_law14_ModelSound_j6 [(1, .lst .ro roots.length (rulB roots)), (2, .lst .ro certs.length (crtsC certs)), (3, .str w), (4, .ptr 0 0)] h (kret [.t 8] fun a _ => a = .bool true) := by
  have qr := p_rrun roots hr certs (by omega) hcs 40 (by omega)
  have hsr := run_small (bound := 40) hr (by omega) (by omega) hcs
  have hin2 := run_inn (bound := 40) hri hh
  obtain ⟨⟨⟨ord, rules⟩, e⟩, hR⟩ : ∃ T, runE roots certs 40 = T := ⟨_, rfl⟩
  rw [hR] at qr hsr hin2
  simp only [vRes, vRul] at qr hsr hin2
  have hrl := hsr.1
  have g1 : ∀ x, (h ++ [x])[0]? = some (some (false, [.int .i64 m.n, .lst .ro m.rows.length (rowsC m.rows)])) := fun x => by rw [List.getElem?_append_left (lt_of_get h0)]; exact h0
  simp only [J_law14_ModelSound_j6, wk,if_true,if_false,forall_const,implies_true,ne_eq,eq_self,Nat.reduceEqDiff,Nat.reduceAdd,Nat.reduceMul,Nat.reduceSub,Nat.reduceLeDiff,Nat.reduceLT,Int.reduceEq,Int.reduceLT,Int.reduceLE,Int.reduceAdd,Int.reduceSub,Int.reduceMul,Int.reduceNeg,Int.reduceNe,reduceCtorEq,Int.reduceToNat,↓reduceIte]
  refine PCalls.use qr ?_
  simp only [g1, wk,if_true,if_false,forall_const,implies_true,ne_eq,eq_self,Nat.reduceEqDiff,Nat.reduceAdd,Nat.reduceMul,Nat.reduceSub,Nat.reduceLeDiff,Nat.reduceLT,Int.reduceEq,Int.reduceLT,Int.reduceLE,Int.reduceAdd,Int.reduceSub,Int.reduceMul,Int.reduceNeg,Int.reduceNe,reduceCtorEq,Int.reduceToNat,↓reduceIte]
  intro he
  have qa := p_rall rules hsr w (by omega) 40 (by omega)
  simp only [vRul] at qa
  have hled := find_led (l := m.rows) hin2 (w := w) (bound := 40)
  have hwm : (findE rules w 40).2 = 0 → wordMay w = true := fun h => by
    unfold findE at h
    split at h
    · cases h
    · next hw => simpa using hw
  have hfl := find_len (rules := rules) (w := w) (bound := 40) (by omega)
  generalize findE rules w 40 = F at qa hled hwm hfl
  obtain ⟨st, f⟩ := F
  simp only at hled hwm qa hfl
  by_cases hf : f = 0
  · subst hf
    simp only [if_true] at qa
    have hw2 := hwm rfl
    refine PCalls.use (qa) ?_; simp only [wk,if_true,if_false,forall_const,implies_true,ne_eq,eq_self,Nat.reduceEqDiff,Nat.reduceAdd,Nat.reduceMul,Nat.reduceSub,Nat.reduceLeDiff,Nat.reduceLT,Int.reduceEq,Int.reduceLT,Int.reduceLE,Int.reduceAdd,Int.reduceSub,Int.reduceMul,Int.reduceNeg,Int.reduceNe,reduceCtorEq,Int.reduceToNat,↓reduceIte]
    generalize hH : h ++ [some (true, [.lst .ro ord.length (natC ord), .lst .ro rules.length (rulB rules)])] = H
    have e0 : H[0]? = some (some (false, [.int .i64 m.n, .lst .ro m.rows.length (rowsC m.rows)])) := by rw [← hH]; exact g1 _
    have e1 : H[h.length]? = some (some (true, [.lst .ro ord.length (natC ord), .lst .ro rules.length (rulB rules)])) := by rw [← hH]; exact List.getElem?_concat_length
    refine W_loop (fun n fr h' => ∃ i : Nat, i ≤ st.length ∧ n = st.length - i ∧ fr = [(3, .str w), (4, .ptr 0 0), (17, .ptr h.length 0), (126, .lst .ro st.length (st.map .str)), (127, .int .i64 st.length), (128, .int .i64 i)] ∧ h' = H) st.length ⟨0, by omega, by omega, rfl, rfl⟩ ?_
    rintro n fr h' ⟨i, hi, rfl, rfl, rfl⟩
    simp only [J_law14_ModelSound_j5, wk,if_true,if_false,forall_const,implies_true,ne_eq,eq_self,Nat.reduceEqDiff,Nat.reduceAdd,Nat.reduceMul,Nat.reduceSub,Nat.reduceLeDiff,Nat.reduceLT,Int.reduceEq,Int.reduceLT,Int.reduceLE,Int.reduceAdd,Int.reduceSub,Int.reduceMul,Int.reduceNeg,Int.reduceNe,reduceCtorEq,Int.reduceToNat,↓reduceIte]
    refine ⟨fun hlt => ?_, fun hge => ?_⟩
    · have hil : i < st.length := by omega
      have hin : ((0 ≤ (i : Int)) ∧ (i : Int) < (st.length : Int)) = True := eqT ⟨by omega, by omega⟩
      have hd := strs_at hil
      obtain ⟨v1, v2, v3⟩ := hled _ (List.getElem_mem hil)
      generalize st[i] = v at hd v1 v2 v3
      have qs := p_mSpeaks m [v] [w] hm ⟨by simp, by simp; omega⟩ ⟨by simp, by simp; omega⟩
      rw [hmay, setMay_one v1, setMay_one hw2, setN_one, setN_one, v3] at qs
      simp only [mdV, tupB, Bool.and_self, if_true, List.length_cons, List.length_nil, List.map_cons, List.map_nil, Nat.zero_add] at qs
      simp only [hin, Int.toNat_natCast, hd, e0, wk,if_true,if_false,forall_const,implies_true,ne_eq,eq_self,Nat.reduceEqDiff,Nat.reduceAdd,Nat.reduceMul,Nat.reduceSub,Nat.reduceLeDiff,Nat.reduceLT,Int.reduceEq,Int.reduceLT,Int.reduceLE,Int.reduceAdd,Int.reduceSub,Int.reduceMul,Int.reduceNeg,Int.reduceNe,reduceCtorEq,Int.reduceToNat,↓reduceIte]
      refine PCalls.use qs ?_
      simp only [e0, wk,if_true,if_false,forall_const,implies_true,ne_eq,eq_self,Nat.reduceEqDiff,Nat.reduceAdd,Nat.reduceMul,Nat.reduceSub,Nat.reduceLeDiff,Nat.reduceLT,Int.reduceEq,Int.reduceLT,Int.reduceLE,Int.reduceAdd,Int.reduceSub,Int.reduceMul,Int.reduceNeg,Int.reduceNe,reduceCtorEq,Int.reduceToNat,↓reduceIte]
      exact ⟨inR_of (by omega) (by omega), st.length - (i + 1), by omega, i + 1, by omega, rfl, by simp⟩
    · try simp only [wk,if_true,if_false,forall_const,implies_true,ne_eq,eq_self,Nat.reduceEqDiff,Nat.reduceAdd,Nat.reduceMul,Nat.reduceSub,Nat.reduceLeDiff,Nat.reduceLT,Int.reduceEq,Int.reduceLT,Int.reduceLE,Int.reduceAdd,Int.reduceSub,Int.reduceMul,Int.reduceNeg,Int.reduceNe,reduceCtorEq,Int.reduceToNat,↓reduceIte]
      exact sound_j4 m hm hmay rules hsr hin2 _ _ _ _ e0 e1
  · rw [if_neg hf] at qa
    refine PCalls.use qa ?_
    simp only [hf, wk,if_true,if_false,forall_const,implies_true,ne_eq,eq_self,Nat.reduceEqDiff,Nat.reduceAdd,Nat.reduceMul,Nat.reduceSub,Nat.reduceLeDiff,Nat.reduceLT,Int.reduceEq,Int.reduceLT,Int.reduceLE,Int.reduceAdd,Int.reduceSub,Int.reduceMul,Int.reduceNeg,Int.reduceNe,reduceCtorEq,Int.reduceToNat,↓reduceIte]
set_option maxRecDepth 100000 in
set_option maxHeartbeats 8000000 in
theorem sound_j8 (m : Mdl) (hm : smallMd m) (hat : ∀ x ∈ m.rows, x.atom < 65536) (hmay : mdMay m = true) (roots : List RlB) (hr : smallR roots) (hrl : roots.length ≤ 12) (hri : RulesIn m.rows roots) (certs : List Crt) (hcl : certs.length ≤ 8) (hsg : ∀ c ∈ certs, c.signer < 65536) (w : ByteArray) (hw : w.size ≤ 100) (h : Hp) (h0 : h[0]? = some (some (false, [.int .i64 m.n, .lst .ro m.rows.length (rowsC m.rows)]))) :
    W Try.prog J_law14_ModelSound_j8 [(1, .lst .ro roots.length (rulB roots)), (2, .lst .ro certs.length (crtsC certs)), (3, .str w), (4, .ptr 0 0)] h (kret [.t 8] fun a _ => a = .bool true) := by
  simp only [J_law14_ModelSound_j8, wk,if_true,if_false,forall_const,implies_true,ne_eq,eq_self,Nat.reduceEqDiff,Nat.reduceAdd,Nat.reduceMul,Nat.reduceSub,Nat.reduceLeDiff,Nat.reduceLT,Int.reduceEq,Int.reduceLT,Int.reduceLE,Int.reduceAdd,Int.reduceSub,Int.reduceMul,Int.reduceNeg,Int.reduceNe,reduceCtorEq,Int.reduceToNat,↓reduceIte]
  refine W_loop (fun n fr h' => ∃ i : Nat, i ≤ certs.length ∧ n = certs.length - i ∧ fr = [(1, .lst .ro roots.length (rulB roots)), (2, .lst .ro certs.length (crtsC certs)), (3, .str w), (4, .ptr 0 0), (82, .lst .ro certs.length (crtsC certs)), (83, .int .i64 certs.length), (84, .int .i64 i)] ∧ h'[0]? = some (some (false, [.int .i64 m.n, .lst .ro m.rows.length (rowsC m.rows)])) ∧ ∀ c ∈ certs.take i, smallC c ∧ honestE m c = true) certs.length ⟨0, by omega, by omega, rfl, h0, by simp⟩ ?_
  rintro n fr h' ⟨i, hi, rfl, rfl, g0, hall⟩
  simp only [J_law14_ModelSound_j7, wk,if_true,if_false,forall_const,implies_true,ne_eq,eq_self,Nat.reduceEqDiff,Nat.reduceAdd,Nat.reduceMul,Nat.reduceSub,Nat.reduceLeDiff,Nat.reduceLT,Int.reduceEq,Int.reduceLT,Int.reduceLE,Int.reduceAdd,Int.reduceSub,Int.reduceMul,Int.reduceNeg,Int.reduceNe,reduceCtorEq,Int.reduceToNat,↓reduceIte]
  refine ⟨fun hlt => ?_, fun hge => ?_⟩
  · have hil : i < certs.length := by omega
    have hin : ((0 ≤ (i : Int)) ∧ (i : Int) < (certs.length : Int)) = True := eqT ⟨by omega, by omega⟩
    have hd := crtsC_drop hil
    have hsx := hsg _ (List.getElem_mem hil)
    have hst : certs.take (i + 1) = certs.take i ++ [certs[i]] := List.take_succ_eq_append_getElem hil
    generalize certs[i] = c at hd hsx hst
    have g1 : ∀ x, (h' ++ [x])[0]? = some (some (false, [.int .i64 m.n, .lst .ro m.rows.length (rowsC m.rows)])) := fun x => by rw [List.getElem?_append_left (lt_of_get g0)]; exact g0
    simp only [cC, List.cons_append, List.nil_append] at hd
    have ql := p14_large m [c.words, [c.speaker]] (by simp)
    simp only [mdV, setsC, List.map_cons, List.map_nil, List.length_cons, List.length_nil] at ql
    simp only [hin, Int.toNat_natCast, hd, g1, wk,if_true,if_false,forall_const,implies_true,ne_eq,eq_self,Nat.reduceEqDiff,Nat.reduceAdd,Nat.reduceMul,Nat.reduceSub,Nat.reduceLeDiff,Nat.reduceLT,Int.reduceEq,Int.reduceLT,Int.reduceLE,Int.reduceAdd,Int.reduceSub,Int.reduceMul,Int.reduceNeg,Int.reduceNe,reduceCtorEq,Int.reduceToNat,↓reduceIte]
    refine PCalls.use ql ?_
    cases hlg : largeM m [c.words, [c.speaker]] with
    | true => try simp only [wk,if_true,if_false,forall_const,implies_true,ne_eq,eq_self,Nat.reduceEqDiff,Nat.reduceAdd,Nat.reduceMul,Nat.reduceSub,Nat.reduceLeDiff,Nat.reduceLT,Int.reduceEq,Int.reduceLT,Int.reduceLE,Int.reduceAdd,Int.reduceSub,Int.reduceMul,Int.reduceNeg,Int.reduceNe,reduceCtorEq,Int.reduceToNat,↓reduceIte]
    | false =>
      obtain ⟨_, hsz⟩ := not_large hlg hat
      have hcw := hsz c.words (by simp)
      have hcs := (hsz [c.speaker] (by simp)).2 c.speaker (by simp)
      have hsm : smallC c := ⟨hsx, by omega, by omega, fun x hx => by have := hcw.2 x hx; omega⟩
      have qh := p_mHonest m c hm hsm (fun x hx => by have := hcw.2 x hx; omega) (by omega)
      simp only [mdV, vC, cC] at qh
      simp only [g1, wk,if_true,if_false,forall_const,implies_true,ne_eq,eq_self,Nat.reduceEqDiff,Nat.reduceAdd,Nat.reduceMul,Nat.reduceSub,Nat.reduceLeDiff,Nat.reduceLT,Int.reduceEq,Int.reduceLT,Int.reduceLE,Int.reduceAdd,Int.reduceSub,Int.reduceMul,Int.reduceNeg,Int.reduceNe,reduceCtorEq,Int.reduceToNat,↓reduceIte]
      rcases tupB_cases (mdMay m && decide (checkE c = 0)) (honestE m c) with ⟨e, he⟩ | ⟨he, _, hh⟩
      · rw [he] at qh
        refine PCalls.use qh ?_
        try simp only [wk,if_true,if_false,forall_const,implies_true,ne_eq,eq_self,Nat.reduceEqDiff,Nat.reduceAdd,Nat.reduceMul,Nat.reduceSub,Nat.reduceLeDiff,Nat.reduceLT,Int.reduceEq,Int.reduceLT,Int.reduceLE,Int.reduceAdd,Int.reduceSub,Int.reduceMul,Int.reduceNeg,Int.reduceNe,reduceCtorEq,Int.reduceToNat,↓reduceIte]
      · rw [he] at qh
        refine PCalls.use qh ?_
        simp only [g1, wk,if_true,if_false,forall_const,implies_true,ne_eq,eq_self,Nat.reduceEqDiff,Nat.reduceAdd,Nat.reduceMul,Nat.reduceSub,Nat.reduceLeDiff,Nat.reduceLT,Int.reduceEq,Int.reduceLT,Int.reduceLE,Int.reduceAdd,Int.reduceSub,Int.reduceMul,Int.reduceNeg,Int.reduceNe,reduceCtorEq,Int.reduceToNat,↓reduceIte]
        refine ⟨inR_of (by omega) (by omega), certs.length - (i + 1), by omega, i + 1, by omega, rfl, by simp, ?_⟩
        rw [hst]
        intro x hx
        rcases List.mem_append.1 hx with hx | hx
        · exact hall x hx
        · simp only [List.mem_singleton] at hx; subst hx; exact ⟨hsm, hh⟩
  · obtain rfl : i = certs.length := by omega
    rw [List.take_of_length_le (Nat.le_refl _)] at hall
    exact sound_j6 m hm hmay roots hr hrl hri certs hcl (fun c hc => (hall c hc).1) (fun c hc => (hall c hc).2) w hw h' g0
set_option maxRecDepth 100000 in
set_option maxHeartbeats 8000000 in
theorem a14_sound (m : Mdl) (roots : List RlB) (certs : List Crt) (w : ByteArray) (hat : ∀ x ∈ m.rows, x.atom < 65536) (hsg : ∀ c ∈ certs, c.signer < 65536) : ACalls Try.prog 4 [mdV m, .lst .ro roots.length (rulB roots), .lst .ro certs.length (crtsC certs), .str w] [] (fun a _ => a = .bool true) := by
  refine acalls_of mixed J_law14_ModelSound_ok (Nat.le_of_ble_eq_true rfl) ?_; simp only [J_law14_ModelSound, mdV, wk,if_true,if_false,forall_const,implies_true,ne_eq,eq_self,Nat.reduceEqDiff,Nat.reduceAdd,Nat.reduceMul,Nat.reduceSub,Nat.reduceLeDiff,Nat.reduceLT,Int.reduceEq,Int.reduceLT,Int.reduceLE,Int.reduceAdd,Int.reduceSub,Int.reduceMul,Int.reduceNeg,Int.reduceNe,reduceCtorEq,Int.reduceToNat,↓reduceIte]
  refine PCalls.use (p14_awake) ?_; simp only [wk,if_true,if_false,forall_const,implies_true,ne_eq,eq_self,Nat.reduceEqDiff,Nat.reduceAdd,Nat.reduceMul,Nat.reduceSub,Nat.reduceLeDiff,Nat.reduceLT,Int.reduceEq,Int.reduceLT,Int.reduceLE,Int.reduceAdd,Int.reduceSub,Int.reduceMul,Int.reduceNeg,Int.reduceNe,reduceCtorEq,Int.reduceToNat,↓reduceIte]
  have ql := p14_large m [[w]] (by simp)
  simp only [mdV, setsC, List.map_cons, List.map_nil, List.length_cons, List.length_nil] at ql
  refine PCalls.use (ql) ?_; simp only [wk,if_true,if_false,forall_const,implies_true,ne_eq,eq_self,Nat.reduceEqDiff,Nat.reduceAdd,Nat.reduceMul,Nat.reduceSub,Nat.reduceLeDiff,Nat.reduceLT,Int.reduceEq,Int.reduceLT,Int.reduceLE,Int.reduceAdd,Int.reduceSub,Int.reduceMul,Int.reduceNeg,Int.reduceNe,reduceCtorEq,Int.reduceToNat,↓reduceIte]
  cases hlg : largeM m [[w]] with
  | true => try simp only [wk,if_true,if_false,forall_const,implies_true,ne_eq,eq_self,Nat.reduceEqDiff,Nat.reduceAdd,Nat.reduceMul,Nat.reduceSub,Nat.reduceLeDiff,Nat.reduceLT,Int.reduceEq,Int.reduceLT,Int.reduceLE,Int.reduceAdd,Int.reduceSub,Int.reduceMul,Int.reduceNeg,Int.reduceNe,reduceCtorEq,Int.reduceToNat,↓reduceIte]
  | false =>
    try simp only [wk,if_true,if_false,forall_const,implies_true,ne_eq,eq_self,Nat.reduceEqDiff,Nat.reduceAdd,Nat.reduceMul,Nat.reduceSub,Nat.reduceLeDiff,Nat.reduceLT,Int.reduceEq,Int.reduceLT,Int.reduceLE,Int.reduceAdd,Int.reduceSub,Int.reduceMul,Int.reduceNeg,Int.reduceNe,reduceCtorEq,Int.reduceToNat,↓reduceIte]
    obtain ⟨hm, hsz⟩ := not_large hlg hat
    have hw := (hsz [w] (by simp)).2 w (by simp)
    have qm := p_mmay m hm.1 hm.2
    simp only [mdV] at qm
    refine PCalls.use (qm) ?_; simp only [wk,if_true,if_false,forall_const,implies_true,ne_eq,eq_self,Nat.reduceEqDiff,Nat.reduceAdd,Nat.reduceMul,Nat.reduceSub,Nat.reduceLeDiff,Nat.reduceLT,Int.reduceEq,Int.reduceLT,Int.reduceLE,Int.reduceAdd,Int.reduceSub,Int.reduceMul,Int.reduceNeg,Int.reduceNe,reduceCtorEq,Int.reduceToNat,↓reduceIte]
    cases hmm : mdMay m with
    | false => try simp only [wk,if_true,if_false,forall_const,implies_true,ne_eq,eq_self,Nat.reduceEqDiff,Nat.reduceAdd,Nat.reduceMul,Nat.reduceSub,Nat.reduceLeDiff,Nat.reduceLT,Int.reduceEq,Int.reduceLT,Int.reduceLE,Int.reduceAdd,Int.reduceSub,Int.reduceMul,Int.reduceNeg,Int.reduceNe,reduceCtorEq,Int.reduceToNat,↓reduceIte]
    | true =>
      try simp only [wk,if_true,if_false,forall_const,implies_true,ne_eq,eq_self,Nat.reduceEqDiff,Nat.reduceAdd,Nat.reduceMul,Nat.reduceSub,Nat.reduceLeDiff,Nat.reduceLT,Int.reduceEq,Int.reduceLT,Int.reduceLE,Int.reduceAdd,Int.reduceSub,Int.reduceMul,Int.reduceNeg,Int.reduceNe,reduceCtorEq,Int.reduceToNat,↓reduceIte]
      intro h12 h8
      refine W_loop (fun n fr h' => ∃ i : Nat, i ≤ roots.length ∧ n = roots.length - i ∧ fr = [(1, .lst .ro roots.length (rulB roots)), (2, .lst .ro certs.length (crtsC certs)), (3, .str w), (4, .ptr 0 0), (51, .lst .ro roots.length (rulB roots)), (52, .int .i64 roots.length), (53, .int .i64 i)] ∧ h'[0]? = some (some (false, [.int .i64 m.n, .lst .ro m.rows.length (rowsC m.rows)])) ∧ ∀ r ∈ roots.take i, (r.1.size ≤ 100 ∧ r.2.size ≤ 100) ∧ (countsE r = true → withinR (wordR m.rows r.1) (wordR m.rows r.2) = true)) roots.length ⟨0, by omega, by omega, rfl, rfl, by simp⟩ ?_
      rintro n fr h' ⟨i, hi, rfl, rfl, g0, hall⟩
      simp only [J_law14_ModelSound_j9, wk,if_true,if_false,forall_const,implies_true,ne_eq,eq_self,Nat.reduceEqDiff,Nat.reduceAdd,Nat.reduceMul,Nat.reduceSub,Nat.reduceLeDiff,Nat.reduceLT,Int.reduceEq,Int.reduceLT,Int.reduceLE,Int.reduceAdd,Int.reduceSub,Int.reduceMul,Int.reduceNeg,Int.reduceNe,reduceCtorEq,Int.reduceToNat,↓reduceIte]
      refine ⟨fun hlt => ?_, fun hge => ?_⟩
      · have hil : i < roots.length := by omega
        have hin : ((0 ≤ (i : Int)) ∧ (i : Int) < (roots.length : Int)) = True := eqT ⟨by omega, by omega⟩
        have hd := rulB_drop hil
        have hst : roots.take (i + 1) = roots.take i ++ [roots[i]] := List.take_succ_eq_append_getElem hil
        generalize roots[i] = r at hd hst
        have g1 : ∀ x, (h' ++ [x])[0]? = some (some (false, [.int .i64 m.n, .lst .ro m.rows.length (rowsC m.rows)])) := fun x => by rw [List.getElem?_append_left (lt_of_get g0)]; exact g0
        have ql := p14_large m [[r.1, r.2]] (by simp)
        simp only [mdV, setsC, List.map_cons, List.map_nil, List.length_cons, List.length_nil] at ql
        simp only [hin, Int.toNat_natCast, hd, g1, wk,if_true,if_false,forall_const,implies_true,ne_eq,eq_self,Nat.reduceEqDiff,Nat.reduceAdd,Nat.reduceMul,Nat.reduceSub,Nat.reduceLeDiff,Nat.reduceLT,Int.reduceEq,Int.reduceLT,Int.reduceLE,Int.reduceAdd,Int.reduceSub,Int.reduceMul,Int.reduceNeg,Int.reduceNe,reduceCtorEq,Int.reduceToNat,↓reduceIte]
        refine PCalls.use ql ?_
        cases hlg : largeM m [[r.1, r.2]] with
        | true => try simp only [wk,if_true,if_false,forall_const,implies_true,ne_eq,eq_self,Nat.reduceEqDiff,Nat.reduceAdd,Nat.reduceMul,Nat.reduceSub,Nat.reduceLeDiff,Nat.reduceLT,Int.reduceEq,Int.reduceLT,Int.reduceLE,Int.reduceAdd,Int.reduceSub,Int.reduceMul,Int.reduceNeg,Int.reduceNe,reduceCtorEq,Int.reduceToNat,↓reduceIte]
        | false =>
          obtain ⟨_, hsz⟩ := not_large hlg hat
          have hs := (hsz [r.1, r.2] (by simp)).2
          have s1 : r.1.size ≤ 100 := hs r.1 (by simp)
          have s2 : r.2.size ≤ 100 := hs r.2 (by simp)
          have qh := p_mHolds m r.1 r.2 hm (by omega) (by omega)
          have qc := p_rcounts r (by omega) (by omega)
          simp only [mdV] at qh
          have hnx : (countsE r = true → withinR (wordR m.rows r.1) (wordR m.rows r.2) = true) → ∀ x ∈ roots.take (i + 1), (x.1.size ≤ 100 ∧ x.2.size ≤ 100) ∧ (countsE x = true → withinR (wordR m.rows x.1) (wordR m.rows x.2) = true) := fun hc x hx => by
            rw [hst] at hx
            rcases List.mem_append.1 hx with hx | hx
            · exact hall x hx
            · simp only [List.mem_singleton] at hx; subst hx; exact ⟨⟨s1, s2⟩, hc⟩
          simp only [g1, wk,if_true,if_false,forall_const,implies_true,ne_eq,eq_self,Nat.reduceEqDiff,Nat.reduceAdd,Nat.reduceMul,Nat.reduceSub,Nat.reduceLeDiff,Nat.reduceLT,Int.reduceEq,Int.reduceLT,Int.reduceLE,Int.reduceAdd,Int.reduceSub,Int.reduceMul,Int.reduceNeg,Int.reduceNe,reduceCtorEq,Int.reduceToNat,↓reduceIte]
          rcases tupB_cases (mdMay m && (wordMay r.1 && wordMay r.2)) (withinR (wordR m.rows r.1) (wordR m.rows r.2)) with ⟨e, he⟩ | ⟨he, _, hh⟩
          · rw [he] at qh
            refine PCalls.use qh ?_
            simp only [g1, wk,if_true,if_false,forall_const,implies_true,ne_eq,eq_self,Nat.reduceEqDiff,Nat.reduceAdd,Nat.reduceMul,Nat.reduceSub,Nat.reduceLeDiff,Nat.reduceLT,Int.reduceEq,Int.reduceLT,Int.reduceLE,Int.reduceAdd,Int.reduceSub,Int.reduceMul,Int.reduceNeg,Int.reduceNe,reduceCtorEq,Int.reduceToNat,↓reduceIte]
            refine PCalls.use qc ?_
            cases hc : countsE r with
            | true => try simp only [wk,if_true,if_false,forall_const,implies_true,ne_eq,eq_self,Nat.reduceEqDiff,Nat.reduceAdd,Nat.reduceMul,Nat.reduceSub,Nat.reduceLeDiff,Nat.reduceLT,Int.reduceEq,Int.reduceLT,Int.reduceLE,Int.reduceAdd,Int.reduceSub,Int.reduceMul,Int.reduceNeg,Int.reduceNe,reduceCtorEq,Int.reduceToNat,↓reduceIte]
            | false =>
              simp only [g1, wk,if_true,if_false,forall_const,implies_true,ne_eq,eq_self,Nat.reduceEqDiff,Nat.reduceAdd,Nat.reduceMul,Nat.reduceSub,Nat.reduceLeDiff,Nat.reduceLT,Int.reduceEq,Int.reduceLT,Int.reduceLE,Int.reduceAdd,Int.reduceSub,Int.reduceMul,Int.reduceNeg,Int.reduceNe,reduceCtorEq,Int.reduceToNat,↓reduceIte]
              exact ⟨inR_of (by omega) (by omega), roots.length - (i + 1), by omega, i + 1, by omega, rfl, by simp, hnx (fun h => by rw [hc] at h; cases h)⟩
          · rw [he] at qh
            refine PCalls.use qh ?_
            simp only [g1, wk,if_true,if_false,forall_const,implies_true,ne_eq,eq_self,Nat.reduceEqDiff,Nat.reduceAdd,Nat.reduceMul,Nat.reduceSub,Nat.reduceLeDiff,Nat.reduceLT,Int.reduceEq,Int.reduceLT,Int.reduceLE,Int.reduceAdd,Int.reduceSub,Int.reduceMul,Int.reduceNeg,Int.reduceNe,reduceCtorEq,Int.reduceToNat,↓reduceIte]
            refine PCalls.use qc ?_
            cases hc : countsE r with
            | true =>
              simp only [g1, wk,if_true,if_false,forall_const,implies_true,ne_eq,eq_self,Nat.reduceEqDiff,Nat.reduceAdd,Nat.reduceMul,Nat.reduceSub,Nat.reduceLeDiff,Nat.reduceLT,Int.reduceEq,Int.reduceLT,Int.reduceLE,Int.reduceAdd,Int.reduceSub,Int.reduceMul,Int.reduceNeg,Int.reduceNe,reduceCtorEq,Int.reduceToNat,↓reduceIte]
              exact ⟨inR_of (by omega) (by omega), roots.length - (i + 1), by omega, i + 1, by omega, rfl, by simp, hnx (fun _ => hh)⟩
            | false =>
              simp only [g1, wk,if_true,if_false,forall_const,implies_true,ne_eq,eq_self,Nat.reduceEqDiff,Nat.reduceAdd,Nat.reduceMul,Nat.reduceSub,Nat.reduceLeDiff,Nat.reduceLT,Int.reduceEq,Int.reduceLT,Int.reduceLE,Int.reduceAdd,Int.reduceSub,Int.reduceMul,Int.reduceNeg,Int.reduceNe,reduceCtorEq,Int.reduceToNat,↓reduceIte]
              exact ⟨inR_of (by omega) (by omega), roots.length - (i + 1), by omega, i + 1, by omega, rfl, by simp, hnx (fun _ => hh)⟩
      · obtain rfl : i = roots.length := by omega
        rw [List.take_of_length_le (Nat.le_refl _)] at hall
        exact sound_j8 m hm hat hmm roots ⟨by omega, fun r hr => by have := (hall r hr).1; omega⟩ (by omega) (fun r hr => (hall r hr).2) certs (by omega) hsg w hw h' g0
end Go.Proofs.Ytlfnepcglnjogaa
