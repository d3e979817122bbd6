/- Texts of one proof, laid together: Oc Od Ak FnS Sr Ss St Sa FnC Po Pi Pj Pb Pc Az Oh Oi Or Ot Ou Ov. -/
import Derived.Test.YtnmikopkjdekaaaMC13
import Derived.Test.YtnmikopkjdekaaaProg
import Derived.Test.YtnmikopkjdekaaaMC12
import Derived.Test.YtnmikopkjdekaaaMC9

/- Models: words' and sets' relations, over the abstract code. -/
-- fast
namespace Go.Proofs.Ytnmikopkjdekaaa
set_option linter.unusedSimpArgs false
set_option linter.unusedVariables false
open Go.RowKit Go.Lib

theorem frees_strs : ∀ l : List ByteArray, free.frees (l.map .str) = true
  | [] => rfl
  | x :: l => by simp [free.frees, free, frees_strs l]
def relA (l : List Row) (a : Nat) : Rl := (amGet a (readM l)).getD zR
theorem relA_foldl (a : Nat) : ∀ (l : List Row) (q : Am), (amGet a (l.foldl (fun q x => amPut x.atom (pad x.to) q) q)).getD zR = l.foldl (fun acc x => if a = x.atom then pad x.to else acc) ((amGet a q).getD zR)
  | [], q => rfl
  | x :: l, q => by
    simp only [List.foldl_cons]
    rw [relA_foldl a l, am_get_put]
    split <;> rfl
theorem relA_eq (l : List Row) (a : Nat) : relA l a = l.foldl (fun acc x => if a = x.atom then pad x.to else acc) zR := relA_foldl a l []
theorem relA_length (l : List Row) (a : Nat) : (relA l a).length = 8 := by
  rw [relA_eq]
  have key : ∀ (l : List Row) (z : Rl), z.length = 8 → (l.foldl (fun acc x => if a = x.atom then pad x.to else acc) z).length = 8 := by
    intro l
    induction l with
    | nil => intro z hz; exact hz
    | cons x l ih => intro z hz; simp only [List.foldl_cons]; refine ih _ ?_; split; exact pad_length _; exact hz
  exact key l zR rfl
def wordN (l : List Row) (w : ByteArray) : Nat → Rl
  | 0 => relA l (atomAt w 0)
  | k + 1 => thenR (wordN l w k) (relA l (atomAt w (k + 1)))
def wordR (l : List Row) (w : ByteArray) : Rl := wordN l w (w.size / 2 - 1)
theorem wordN_length (l : List Row) (w : ByteArray) : ∀ k, (wordN l w k).length = 8
  | 0 => relA_length _ _
  | k + 1 => by simp only [wordN, thenR, List.length_map]; exact wordN_length l w k
theorem wordR_length (l : List Row) (w : ByteArray) : (wordR l w).length = 8 := wordN_length _ _ _
def setN (l : List Row) (s : List ByteArray) : Rl := s.foldl (fun r w => orR r (wordR l w)) zR
theorem setN_length (l : List Row) (s : List ByteArray) : (setN l s).length = 8 := by
  have key : ∀ (s : List ByteArray) (z : Rl), z.length = 8 → (s.foldl (fun r w => orR r (wordR l w)) z).length = 8 := by
    intro s
    induction s with
    | nil => intro z hz; exact hz
    | cons x s ih => intro z hz; simp only [List.foldl_cons]; exact ih _ (orR_length _ _ hz (wordR_length _ _))
  exact key s zR rfl
def mpV (l : List Row) : AV := .fmp (amK (readM l)) (amV (readM l))
theorem look_rel (l : List Row) (a : Nat) : mlkF false true [.int .u8 0, .int .u8 0, .int .u8 0, .int .u8 0, .int .u8 0, .int .u8 0, .int .u8 0, .int .u8 0] false [.fmp (amK (readM l)) (amV (readM l)), .int .u16 (a : Int)] = some (rlV (relA l a)) := am_look a (readM l) _ rfl
set_option maxRecDepth 100000 in
set_option maxHeartbeats 4000000 in
theorem p_mword (l : List Row) (w : ByteArray) (hw : wordMay w = true) (hs : w.size ≤ 1000) : PCalls Try.prog 34 [mpV l, .str w] (rlV (wordR l w)) := by
  have hm := hw
  simp only [wordMay, Bool.and_eq_true, decide_eq_true_eq] at hm
  refine pcalls_of (by simp [free.frees, free, mpV]) (free_rlV _) (acalls_of mixed J_model_atoms_word_ok (Nat.le_of_ble_eq_true rfl) ?_); simp only [J_model_atoms_word, mpV, wk,if_true,if_false,forall_const,implies_true,ne_eq,eq_self,Nat.reduceEqDiff,Nat.reduceAdd,Nat.reduceMul,Nat.reduceSub,Nat.reduceLeDiff,Nat.reduceLT,Int.reduceEq,Int.reduceLT,Int.reduceLE,Int.reduceAdd,Int.reduceSub,Int.reduceMul,Int.reduceNeg,Int.reduceNe,reduceCtorEq,Int.reduceToNat,↓reduceIte]
  refine PCalls.use (p_wat w 0 (by omega) (by omega)) ?_; simp only [wk,if_true,if_false,forall_const,implies_true,ne_eq,eq_self,Nat.reduceEqDiff,Nat.reduceAdd,Nat.reduceMul,Nat.reduceSub,Nat.reduceLeDiff,Nat.reduceLT,Int.reduceEq,Int.reduceLT,Int.reduceLE,Int.reduceAdd,Int.reduceSub,Int.reduceMul,Int.reduceNeg,Int.reduceNe,reduceCtorEq,Int.reduceToNat,↓reduceIte]
  have hl := look_rel l (atomAt w 0)
  have hA := relA_length l (atomAt w 0)
  simp only [rlV] at hl
  simp only [hl, wk,if_true,if_false,forall_const,implies_true,ne_eq,eq_self,Nat.reduceEqDiff,Nat.reduceAdd,Nat.reduceMul,Nat.reduceSub,Nat.reduceLeDiff,Nat.reduceLT,Int.reduceEq,Int.reduceLT,Int.reduceLE,Int.reduceAdd,Int.reduceSub,Int.reduceMul,Int.reduceNeg,Int.reduceNe,reduceCtorEq,Int.reduceToNat,↓reduceIte]
  rw [splice_all _ _ (by simp [len_rlC, hA])]
  refine ⟨by simp [len_rlC, hA], ?_⟩
  refine W_loop (fun n fr h => ∃ i : Nat, i + 1 ≤ w.size / 2 ∧ n = w.size / 2 - i ∧ fr = [(0, mpV l), (1, .str w), (4, .ptr 0 0), (5, .ptr 1 0), (6, .int .i64 ((i + 1 : Nat) : Int))] ∧ h = [some (false, [.int .u8 0, .int .u8 0, .int .u8 0, .int .u8 0, .int .u8 0, .int .u8 0, .int .u8 0, .int .u8 0]), some (false, rlC (wordN l w i))]) (w.size / 2) ⟨0, by omega, by omega, rfl, rfl⟩ ?_
  rintro n fr h' ⟨i, hi, rfl, rfl, rfl⟩
  simp only [J_model_atoms_word_j2, mpV, wk,if_true,if_false,forall_const,implies_true,ne_eq,eq_self,Nat.reduceEqDiff,Nat.reduceAdd,Nat.reduceMul,Nat.reduceSub,Nat.reduceLeDiff,Nat.reduceLT,Int.reduceEq,Int.reduceLT,Int.reduceLE,Int.reduceAdd,Int.reduceSub,Int.reduceMul,Int.reduceNeg,Int.reduceNe,reduceCtorEq,Int.reduceToNat,↓reduceIte]
  refine PCalls.use (p_wlen w (by omega)) ?_; simp only [wk,if_true,if_false,forall_const,implies_true,ne_eq,eq_self,Nat.reduceEqDiff,Nat.reduceAdd,Nat.reduceMul,Nat.reduceSub,Nat.reduceLeDiff,Nat.reduceLT,Int.reduceEq,Int.reduceLT,Int.reduceLE,Int.reduceAdd,Int.reduceSub,Int.reduceMul,Int.reduceNeg,Int.reduceNe,reduceCtorEq,Int.reduceToNat,↓reduceIte]
  have h8 := wordN_length l w i
  refine ⟨fun hlt => ?_, fun hge => ?_⟩
  · have hil : i + 1 < w.size / 2 := by omega
    refine ⟨by rw [len_rlC, h8]; omega, ?_⟩
    refine ⟨_, p_wat w (i + 1) (by omega) (by omega), ?_⟩; simp only [wk,if_true,if_false,forall_const,implies_true,ne_eq,eq_self,Nat.reduceEqDiff,Nat.reduceAdd,Nat.reduceMul,Nat.reduceSub,Nat.reduceLeDiff,Nat.reduceLT,Int.reduceEq,Int.reduceLT,Int.reduceLE,Int.reduceAdd,Int.reduceSub,Int.reduceMul,Int.reduceNeg,Int.reduceNe,reduceCtorEq,Int.reduceToNat,↓reduceIte]
    have hl2 := look_rel l (atomAt w (i + 1))
    have hA2 := relA_length l (atomAt w (i + 1))
    have q := p_rthen (wordN l w i) (relA l (atomAt w (i + 1))) h8 hA2
    simp only [rlV] at hl2 q
    simp only [take_rlC _ h8, deg_rlC, hl2, wk,if_true,if_false,forall_const,implies_true,ne_eq,eq_self,Nat.reduceEqDiff,Nat.reduceAdd,Nat.reduceMul,Nat.reduceSub,Nat.reduceLeDiff,Nat.reduceLT,Int.reduceEq,Int.reduceLT,Int.reduceLE,Int.reduceAdd,Int.reduceSub,Int.reduceMul,Int.reduceNeg,Int.reduceNe,reduceCtorEq,Int.reduceToNat,↓reduceIte]
    refine ⟨_, q, ?_⟩; simp only [wk,if_true,if_false,forall_const,implies_true,ne_eq,eq_self,Nat.reduceEqDiff,Nat.reduceAdd,Nat.reduceMul,Nat.reduceSub,Nat.reduceLeDiff,Nat.reduceLT,Int.reduceEq,Int.reduceLT,Int.reduceLE,Int.reduceAdd,Int.reduceSub,Int.reduceMul,Int.reduceNeg,Int.reduceNe,reduceCtorEq,Int.reduceToNat,↓reduceIte]
    have h9 : (thenR (wordN l w i) (relA l (atomAt w (i + 1)))).length = 8 := wordN_length l w (i + 1)
    rw [splice_all _ _ (by simp [len_rlC, h8, h9])]
    exact ⟨⟨by rw [len_rlC, h9], by rw [len_rlC, h8]; omega⟩, inR_of (by omega) (by omega), w.size / 2 - (i + 1), by omega, i + 1, by omega, rfl, by simp, rfl⟩
  · have he : wordR l w = wordN l w i := by
      unfold wordR; congr 1; omega
    simp only [J_model_atoms_word_j1, wk,if_true,if_false,forall_const,implies_true,ne_eq,eq_self,Nat.reduceEqDiff,Nat.reduceAdd,Nat.reduceMul,Nat.reduceSub,Nat.reduceLeDiff,Nat.reduceLT,Int.reduceEq,Int.reduceLT,Int.reduceLE,Int.reduceAdd,Int.reduceSub,Int.reduceMul,Int.reduceNeg,Int.reduceNe,reduceCtorEq,Int.reduceToNat,↓reduceIte]
    rw [take_rlC _ h8, deg_rlC, splice_all _ _ (by simp [len_rlC, h8]), he]
    refine ⟨by simp [len_rlC, h8], by simp [len_rlC, h8], ?_⟩
    simp only [val, ev, lk, wk,if_true,if_false,forall_const,implies_true,ne_eq,eq_self,Nat.reduceEqDiff,Nat.reduceAdd,Nat.reduceMul,Nat.reduceSub,Nat.reduceLeDiff,Nat.reduceLT,Int.reduceEq,Int.reduceLT,Int.reduceLE,Int.reduceAdd,Int.reduceSub,Int.reduceMul,Int.reduceNeg,Int.reduceNe,reduceCtorEq,Int.reduceToNat,↓reduceIte]
    exact ⟨by simp [len_rlC, h8], by rw [take_rlC _ h8, deg_rlC]; rfl⟩
set_option maxRecDepth 100000 in
set_option maxHeartbeats 4000000 in
theorem p_mset (l : List Row) (s : List ByteArray) (hn : s.length ≤ 1000) (hw : ∀ w ∈ s, wordMay w = true ∧ w.size ≤ 1000) : PCalls Try.prog 39 [mpV l, .lst .ro s.length (s.map .str)] (rlV (setN l s)) := by
  refine pcalls_of (by simp [free.frees, free, mpV, frees_strs]) (free_rlV _) (acalls_of mixed J_model_atoms_set_ok (Nat.le_of_ble_eq_true rfl) ?_); simp only [J_model_atoms_set, mpV, wk,if_true,if_false,forall_const,implies_true,ne_eq,eq_self,Nat.reduceEqDiff,Nat.reduceAdd,Nat.reduceMul,Nat.reduceSub,Nat.reduceLeDiff,Nat.reduceLT,Int.reduceEq,Int.reduceLT,Int.reduceLE,Int.reduceAdd,Int.reduceSub,Int.reduceMul,Int.reduceNeg,Int.reduceNe,reduceCtorEq,Int.reduceToNat,↓reduceIte]
  refine W_loop (fun n fr h => ∃ i : Nat, i ≤ s.length ∧ n = s.length - i ∧ fr = [(0, mpV l), (4, .ptr 0 0), (5, .ptr 1 0), (8, .lst .ro s.length (s.map .str)), (9, .int .i64 s.length), (10, .int .i64 i)] ∧ h = [some (false, [.int .u8 0, .int .u8 0, .int .u8 0, .int .u8 0, .int .u8 0, .int .u8 0, .int .u8 0, .int .u8 0]), some (false, rlC (setN l (s.take i)))]) s.length ⟨0, by omega, by omega, rfl, rfl⟩ ?_
  rintro n fr h' ⟨i, hi, rfl, rfl, rfl⟩
  simp only [J_model_atoms_set_j2, mpV, wk,if_true,if_false,forall_const,implies_true,ne_eq,eq_self,Nat.reduceEqDiff,Nat.reduceAdd,Nat.reduceMul,Nat.reduceSub,Nat.reduceLeDiff,Nat.reduceLT,Int.reduceEq,Int.reduceLT,Int.reduceLE,Int.reduceAdd,Int.reduceSub,Int.reduceMul,Int.reduceNeg,Int.reduceNe,reduceCtorEq,Int.reduceToNat,↓reduceIte]
  have h8 := setN_length l (s.take i)
  refine ⟨fun hlt => ?_, fun hge => ?_⟩
  · have hil : i < s.length := by omega
    have hin : ((0 ≤ (i : Int)) ∧ (i : Int) < (s.length : Int)) = True := by simp; omega
    have hd : (s.map AV.str).drop i = .str s[i] :: (s.map AV.str).drop (i + 1) := by
      rw [List.drop_eq_getElem_cons (by simpa using hil)]; simp
    have hwi := hw s[i] (List.getElem_mem hil)
    have qw := p_mword l s[i] hwi.1 hwi.2
    have qo := p_ror (setN l (s.take i)) (wordR l s[i]) h8 (wordR_length _ _)
    simp only [rlV, mpV] at qw qo
    simp only [hin, Int.toNat_natCast, hd, wk,if_true,if_false,forall_const,implies_true,ne_eq,eq_self,Nat.reduceEqDiff,Nat.reduceAdd,Nat.reduceMul,Nat.reduceSub,Nat.reduceLeDiff,Nat.reduceLT,Int.reduceEq,Int.reduceLT,Int.reduceLE,Int.reduceAdd,Int.reduceSub,Int.reduceMul,Int.reduceNeg,Int.reduceNe,reduceCtorEq,Int.reduceToNat,↓reduceIte]
    rw [take_rlC _ h8, deg_rlC]
    refine ⟨by simp [len_rlC, h8], ?_⟩
    refine ⟨_, qw, ?_⟩; simp only [wk,if_true,if_false,forall_const,implies_true,ne_eq,eq_self,Nat.reduceEqDiff,Nat.reduceAdd,Nat.reduceMul,Nat.reduceSub,Nat.reduceLeDiff,Nat.reduceLT,Int.reduceEq,Int.reduceLT,Int.reduceLE,Int.reduceAdd,Int.reduceSub,Int.reduceMul,Int.reduceNeg,Int.reduceNe,reduceCtorEq,Int.reduceToNat,↓reduceIte]
    refine ⟨_, qo, ?_⟩; simp only [wk,if_true,if_false,forall_const,implies_true,ne_eq,eq_self,Nat.reduceEqDiff,Nat.reduceAdd,Nat.reduceMul,Nat.reduceSub,Nat.reduceLeDiff,Nat.reduceLT,Int.reduceEq,Int.reduceLT,Int.reduceLE,Int.reduceAdd,Int.reduceSub,Int.reduceMul,Int.reduceNeg,Int.reduceNe,reduceCtorEq,Int.reduceToNat,↓reduceIte]
    have h9 : setN l (s.take (i + 1)) = orR (setN l (s.take i)) (wordR l s[i]) := by
      unfold setN
      rw [List.take_succ_eq_append_getElem hil, List.foldl_append]; rfl
    have h10 := setN_length l (s.take (i + 1))
    rw [← h9, splice_all _ _ (by simp [len_rlC, h8, h10])]
    exact ⟨⟨by rw [len_rlC, h10], by rw [len_rlC, h8]; omega⟩, inR_of (by omega) (by omega), s.length - (i + 1), by omega, i + 1, by omega, rfl, by simp, rfl⟩
  · obtain rfl : i = s.length := by omega
    rw [List.take_of_length_le (Nat.le_refl _)] at h8 ⊢
    simp only [J_model_atoms_set_j1, wk,if_true,if_false,forall_const,implies_true,ne_eq,eq_self,Nat.reduceEqDiff,Nat.reduceAdd,Nat.reduceMul,Nat.reduceSub,Nat.reduceLeDiff,Nat.reduceLT,Int.reduceEq,Int.reduceLT,Int.reduceLE,Int.reduceAdd,Int.reduceSub,Int.reduceMul,Int.reduceNeg,Int.reduceNe,reduceCtorEq,Int.reduceToNat,↓reduceIte]
    rw [take_rlC _ h8, deg_rlC, splice_all _ _ (by simp [len_rlC, h8])]
    refine ⟨by simp [len_rlC, h8], by simp [len_rlC, h8], ?_⟩
    simp only [val, ev, lk, wk,if_true,if_false,forall_const,implies_true,ne_eq,eq_self,Nat.reduceEqDiff,Nat.reduceAdd,Nat.reduceMul,Nat.reduceSub,Nat.reduceLeDiff,Nat.reduceLT,Int.reduceEq,Int.reduceLT,Int.reduceLE,Int.reduceAdd,Int.reduceSub,Int.reduceMul,Int.reduceNeg,Int.reduceNe,reduceCtorEq,Int.reduceToNat,↓reduceIte]
    exact ⟨by simp [len_rlC, h8], by rw [take_rlC _ h8, deg_rlC]; rfl⟩
set_option maxRecDepth 100000 in
set_option maxHeartbeats 4000000 in
theorem p_mrule (l : List Row) (a b : ByteArray) (ha : wordMay a = true ∧ a.size ≤ 1000) (hb : wordMay b = true ∧ b.size ≤ 1000) : PCalls Try.prog 41 [mpV l, .agg [.str a, .str b]] (.bool (withinR (wordR l a) (wordR l b))) := by
  have qa := p_mword l a ha.1 ha.2
  have qb := p_mword l b hb.1 hb.2
  have qw := p_mwithin (wordR l a) (wordR l b) (wordR_length _ _) (wordR_length _ _)
  simp only [rlV, mpV] at qa qb qw
  refine pcalls_of (by simp [free.frees, free, mpV]) rfl (acalls_of mixed J_model_atoms_rule_ok (Nat.le_of_ble_eq_true rfl) ?_); simp only [J_model_atoms_rule, mpV, wk,if_true,if_false,forall_const,implies_true,ne_eq,eq_self,Nat.reduceEqDiff,Nat.reduceAdd,Nat.reduceMul,Nat.reduceSub,Nat.reduceLeDiff,Nat.reduceLT,Int.reduceEq,Int.reduceLT,Int.reduceLE,Int.reduceAdd,Int.reduceSub,Int.reduceMul,Int.reduceNeg,Int.reduceNe,reduceCtorEq,Int.reduceToNat,↓reduceIte]
  refine ⟨_, qa, ?_⟩; simp only [wk,if_true,if_false,forall_const,implies_true,ne_eq,eq_self,Nat.reduceEqDiff,Nat.reduceAdd,Nat.reduceMul,Nat.reduceSub,Nat.reduceLeDiff,Nat.reduceLT,Int.reduceEq,Int.reduceLT,Int.reduceLE,Int.reduceAdd,Int.reduceSub,Int.reduceMul,Int.reduceNeg,Int.reduceNe,reduceCtorEq,Int.reduceToNat,↓reduceIte]
  refine ⟨_, qb, ?_⟩; simp only [wk,if_true,if_false,forall_const,implies_true,ne_eq,eq_self,Nat.reduceEqDiff,Nat.reduceAdd,Nat.reduceMul,Nat.reduceSub,Nat.reduceLeDiff,Nat.reduceLT,Int.reduceEq,Int.reduceLT,Int.reduceLE,Int.reduceAdd,Int.reduceSub,Int.reduceMul,Int.reduceNeg,Int.reduceNe,reduceCtorEq,Int.reduceToNat,↓reduceIte]
  refine ⟨_, qw, ?_⟩; simp only [wk,if_true,if_false,forall_const,implies_true,ne_eq,eq_self,Nat.reduceEqDiff,Nat.reduceAdd,Nat.reduceMul,Nat.reduceSub,Nat.reduceLeDiff,Nat.reduceLT,Int.reduceEq,Int.reduceLT,Int.reduceLE,Int.reduceAdd,Int.reduceSub,Int.reduceMul,Int.reduceNeg,Int.reduceNe,reduceCtorEq,Int.reduceToNat,↓reduceIte]
def mdMay (m : Mdl) : Bool := decide (1 ≤ m.n ∧ m.n ≤ 8) && m.rows.all fun x => decide ((x.to.length : Int) = m.n) && x.to.all fun b => decide (b.toNat / 2 ^ m.n.toNat = 0)
set_option maxRecDepth 100000 in
set_option maxHeartbeats 4000000 in
theorem p_mmay (m : Mdl) (hl : m.rows.length ≤ 1000) (hs : ∀ x ∈ m.rows, smallW x) : PCalls Try.prog 12 [mdV m] (.bool (mdMay m)) := by
  refine pcalls_of (by simp [free.frees, free_mdV]) rfl (acalls_of mixed J_model_May_ok (Nat.le_of_ble_eq_true rfl) ?_); simp only [J_model_May, mdV, wk,if_true,if_false,forall_const,implies_true,ne_eq,eq_self,Nat.reduceEqDiff,Nat.reduceAdd,Nat.reduceMul,Nat.reduceSub,Nat.reduceLeDiff,Nat.reduceLT,Int.reduceEq,Int.reduceLT,Int.reduceLE,Int.reduceAdd,Int.reduceSub,Int.reduceMul,Int.reduceNeg,Int.reduceNe,reduceCtorEq,Int.reduceToNat,↓reduceIte]
  have bad : ¬ (1 ≤ m.n ∧ m.n ≤ 8) → mdMay m = false := fun h => by simp [mdMay, h]
  refine ⟨fun h1 => ⟨fun h2 => boolE (bad (by omega)).symm, fun h2 => ?_⟩, fun h1 => boolE (bad (by omega)).symm⟩
  refine W_loop (fun n fr h => ∃ i : Nat, i ≤ m.rows.length ∧ n = m.rows.length - i ∧ (∀ x ∈ m.rows.take i, (x.to.length : Int) = m.n ∧ ∀ b ∈ x.to, b.toNat / 2 ^ m.n.toNat = 0) ∧ fr = [(1, .ptr 0 0), (16, .lst .ro m.rows.length (rowsC m.rows)), (17, .int .i64 m.rows.length), (18, .int .i64 i)] ∧ ∃ ex, h = some (false, [.int .i64 m.n, .lst .ro m.rows.length (rowsC m.rows)]) :: ex) m.rows.length ⟨0, by omega, by omega, by simp, rfl, _, rfl⟩ ?_
  rintro n fr h' ⟨i, hi, rfl, hall, rfl, ex, rfl⟩
  simp only [J_model_May_j4, wk,if_true,if_false,forall_const,implies_true,ne_eq,eq_self,Nat.reduceEqDiff,Nat.reduceAdd,Nat.reduceMul,Nat.reduceSub,Nat.reduceLeDiff,Nat.reduceLT,Int.reduceEq,Int.reduceLT,Int.reduceLE,Int.reduceAdd,Int.reduceSub,Int.reduceMul,Int.reduceNeg,Int.reduceNe,reduceCtorEq,Int.reduceToNat,↓reduceIte]
  refine ⟨fun hlt => ?_, fun hge => ?_⟩
  · have hil : i < m.rows.length := by omega
    have hin : ((0 ≤ (i : Int)) ∧ (i : Int) < (m.rows.length : Int)) = True := by simp; omega
    have hd := rowsC_at hil
    simp only [rowC, kA, List.cons_append, List.nil_append] at hd
    simp only [hin, Int.toNat_natCast, hd, wk,if_true,if_false,forall_const,implies_true,ne_eq,eq_self,Nat.reduceEqDiff,Nat.reduceAdd,Nat.reduceMul,Nat.reduceSub,Nat.reduceLeDiff,Nat.reduceLT,Int.reduceEq,Int.reduceLT,Int.reduceLE,Int.reduceAdd,Int.reduceSub,Int.reduceMul,Int.reduceNeg,Int.reduceNe,reduceCtorEq,Int.reduceToNat,↓reduceIte]
    have hmem := List.getElem_mem hil
    generalize hx : m.rows[i] = x at hmem hd ⊢
    have badx : (¬ ((x.to.length : Int) = m.n ∧ ∀ b ∈ x.to, b.toNat / 2 ^ m.n.toNat = 0)) → mdMay m = false := fun h => by
      cases hb : mdMay m with
      | false => rfl
      | true =>
        simp only [mdMay, Bool.and_eq_true, decide_eq_true_eq, List.all_eq_true] at hb
        exact absurd (hb.2 x hmem) h
    refine ⟨fun hne => boolE (badx (fun h => hne h.1)).symm, fun he => ?_⟩
    refine W_loop (fun n fr h => ∃ j : Nat, j ≤ x.to.length ∧ n = x.to.length - j ∧ (∀ b ∈ x.to.take j, b.toNat / 2 ^ m.n.toNat = 0) ∧ fr = [(1, .ptr 0 0), (16, .lst .ro m.rows.length (rowsC m.rows)), (17, .int .i64 m.rows.length), (18, .int .i64 i), (29, .lst .ro x.to.length (rlC x.to)), (30, .int .i64 x.to.length), (31, .int .i64 j)] ∧ ∃ ex, h = some (false, [.int .i64 m.n, .lst .ro m.rows.length (rowsC m.rows)]) :: ex) x.to.length ⟨0, by omega, by omega, by simp, rfl, _, rfl⟩ ?_
    rintro n fr h' ⟨j, hj, rfl, hallj, rfl, ex', rfl⟩
    simp only [J_model_May_j3, wk,if_true,if_false,forall_const,implies_true,ne_eq,eq_self,Nat.reduceEqDiff,Nat.reduceAdd,Nat.reduceMul,Nat.reduceSub,Nat.reduceLeDiff,Nat.reduceLT,Int.reduceEq,Int.reduceLT,Int.reduceLE,Int.reduceAdd,Int.reduceSub,Int.reduceMul,Int.reduceNeg,Int.reduceNe,reduceCtorEq,Int.reduceToNat,↓reduceIte]
    refine ⟨fun hlt => ?_, fun hge => ?_⟩
    · have hjl : j < x.to.length := by omega
      have hjn : ((0 ≤ (j : Int)) ∧ (j : Int) < (x.to.length : Int)) = True := by simp; omega
      have hd2 := rlC_drop hjl
      have hmn : min m.n.toNat IntKind.u8.bits = m.n.toNat := by simp [IntKind.bits]; omega
      simp only [u8] at hd2
      simp only [hjn, Int.toNat_natCast, hd2, hmn, fdiv_pow, wk,if_true,if_false,forall_const,implies_true,ne_eq,eq_self,Nat.reduceEqDiff,Nat.reduceAdd,Nat.reduceMul,Nat.reduceSub,Nat.reduceLeDiff,Nat.reduceLT,Int.reduceEq,Int.reduceLT,Int.reduceLE,Int.reduceAdd,Int.reduceSub,Int.reduceMul,Int.reduceNeg,Int.reduceNe,reduceCtorEq,Int.reduceToNat,↓reduceIte]
      refine ⟨by omega, fun hne => boolE (badx (fun h => hne (by exact_mod_cast h.2 _ (List.getElem_mem hjl)))).symm, fun hz => ⟨inR_of (by omega) (by omega), x.to.length - (j + 1), by omega, j + 1, by omega, rfl, fun b hb => ?_, by simp, _, rfl⟩⟩
      rw [List.take_succ_eq_append_getElem hjl, List.mem_append, List.mem_singleton] at hb
      rcases hb with hb | rfl
      · exact hallj b hb
      · exact_mod_cast hz
    · obtain rfl : j = x.to.length := by omega
      rw [List.take_of_length_le (Nat.le_refl _)] at hallj
      simp only [J_model_May_j2, wk,if_true,if_false,forall_const,implies_true,ne_eq,eq_self,Nat.reduceEqDiff,Nat.reduceAdd,Nat.reduceMul,Nat.reduceSub,Nat.reduceLeDiff,Nat.reduceLT,Int.reduceEq,Int.reduceLT,Int.reduceLE,Int.reduceAdd,Int.reduceSub,Int.reduceMul,Int.reduceNeg,Int.reduceNe,reduceCtorEq,Int.reduceToNat,↓reduceIte]
      refine ⟨inR_of (by omega) (by omega), m.rows.length - (i + 1), by omega, i + 1, by omega, rfl, fun y hy => ?_, by simp, _, rfl⟩
      rw [List.take_succ_eq_append_getElem hil, List.mem_append, List.mem_singleton] at hy
      rcases hy with hy | rfl
      · exact hall y hy
      · rw [hx]; exact ⟨he, hallj⟩
  · obtain rfl : i = m.rows.length := by omega
    rw [List.take_of_length_le (Nat.le_refl _)] at hall
    simp only [J_model_May_j1, wk,if_true,if_false,forall_const,implies_true,ne_eq,eq_self,Nat.reduceEqDiff,Nat.reduceAdd,Nat.reduceMul,Nat.reduceSub,Nat.reduceLeDiff,Nat.reduceLT,Int.reduceEq,Int.reduceLT,Int.reduceLE,Int.reduceAdd,Int.reduceSub,Int.reduceMul,Int.reduceNeg,Int.reduceNe,reduceCtorEq,Int.reduceToNat,↓reduceIte]
    refine boolE ?_
    symm
    simp only [mdMay, Bool.and_eq_true, decide_eq_true_eq, List.all_eq_true]
    exact ⟨by omega, fun x hx => hall x hx⟩
end Go.Proofs.Ytnmikopkjdekaaa

/- Models: what the program tells of words and sets, over the abstract code. -/
-- fast
namespace Go.Proofs.Ytnmikopkjdekaaa
set_option linter.unusedSimpArgs false
set_option linter.unusedVariables false
open Go.RowKit Go.Lib

def smallMd (m : Mdl) : Prop := m.rows.length ≤ 1000 ∧ ∀ x ∈ m.rows, smallW x
def toldV (m : Mdl) (r : Rl) : AV := .lst .ro m.n.toNat (rlC (r.take m.n.toNat))
def mWordV (m : Mdl) (w : ByteArray) : AV := if mdMay m && wordMay w then .tup [toldV m (wordR m.rows w), .int .i64 0] else .tup [.lst .clip 0 [], .int .i64 2]
def mSetV (m : Mdl) (s : List ByteArray) : AV := if mdMay m && setMay s then .tup [toldV m (setN m.rows s), .int .i64 0] else .tup [.lst .clip 0 [], .int .i64 2]
def tupB (ok b : Bool) : AV := if ok then .tup [.bool b, .int .i64 0] else .tup [.bool false, .int .i64 2]
theorem mdMay_n {m : Mdl} (h : mdMay m = true) : 1 ≤ m.n ∧ m.n ≤ 8 := by
  simp only [mdMay, Bool.and_eq_true, decide_eq_true_eq] at h; exact h.1
theorem free_told (m : Mdl) (r : Rl) : free (toldV m r) = true := by simp [toldV, free, frees_rlC]
theorem free_mWordV (m : Mdl) (w : ByteArray) : free (mWordV m w) = true := by unfold mWordV; split <;> simp [free, free.frees, free_told]
theorem free_mSetV (m : Mdl) (w : List ByteArray) : free (mSetV m w) = true := by unfold mSetV; split <;> simp [free, free.frees, free_told]
theorem free_tupB (a b : Bool) : free (tupB a b) = true := by unfold tupB; split <;> simp [free, free.frees]
set_option maxRecDepth 100000 in
set_option maxHeartbeats 4000000 in
theorem p_mWord (m : Mdl) (w : ByteArray) (hm : smallMd m) (hw : w.size ≤ 1000) : PCalls Try.prog 14 [mdV m, .str w] (mWordV m w) := by
  refine pcalls_of (by simp [free.frees, free, free_mdV]) (free_mWordV _ _) (acalls_of mixed J_model_Word_ok (Nat.le_of_ble_eq_true rfl) ?_); simp only [J_model_Word, mdV, wk,if_true,if_false,forall_const,implies_true,ne_eq,eq_self,Nat.reduceEqDiff,Nat.reduceAdd,Nat.reduceMul,Nat.reduceSub,Nat.reduceLeDiff,Nat.reduceLT,Int.reduceEq,Int.reduceLT,Int.reduceLE,Int.reduceAdd,Int.reduceSub,Int.reduceMul,Int.reduceNeg,Int.reduceNe,reduceCtorEq,Int.reduceToNat,↓reduceIte]
  have qm := p_mmay m hm.1 hm.2
  have qw := p_wmay w (by omega)
  have qr := p_mread m hm.1 hm.2
  simp only [mdV] at qm qr
  refine PCalls.use (qm) ?_; simp only [wk,if_true,if_false,forall_const,implies_true,ne_eq,eq_self,Nat.reduceEqDiff,Nat.reduceAdd,Nat.reduceMul,Nat.reduceSub,Nat.reduceLeDiff,Nat.reduceLT,Int.reduceEq,Int.reduceLT,Int.reduceLE,Int.reduceAdd,Int.reduceSub,Int.reduceMul,Int.reduceNeg,Int.reduceNe,reduceCtorEq,Int.reduceToNat,↓reduceIte]
  cases hmm : mdMay m with
  | false => simp only [hmm, wk,if_true,if_false,forall_const,implies_true,ne_eq,eq_self,Nat.reduceEqDiff,Nat.reduceAdd,Nat.reduceMul,Nat.reduceSub,Nat.reduceLeDiff,Nat.reduceLT,Int.reduceEq,Int.reduceLT,Int.reduceLE,Int.reduceAdd,Int.reduceSub,Int.reduceMul,Int.reduceNeg,Int.reduceNe,reduceCtorEq,Int.reduceToNat,↓reduceIte]; simp [mWordV, hmm]
  | true =>
    try simp only [hmm, wk,if_true,if_false,forall_const,implies_true,ne_eq,eq_self,Nat.reduceEqDiff,Nat.reduceAdd,Nat.reduceMul,Nat.reduceSub,Nat.reduceLeDiff,Nat.reduceLT,Int.reduceEq,Int.reduceLT,Int.reduceLE,Int.reduceAdd,Int.reduceSub,Int.reduceMul,Int.reduceNeg,Int.reduceNe,reduceCtorEq,Int.reduceToNat,↓reduceIte]
    refine PCalls.use (qw) ?_; simp only [wk,if_true,if_false,forall_const,implies_true,ne_eq,eq_self,Nat.reduceEqDiff,Nat.reduceAdd,Nat.reduceMul,Nat.reduceSub,Nat.reduceLeDiff,Nat.reduceLT,Int.reduceEq,Int.reduceLT,Int.reduceLE,Int.reduceAdd,Int.reduceSub,Int.reduceMul,Int.reduceNeg,Int.reduceNe,reduceCtorEq,Int.reduceToNat,↓reduceIte]
    cases hww : wordMay w with
    | false => simp only [hww, wk,if_true,if_false,forall_const,implies_true,ne_eq,eq_self,Nat.reduceEqDiff,Nat.reduceAdd,Nat.reduceMul,Nat.reduceSub,Nat.reduceLeDiff,Nat.reduceLT,Int.reduceEq,Int.reduceLT,Int.reduceLE,Int.reduceAdd,Int.reduceSub,Int.reduceMul,Int.reduceNeg,Int.reduceNe,reduceCtorEq,Int.reduceToNat,↓reduceIte]; simp [mWordV, hmm, hww]
    | true =>
      try simp only [hww, wk,if_true,if_false,forall_const,implies_true,ne_eq,eq_self,Nat.reduceEqDiff,Nat.reduceAdd,Nat.reduceMul,Nat.reduceSub,Nat.reduceLeDiff,Nat.reduceLT,Int.reduceEq,Int.reduceLT,Int.reduceLE,Int.reduceAdd,Int.reduceSub,Int.reduceMul,Int.reduceNeg,Int.reduceNe,reduceCtorEq,Int.reduceToNat,↓reduceIte]
      have qd := p_mword m.rows w hww hw
      have qt := p_mtold m (wordR m.rows w) (wordR_length _ _) (by have := mdMay_n hmm; omega) (mdMay_n hmm).2
      simp only [mpV, mdV] at qd qt
      refine ⟨_, qr, ?_⟩; simp only [wk,if_true,if_false,forall_const,implies_true,ne_eq,eq_self,Nat.reduceEqDiff,Nat.reduceAdd,Nat.reduceMul,Nat.reduceSub,Nat.reduceLeDiff,Nat.reduceLT,Int.reduceEq,Int.reduceLT,Int.reduceLE,Int.reduceAdd,Int.reduceSub,Int.reduceMul,Int.reduceNeg,Int.reduceNe,reduceCtorEq,Int.reduceToNat,↓reduceIte]
      refine ⟨_, qd, ?_⟩; try simp only [wk,if_true,if_false,forall_const,implies_true,ne_eq,eq_self,Nat.reduceEqDiff,Nat.reduceAdd,Nat.reduceMul,Nat.reduceSub,Nat.reduceLeDiff,Nat.reduceLT,Int.reduceEq,Int.reduceLT,Int.reduceLE,Int.reduceAdd,Int.reduceSub,Int.reduceMul,Int.reduceNeg,Int.reduceNe,reduceCtorEq,Int.reduceToNat,↓reduceIte]
      refine ⟨_, qt, ?_⟩; try simp only [wk,if_true,if_false,forall_const,implies_true,ne_eq,eq_self,Nat.reduceEqDiff,Nat.reduceAdd,Nat.reduceMul,Nat.reduceSub,Nat.reduceLeDiff,Nat.reduceLT,Int.reduceEq,Int.reduceLT,Int.reduceLE,Int.reduceAdd,Int.reduceSub,Int.reduceMul,Int.reduceNeg,Int.reduceNe,reduceCtorEq,Int.reduceToNat,↓reduceIte]
      simp [mWordV, hmm, hww, toldV]
set_option maxRecDepth 100000 in
set_option maxHeartbeats 4000000 in
theorem p_mSet (m : Mdl) (s : List ByteArray) (hm : smallMd m) (hn : s.length ≤ 1000) (hs : ∀ w ∈ s, w.size ≤ 1000) : PCalls Try.prog 16 [mdV m, .lst .ro s.length (s.map .str)] (mSetV m s) := by
  refine pcalls_of (by simp [free.frees, free, free_mdV, frees_strs]) (free_mSetV _ _) (acalls_of mixed J_model_Set_ok (Nat.le_of_ble_eq_true rfl) ?_); simp only [J_model_Set, mdV, wk,if_true,if_false,forall_const,implies_true,ne_eq,eq_self,Nat.reduceEqDiff,Nat.reduceAdd,Nat.reduceMul,Nat.reduceSub,Nat.reduceLeDiff,Nat.reduceLT,Int.reduceEq,Int.reduceLT,Int.reduceLE,Int.reduceAdd,Int.reduceSub,Int.reduceMul,Int.reduceNeg,Int.reduceNe,reduceCtorEq,Int.reduceToNat,↓reduceIte]
  have qm := p_mmay m hm.1 hm.2
  have qw := p_smay s (by omega) (fun x hx => by have := hs x hx; omega)
  have qr := p_mread m hm.1 hm.2
  simp only [mdV] at qm qr
  refine PCalls.use (qm) ?_; simp only [wk,if_true,if_false,forall_const,implies_true,ne_eq,eq_self,Nat.reduceEqDiff,Nat.reduceAdd,Nat.reduceMul,Nat.reduceSub,Nat.reduceLeDiff,Nat.reduceLT,Int.reduceEq,Int.reduceLT,Int.reduceLE,Int.reduceAdd,Int.reduceSub,Int.reduceMul,Int.reduceNeg,Int.reduceNe,reduceCtorEq,Int.reduceToNat,↓reduceIte]
  cases hmm : mdMay m with
  | false => simp only [hmm, wk,if_true,if_false,forall_const,implies_true,ne_eq,eq_self,Nat.reduceEqDiff,Nat.reduceAdd,Nat.reduceMul,Nat.reduceSub,Nat.reduceLeDiff,Nat.reduceLT,Int.reduceEq,Int.reduceLT,Int.reduceLE,Int.reduceAdd,Int.reduceSub,Int.reduceMul,Int.reduceNeg,Int.reduceNe,reduceCtorEq,Int.reduceToNat,↓reduceIte]; simp [mSetV, hmm]
  | true =>
    try simp only [hmm, wk,if_true,if_false,forall_const,implies_true,ne_eq,eq_self,Nat.reduceEqDiff,Nat.reduceAdd,Nat.reduceMul,Nat.reduceSub,Nat.reduceLeDiff,Nat.reduceLT,Int.reduceEq,Int.reduceLT,Int.reduceLE,Int.reduceAdd,Int.reduceSub,Int.reduceMul,Int.reduceNeg,Int.reduceNe,reduceCtorEq,Int.reduceToNat,↓reduceIte]
    refine PCalls.use (qw) ?_; simp only [wk,if_true,if_false,forall_const,implies_true,ne_eq,eq_self,Nat.reduceEqDiff,Nat.reduceAdd,Nat.reduceMul,Nat.reduceSub,Nat.reduceLeDiff,Nat.reduceLT,Int.reduceEq,Int.reduceLT,Int.reduceLE,Int.reduceAdd,Int.reduceSub,Int.reduceMul,Int.reduceNeg,Int.reduceNe,reduceCtorEq,Int.reduceToNat,↓reduceIte]
    cases hww : setMay s with
    | false => simp only [hww, wk,if_true,if_false,forall_const,implies_true,ne_eq,eq_self,Nat.reduceEqDiff,Nat.reduceAdd,Nat.reduceMul,Nat.reduceSub,Nat.reduceLeDiff,Nat.reduceLT,Int.reduceEq,Int.reduceLT,Int.reduceLE,Int.reduceAdd,Int.reduceSub,Int.reduceMul,Int.reduceNeg,Int.reduceNe,reduceCtorEq,Int.reduceToNat,↓reduceIte]; simp [mSetV, hmm, hww]
    | true =>
      try simp only [hww, wk,if_true,if_false,forall_const,implies_true,ne_eq,eq_self,Nat.reduceEqDiff,Nat.reduceAdd,Nat.reduceMul,Nat.reduceSub,Nat.reduceLeDiff,Nat.reduceLT,Int.reduceEq,Int.reduceLT,Int.reduceLE,Int.reduceAdd,Int.reduceSub,Int.reduceMul,Int.reduceNeg,Int.reduceNe,reduceCtorEq,Int.reduceToNat,↓reduceIte]
      have qd := p_mset m.rows s hn (fun w hx => ⟨(setMay_words hww).2 w hx, hs w hx⟩)
      have qt := p_mtold m (setN m.rows s) (setN_length _ _) (by have := mdMay_n hmm; omega) (mdMay_n hmm).2
      simp only [mpV, mdV] at qd qt
      refine ⟨_, qr, ?_⟩; simp only [wk,if_true,if_false,forall_const,implies_true,ne_eq,eq_self,Nat.reduceEqDiff,Nat.reduceAdd,Nat.reduceMul,Nat.reduceSub,Nat.reduceLeDiff,Nat.reduceLT,Int.reduceEq,Int.reduceLT,Int.reduceLE,Int.reduceAdd,Int.reduceSub,Int.reduceMul,Int.reduceNeg,Int.reduceNe,reduceCtorEq,Int.reduceToNat,↓reduceIte]
      refine ⟨_, qd, ?_⟩; try simp only [wk,if_true,if_false,forall_const,implies_true,ne_eq,eq_self,Nat.reduceEqDiff,Nat.reduceAdd,Nat.reduceMul,Nat.reduceSub,Nat.reduceLeDiff,Nat.reduceLT,Int.reduceEq,Int.reduceLT,Int.reduceLE,Int.reduceAdd,Int.reduceSub,Int.reduceMul,Int.reduceNeg,Int.reduceNe,reduceCtorEq,Int.reduceToNat,↓reduceIte]
      refine ⟨_, qt, ?_⟩; try simp only [wk,if_true,if_false,forall_const,implies_true,ne_eq,eq_self,Nat.reduceEqDiff,Nat.reduceAdd,Nat.reduceMul,Nat.reduceSub,Nat.reduceLeDiff,Nat.reduceLT,Int.reduceEq,Int.reduceLT,Int.reduceLE,Int.reduceAdd,Int.reduceSub,Int.reduceMul,Int.reduceNeg,Int.reduceNe,reduceCtorEq,Int.reduceToNat,↓reduceIte]
      simp [mSetV, hmm, hww, toldV]
set_option maxRecDepth 100000 in
set_option maxHeartbeats 4000000 in
theorem p_mHolds (m : Mdl) (a b : ByteArray) (hm : smallMd m) (ha : a.size ≤ 1000) (hb : b.size ≤ 1000) : PCalls Try.prog 18 [mdV m, .agg [.str a, .str b]] (tupB (mdMay m && (wordMay a && wordMay b)) (withinR (wordR m.rows a) (wordR m.rows b))) := by
  refine pcalls_of (by simp [free.frees, free, free_mdV]) (free_tupB _ _) (acalls_of mixed J_model_Holds_ok (Nat.le_of_ble_eq_true rfl) ?_); simp only [J_model_Holds, mdV, wk,if_true,if_false,forall_const,implies_true,ne_eq,eq_self,Nat.reduceEqDiff,Nat.reduceAdd,Nat.reduceMul,Nat.reduceSub,Nat.reduceLeDiff,Nat.reduceLT,Int.reduceEq,Int.reduceLT,Int.reduceLE,Int.reduceAdd,Int.reduceSub,Int.reduceMul,Int.reduceNeg,Int.reduceNe,reduceCtorEq,Int.reduceToNat,↓reduceIte]
  have qm := p_mmay m hm.1 hm.2
  have qa := p_wmay a (by omega)
  have qb := p_wmay b (by omega)
  have qr := p_mread m hm.1 hm.2
  simp only [mdV] at qm qr
  refine PCalls.use (qm) ?_; simp only [wk,if_true,if_false,forall_const,implies_true,ne_eq,eq_self,Nat.reduceEqDiff,Nat.reduceAdd,Nat.reduceMul,Nat.reduceSub,Nat.reduceLeDiff,Nat.reduceLT,Int.reduceEq,Int.reduceLT,Int.reduceLE,Int.reduceAdd,Int.reduceSub,Int.reduceMul,Int.reduceNeg,Int.reduceNe,reduceCtorEq,Int.reduceToNat,↓reduceIte]
  cases hmm : mdMay m with
  | false => simp only [hmm, wk,if_true,if_false,forall_const,implies_true,ne_eq,eq_self,Nat.reduceEqDiff,Nat.reduceAdd,Nat.reduceMul,Nat.reduceSub,Nat.reduceLeDiff,Nat.reduceLT,Int.reduceEq,Int.reduceLT,Int.reduceLE,Int.reduceAdd,Int.reduceSub,Int.reduceMul,Int.reduceNeg,Int.reduceNe,reduceCtorEq,Int.reduceToNat,↓reduceIte]; simp [tupB, hmm]
  | true =>
    try simp only [hmm, wk,if_true,if_false,forall_const,implies_true,ne_eq,eq_self,Nat.reduceEqDiff,Nat.reduceAdd,Nat.reduceMul,Nat.reduceSub,Nat.reduceLeDiff,Nat.reduceLT,Int.reduceEq,Int.reduceLT,Int.reduceLE,Int.reduceAdd,Int.reduceSub,Int.reduceMul,Int.reduceNeg,Int.reduceNe,reduceCtorEq,Int.reduceToNat,↓reduceIte]
    refine PCalls.use (qa) ?_; simp only [wk,if_true,if_false,forall_const,implies_true,ne_eq,eq_self,Nat.reduceEqDiff,Nat.reduceAdd,Nat.reduceMul,Nat.reduceSub,Nat.reduceLeDiff,Nat.reduceLT,Int.reduceEq,Int.reduceLT,Int.reduceLE,Int.reduceAdd,Int.reduceSub,Int.reduceMul,Int.reduceNeg,Int.reduceNe,reduceCtorEq,Int.reduceToNat,↓reduceIte]
    cases haa : wordMay a with
    | false => simp only [haa, wk,if_true,if_false,forall_const,implies_true,ne_eq,eq_self,Nat.reduceEqDiff,Nat.reduceAdd,Nat.reduceMul,Nat.reduceSub,Nat.reduceLeDiff,Nat.reduceLT,Int.reduceEq,Int.reduceLT,Int.reduceLE,Int.reduceAdd,Int.reduceSub,Int.reduceMul,Int.reduceNeg,Int.reduceNe,reduceCtorEq,Int.reduceToNat,↓reduceIte]; simp [tupB, hmm, haa]
    | true =>
      try simp only [haa, wk,if_true,if_false,forall_const,implies_true,ne_eq,eq_self,Nat.reduceEqDiff,Nat.reduceAdd,Nat.reduceMul,Nat.reduceSub,Nat.reduceLeDiff,Nat.reduceLT,Int.reduceEq,Int.reduceLT,Int.reduceLE,Int.reduceAdd,Int.reduceSub,Int.reduceMul,Int.reduceNeg,Int.reduceNe,reduceCtorEq,Int.reduceToNat,↓reduceIte]
      refine PCalls.use (qb) ?_; simp only [wk,if_true,if_false,forall_const,implies_true,ne_eq,eq_self,Nat.reduceEqDiff,Nat.reduceAdd,Nat.reduceMul,Nat.reduceSub,Nat.reduceLeDiff,Nat.reduceLT,Int.reduceEq,Int.reduceLT,Int.reduceLE,Int.reduceAdd,Int.reduceSub,Int.reduceMul,Int.reduceNeg,Int.reduceNe,reduceCtorEq,Int.reduceToNat,↓reduceIte]
      cases hbb : wordMay b with
      | false => simp only [hbb, wk,if_true,if_false,forall_const,implies_true,ne_eq,eq_self,Nat.reduceEqDiff,Nat.reduceAdd,Nat.reduceMul,Nat.reduceSub,Nat.reduceLeDiff,Nat.reduceLT,Int.reduceEq,Int.reduceLT,Int.reduceLE,Int.reduceAdd,Int.reduceSub,Int.reduceMul,Int.reduceNeg,Int.reduceNe,reduceCtorEq,Int.reduceToNat,↓reduceIte]; simp [tupB, hmm, haa, hbb]
      | true =>
        try simp only [hbb, wk,if_true,if_false,forall_const,implies_true,ne_eq,eq_self,Nat.reduceEqDiff,Nat.reduceAdd,Nat.reduceMul,Nat.reduceSub,Nat.reduceLeDiff,Nat.reduceLT,Int.reduceEq,Int.reduceLT,Int.reduceLE,Int.reduceAdd,Int.reduceSub,Int.reduceMul,Int.reduceNeg,Int.reduceNe,reduceCtorEq,Int.reduceToNat,↓reduceIte]
        have qd := p_mrule m.rows a b ⟨haa, ha⟩ ⟨hbb, hb⟩
        simp only [mpV] at qd
        refine ⟨_, qr, ?_⟩; simp only [wk,if_true,if_false,forall_const,implies_true,ne_eq,eq_self,Nat.reduceEqDiff,Nat.reduceAdd,Nat.reduceMul,Nat.reduceSub,Nat.reduceLeDiff,Nat.reduceLT,Int.reduceEq,Int.reduceLT,Int.reduceLE,Int.reduceAdd,Int.reduceSub,Int.reduceMul,Int.reduceNeg,Int.reduceNe,reduceCtorEq,Int.reduceToNat,↓reduceIte]
        refine ⟨_, qd, ?_⟩; simp only [wk,if_true,if_false,forall_const,implies_true,ne_eq,eq_self,Nat.reduceEqDiff,Nat.reduceAdd,Nat.reduceMul,Nat.reduceSub,Nat.reduceLeDiff,Nat.reduceLT,Int.reduceEq,Int.reduceLT,Int.reduceLE,Int.reduceAdd,Int.reduceSub,Int.reduceMul,Int.reduceNeg,Int.reduceNe,reduceCtorEq,Int.reduceToNat,↓reduceIte]
        simp [tupB, hmm, haa, hbb]
set_option maxRecDepth 100000 in
set_option maxHeartbeats 4000000 in
theorem p_mSpeaks (m : Mdl) (a b : List ByteArray) (hm : smallMd m) (ha : a.length ≤ 1000 ∧ ∀ w ∈ a, w.size ≤ 1000) (hb : b.length ≤ 1000 ∧ ∀ w ∈ b, w.size ≤ 1000) : PCalls Try.prog 20 [mdV m, .lst .ro a.length (a.map .str), .lst .ro b.length (b.map .str)] (tupB (mdMay m && (setMay a && setMay b)) (withinR (setN m.rows b) (setN m.rows a))) := by
  refine pcalls_of (by simp [free.frees, free, free_mdV, frees_strs]) (free_tupB _ _) (acalls_of mixed J_model_Speaks_ok (Nat.le_of_ble_eq_true rfl) ?_); simp only [J_model_Speaks, mdV, wk,if_true,if_false,forall_const,implies_true,ne_eq,eq_self,Nat.reduceEqDiff,Nat.reduceAdd,Nat.reduceMul,Nat.reduceSub,Nat.reduceLeDiff,Nat.reduceLT,Int.reduceEq,Int.reduceLT,Int.reduceLE,Int.reduceAdd,Int.reduceSub,Int.reduceMul,Int.reduceNeg,Int.reduceNe,reduceCtorEq,Int.reduceToNat,↓reduceIte]
  have qm := p_mmay m hm.1 hm.2
  have qa := p_smay a (by omega) (fun x hx => by have := ha.2 x hx; omega)
  have qb := p_smay b (by omega) (fun x hx => by have := hb.2 x hx; omega)
  have qr := p_mread m hm.1 hm.2
  simp only [mdV] at qm qr
  refine PCalls.use (qm) ?_; simp only [wk,if_true,if_false,forall_const,implies_true,ne_eq,eq_self,Nat.reduceEqDiff,Nat.reduceAdd,Nat.reduceMul,Nat.reduceSub,Nat.reduceLeDiff,Nat.reduceLT,Int.reduceEq,Int.reduceLT,Int.reduceLE,Int.reduceAdd,Int.reduceSub,Int.reduceMul,Int.reduceNeg,Int.reduceNe,reduceCtorEq,Int.reduceToNat,↓reduceIte]
  cases hmm : mdMay m with
  | false => simp only [hmm, wk,if_true,if_false,forall_const,implies_true,ne_eq,eq_self,Nat.reduceEqDiff,Nat.reduceAdd,Nat.reduceMul,Nat.reduceSub,Nat.reduceLeDiff,Nat.reduceLT,Int.reduceEq,Int.reduceLT,Int.reduceLE,Int.reduceAdd,Int.reduceSub,Int.reduceMul,Int.reduceNeg,Int.reduceNe,reduceCtorEq,Int.reduceToNat,↓reduceIte]; simp [tupB, hmm]
  | true =>
    try simp only [hmm, wk,if_true,if_false,forall_const,implies_true,ne_eq,eq_self,Nat.reduceEqDiff,Nat.reduceAdd,Nat.reduceMul,Nat.reduceSub,Nat.reduceLeDiff,Nat.reduceLT,Int.reduceEq,Int.reduceLT,Int.reduceLE,Int.reduceAdd,Int.reduceSub,Int.reduceMul,Int.reduceNeg,Int.reduceNe,reduceCtorEq,Int.reduceToNat,↓reduceIte]
    refine PCalls.use (qa) ?_; simp only [wk,if_true,if_false,forall_const,implies_true,ne_eq,eq_self,Nat.reduceEqDiff,Nat.reduceAdd,Nat.reduceMul,Nat.reduceSub,Nat.reduceLeDiff,Nat.reduceLT,Int.reduceEq,Int.reduceLT,Int.reduceLE,Int.reduceAdd,Int.reduceSub,Int.reduceMul,Int.reduceNeg,Int.reduceNe,reduceCtorEq,Int.reduceToNat,↓reduceIte]
    cases haa : setMay a with
    | false => simp only [haa, wk,if_true,if_false,forall_const,implies_true,ne_eq,eq_self,Nat.reduceEqDiff,Nat.reduceAdd,Nat.reduceMul,Nat.reduceSub,Nat.reduceLeDiff,Nat.reduceLT,Int.reduceEq,Int.reduceLT,Int.reduceLE,Int.reduceAdd,Int.reduceSub,Int.reduceMul,Int.reduceNeg,Int.reduceNe,reduceCtorEq,Int.reduceToNat,↓reduceIte]; simp [tupB, hmm, haa]
    | true =>
      try simp only [haa, wk,if_true,if_false,forall_const,implies_true,ne_eq,eq_self,Nat.reduceEqDiff,Nat.reduceAdd,Nat.reduceMul,Nat.reduceSub,Nat.reduceLeDiff,Nat.reduceLT,Int.reduceEq,Int.reduceLT,Int.reduceLE,Int.reduceAdd,Int.reduceSub,Int.reduceMul,Int.reduceNeg,Int.reduceNe,reduceCtorEq,Int.reduceToNat,↓reduceIte]
      refine PCalls.use (qb) ?_; simp only [wk,if_true,if_false,forall_const,implies_true,ne_eq,eq_self,Nat.reduceEqDiff,Nat.reduceAdd,Nat.reduceMul,Nat.reduceSub,Nat.reduceLeDiff,Nat.reduceLT,Int.reduceEq,Int.reduceLT,Int.reduceLE,Int.reduceAdd,Int.reduceSub,Int.reduceMul,Int.reduceNeg,Int.reduceNe,reduceCtorEq,Int.reduceToNat,↓reduceIte]
      cases hbb : setMay b with
      | false => simp only [hbb, wk,if_true,if_false,forall_const,implies_true,ne_eq,eq_self,Nat.reduceEqDiff,Nat.reduceAdd,Nat.reduceMul,Nat.reduceSub,Nat.reduceLeDiff,Nat.reduceLT,Int.reduceEq,Int.reduceLT,Int.reduceLE,Int.reduceAdd,Int.reduceSub,Int.reduceMul,Int.reduceNeg,Int.reduceNe,reduceCtorEq,Int.reduceToNat,↓reduceIte]; simp [tupB, hmm, haa, hbb]
      | true =>
        try simp only [hbb, wk,if_true,if_false,forall_const,implies_true,ne_eq,eq_self,Nat.reduceEqDiff,Nat.reduceAdd,Nat.reduceMul,Nat.reduceSub,Nat.reduceLeDiff,Nat.reduceLT,Int.reduceEq,Int.reduceLT,Int.reduceLE,Int.reduceAdd,Int.reduceSub,Int.reduceMul,Int.reduceNeg,Int.reduceNe,reduceCtorEq,Int.reduceToNat,↓reduceIte]
        have qd := p_mset m.rows a ha.1 (fun w hx => ⟨(setMay_words haa).2 w hx, ha.2 w hx⟩)
        have qe := p_mset m.rows b hb.1 (fun w hx => ⟨(setMay_words hbb).2 w hx, hb.2 w hx⟩)
        have qw := p_mwithin (setN m.rows b) (setN m.rows a) (setN_length _ _) (setN_length _ _)
        simp only [mpV, rlV] at qd qe qw
        refine PCalls.use (qr) ?_; simp only [wk,if_true,if_false,forall_const,implies_true,ne_eq,eq_self,Nat.reduceEqDiff,Nat.reduceAdd,Nat.reduceMul,Nat.reduceSub,Nat.reduceLeDiff,Nat.reduceLT,Int.reduceEq,Int.reduceLT,Int.reduceLE,Int.reduceAdd,Int.reduceSub,Int.reduceMul,Int.reduceNeg,Int.reduceNe,reduceCtorEq,Int.reduceToNat,↓reduceIte]
        refine PCalls.use (qe) ?_; simp only [wk,if_true,if_false,forall_const,implies_true,ne_eq,eq_self,Nat.reduceEqDiff,Nat.reduceAdd,Nat.reduceMul,Nat.reduceSub,Nat.reduceLeDiff,Nat.reduceLT,Int.reduceEq,Int.reduceLT,Int.reduceLE,Int.reduceAdd,Int.reduceSub,Int.reduceMul,Int.reduceNeg,Int.reduceNe,reduceCtorEq,Int.reduceToNat,↓reduceIte]
        refine PCalls.use (qd) ?_; simp only [wk,if_true,if_false,forall_const,implies_true,ne_eq,eq_self,Nat.reduceEqDiff,Nat.reduceAdd,Nat.reduceMul,Nat.reduceSub,Nat.reduceLeDiff,Nat.reduceLT,Int.reduceEq,Int.reduceLT,Int.reduceLE,Int.reduceAdd,Int.reduceSub,Int.reduceMul,Int.reduceNeg,Int.reduceNe,reduceCtorEq,Int.reduceToNat,↓reduceIte]
        refine PCalls.use (qw) ?_; simp only [wk,if_true,if_false,forall_const,implies_true,ne_eq,eq_self,Nat.reduceEqDiff,Nat.reduceAdd,Nat.reduceMul,Nat.reduceSub,Nat.reduceLeDiff,Nat.reduceLT,Int.reduceEq,Int.reduceLT,Int.reduceLE,Int.reduceAdd,Int.reduceSub,Int.reduceMul,Int.reduceNeg,Int.reduceNe,reduceCtorEq,Int.reduceToNat,↓reduceIte]
        simp [tupB, hmm, haa, hbb]
end Go.Proofs.Ytnmikopkjdekaaa

/- The abstract layer: a full slice may be handed where one is only read. -/
namespace Go.Proofs.Ytnmikopkjdekaaa
set_option linter.unusedSimpArgs false
set_option linter.unusedVariables false
open Go.RowKit Go.Lib

def ro : AV → AV
  | .lst .clip n l => .lst .ro n l
  | a => a
theorem Rep.ro {g : Gh} {v : Value} {a : AV} (h : Rep g v a) : Rep g v (ro a) := by
  cases h with
  | lst b off n c f vs l h1 h2 h3 h4 h5 => cases f with
    | clip => exact .lst b off n c .ro vs l h1 h2 h3 (fun h => by cases h) h5
    | _ => exact .lst b off n c _ vs l h1 h2 h3 h4 h5
  | lst0 a c f h => cases f with
    | clip => exact .lst0 a c .ro (fun h => by cases h)
    | _ => exact .lst0 a c _ h
  | itr b s p => exact .itr _ _ _
  | omp b ks vs => exact .omp b ks vs
  | mp b => exact .mp b
  | fmp b obj ks vs h1 h2 => exact .fmp b obj ks vs h1 h2
  | stk a c e o l h1 h2 h3 => exact .stk a c e o l h1 h2 h3
  | raw a n c h1 h2 => exact .raw a n c h1 h2
  | rawp b i n c => exact .rawp b i n c
  | opq v h h' => exact .opq _ h h'
  | frn v Q S W0 h h' h3 h4 => exact .frn _ Q S W0 h h' h3 h4
  | _ => first | exact .bool _ | exact .int _ _ | exact .str _ | exact .nilp | (exact .ptr _ _ _ ‹_›) | (exact .fp _ _ _ _ ‹_› ‹_› ‹_›) | (exact .hs _ _ _ _ ‹_› ‹_›) | (exact .agg _ _ ‹_› ‹_› ‹_›) | (exact .tup _ _ ‹_› ‹_›) | (exact .fn _ _ _ ‹_› ‹_›) | (exact .fnb _ _ _ ‹_› ‹_›) | exact .nilf
theorem RepL.ro {g : Gh} : ∀ {vs : List Value} {l : List AV}, RepL g vs l → RepL g vs (l.map ro)
  | _, _, .nil => .nil
  | _, _, .cons h hl => .cons h.ro (RepL.ro hl)
theorem plain_ro {a : AV} (h : plain a = true) : plain (ro a) = true := by
  cases a with
  | lst f n l => cases f <;> first | rfl | exact h
  | _ => exact h
theorem free_ro (a : AV) : free (ro a) = free a := by
  cases a with
  | lst f n l => cases f <;> simp [Go.Proofs.Ytnmikopkjdekaaa.ro, free]
  | _ => rfl
theorem frees_ro : ∀ l : List AV, free.frees (l.map ro) = free.frees l
  | [] => rfl
  | a :: l => by simp only [List.map_cons, free.frees, free_ro, frees_ro l]
theorem ACalls.ro {P : Program} {f : FuncId} {args : List AV} {h : Hp} {R : AV → Hp → Prop} (hc : ACalls P f (args.map ro) h R) : ACalls P f args h R :=
  ⟨hc.1, fun g w vargs h1 h2 h3 h4 => hc.2 g w vargs h1 h2 h3.ro (fun a ha => by
    obtain ⟨b, hb, rfl⟩ := List.mem_map.1 ha
    exact plain_ro (h4 b hb))⟩
theorem PCalls.ro {P : Program} {f : FuncId} {args : List AV} {v : AV} (hc : PCalls P f (args.map ro) v) : PCalls P f args v :=
  ⟨by rw [← frees_ro]; exact hc.1, hc.2.1, ACalls.ro hc.2.2⟩
def rod : AV → AV
  | .tup l => .tup (l.map ro)
  | a => ro a
theorem Rep.rod {g : Gh} {v : Value} {a : AV} (h : Rep g v a) : Rep g v (rod a) := by
  cases h with
  | tup vs l h1 h2 => exact .tup vs _ (fun a ha => by obtain ⟨b, hb, rfl⟩ := List.mem_map.1 ha; exact plain_ro (h1 b hb)) h2.ro
  | lst b off n c f vs l h1 h2 h3 h4 h5 => exact (Rep.lst b off n c f vs l h1 h2 h3 h4 h5).ro
  | lst0 a c f h => exact (Rep.lst0 a c f h).ro
  | itr b s p => exact .itr _ _ _
  | omp b ks vs => exact .omp b ks vs
  | mp b => exact .mp b
  | fmp b obj ks vs h1 h2 => exact .fmp b obj ks vs h1 h2
  | stk a c e o l h1 h2 h3 => exact .stk a c e o l h1 h2 h3
  | raw a n c h1 h2 => exact .raw a n c h1 h2
  | rawp b i n c => exact .rawp b i n c
  | opq v h h' => exact .opq _ h h'
  | frn v Q S W0 h h' h3 h4 => exact .frn _ Q S W0 h h' h3 h4
  | _ => first | exact .bool _ | exact .int _ _ | exact .str _ | exact .nilp | (exact .ptr _ _ _ ‹_›) | (exact .fp _ _ _ _ ‹_› ‹_› ‹_›) | (exact .hs _ _ _ _ ‹_› ‹_›) | (exact .agg _ _ ‹_› ‹_› ‹_›) | (exact .fn _ _ _ ‹_› ‹_›) | (exact .fnb _ _ _ ‹_› ‹_›) | exact .nilf
theorem plain_rod {a : AV} (h : plain a = true) : plain (rod a) = true := by
  cases a with
  | lst f n l => exact plain_ro h
  | _ => first | rfl | exact h
theorem ACalls.weak {P : Program} {f : FuncId} {args : List AV} {h : Hp} {R : AV → Hp → Prop} (hc : ACalls P f args h (fun a h' => R (Go.Proofs.Ytnmikopkjdekaaa.rod a) h')) : ACalls P f args h R :=
  ⟨hc.1, fun g w vargs h1 h2 h3 h4 => (hc.2 g w vargs h1 h2 h3 h4).mono fun _ _ ⟨x, a, h', g', q1, q2, q3, q4, q5, q6, q7⟩ => ⟨x, _, h', g', q1, q2, q3, q4, q5.rod, plain_rod q6, q7⟩⟩
theorem rod_tup (l : List AV) : rod (.tup l) = .tup (l.map ro) := id rfl
theorem ro_ro (n : Nat) (l : List AV) : ro (.lst .ro n l) = .lst .ro n l := id rfl
theorem ro_int (k : IntKind) (n : Int) : ro (.int k n) = .int k n := id rfl
end Go.Proofs.Ytnmikopkjdekaaa

namespace Go.Proofs.Ytnmikopkjdekaaa
open Go.RowKit
def J_ref03_And : AFn :=
 ⟨23, [.t 4, .t 5], .seq (.ops [⟨some 4, none, .mv (.c (.lst .clip 0 [])), none⟩,
 ⟨some 5, none, .mv (.c (.int .i64 0)), none⟩])
 (.keep [0, 1] (.seq (.seq (.ops [⟨some 6, none, .mv (.t 0), none⟩,
 ⟨some 7, none, .call (.f 24) [(.t 6)], none⟩,
 ⟨some 8, none, .not (.t 7), none⟩,
 ⟨some 9, none, .mv (.t 8), none⟩,
 ⟨some 10, (some (9, false)), .mv (.t 1), none⟩,
 ⟨some 11, (some (9, false)), .call (.f 24) [(.t 10)], none⟩,
 ⟨some 12, (some (9, false)), .not (.t 11), none⟩,
 ⟨some 13, none, .pick (.t 9) (.c (.bool true)) (.t 12), none⟩])
 (.keep [0, 1, 13] (.cond (.t 13)
 (.seq (.ops [⟨some 4, none, .mv (.c (.lst .clip 0 [])), none⟩,
 ⟨some 5, none, .mv (.c (.int .i64 2)), none⟩])
 (.ret))
 (.skip))))
 (.keep [0, 1] (.seq (.ops [⟨some 14, none, .bsl 27 1 0 [] [], none⟩,
 ⟨some 15, none, .mv (.t 0), none⟩,
 ⟨some 16, none, .appo 27 1 16 14 (.t 15), none⟩,
 ⟨some 17, none, .mv (.t 1), none⟩,
 ⟨some 18, none, .appo 27 1 16 16 (.t 17), none⟩,
 ⟨some 19, none, .call (.f 51) [(.t 18)], none⟩,
 ⟨some 20, none, .call (.f 50) [(.t 19)], none⟩,
 ⟨some 21, none, .ext 0 (.t 20), none⟩,
 ⟨some 22, none, .ext 1 (.t 20), none⟩,
 ⟨some 4, none, .mv (.t 21), none⟩,
 ⟨some 5, none, .mv (.t 22), none⟩])
 (.ret)))))⟩
theorem J_ref03_And_ok : chkFn Try.prog 26 J_ref03_And = true := by kernel_rfl
def J_ref03_Quote_j1 : ACode :=
 .keep [6] (.seq (.ops [⟨some 52, none, .mv (.t 6), none⟩,
 ⟨some 53, none, .call (.f 51) [(.t 52)], none⟩,
 ⟨some 54, none, .call (.f 50) [(.t 53)], none⟩,
 ⟨some 55, none, .ext 0 (.t 54), none⟩,
 ⟨some 56, none, .ext 1 (.t 54), none⟩,
 ⟨some 4, none, .mv (.t 55), none⟩,
 ⟨some 5, none, .mv (.t 56), none⟩])
 (.ret))
def J_ref03_Quote_j2 : ACode :=
 .keep [0, 1, 6, 7] (.ops [⟨some 24, none, .mv (.t 7), none⟩,
 ⟨some 25, none, .bin .add (.t 24) (.c (.int .i64 1)), none⟩,
 ⟨some 7, none, .mv (.t 25), none⟩])
def J_ref03_Quote_j3 : ACode :=
 .seq (.seq (.ops [⟨some 26, none, .mv (.t 8), none⟩,
 ⟨some 27, none, .mv (.t 1), none⟩,
 ⟨some 28, none, .lenl (.t 27), none⟩,
 ⟨some 29, none, .bin .lss (.t 26) (.t 28), none⟩])
 (.keep [0, 1, 6, 7, 8, 29] (.cond (.t 29)
 (.skip)
 (.exit 2))))
 (.keep [0, 1, 6, 7, 8] (.seq (.block 3 (.seq (.draw [0, 1, 6, 7, 8, 9, 10] [⟨some 33, none, .mv (.t 0), none⟩,
 ⟨some 34, none, .mv (.t 7), none⟩,
 ⟨some 35, none, .idxa 1 (.t 33) (.t 34), none⟩,
 ⟨some 36, none, .load none (.t 35), none⟩,
 ⟨some 37, none, .mv (.t 1), none⟩,
 ⟨some 38, none, .mv (.t 8), none⟩,
 ⟨some 39, none, .idxa 1 (.t 37) (.t 38), none⟩,
 ⟨some 40, none, .load none (.t 39), none⟩,
 ⟨some 41, none, .bsl 27 1 2 [(.str ⟨#[]⟩), (.str ⟨#[]⟩)] [(0, 1, (.t 36)), (1, 1, (.t 40))], none⟩,
 ⟨some 42, none, .call (.f 52) [(.t 41)], none⟩,
 ⟨some 32, none, .mv (.t 42), none⟩,
 ⟨some 43, none, .ext 0 (.t 32), none⟩,
 ⟨some 44, none, .ext 1 (.t 32), none⟩,
 ⟨some 9, none, .mv (.t 43), none⟩,
 ⟨some 10, none, .mv (.t 44), none⟩])
 (.keep [0, 1, 6, 7, 8, 9, 10] (.seq (.seq (.ops [⟨some 45, none, .mv (.t 10), none⟩,
 ⟨some 46, none, .bin .neq (.t 45) (.c (.int .i64 0)), none⟩])
 (.keep [0, 1, 6, 7, 8, 9, 10, 46] (.cond (.t 46)
 (.seq (.ops [⟨some 47, none, .mv (.t 10), none⟩,
 ⟨some 4, none, .mv (.c (.lst .clip 0 [])), none⟩,
 ⟨some 5, none, .mv (.t 47), none⟩])
 (.ret))
 (.skip))))
 (.keep [0, 1, 6, 7, 8, 9] (.ops [⟨some 48, none, .mvo 6, none⟩,
 ⟨some 49, none, .mv (.t 9), none⟩,
 ⟨some 50, none, .bsl 27 1 1 [(.str ⟨#[]⟩)] [(0, 1, (.t 49))], none⟩,
 ⟨some 51, none, .appo 27 1 16 48 (.t 50), none⟩,
 ⟨some 6, none, .mvo 51, none⟩]))))))
 (.keep [0, 1, 6, 7, 8] (.ops [⟨some 30, none, .mv (.t 8), none⟩,
 ⟨some 31, none, .bin .add (.t 30) (.c (.int .i64 1)), none⟩,
 ⟨some 8, none, .mv (.t 31), none⟩]))))
def J_ref03_Quote_j4 : ACode :=
 .seq (.seq (.ops [⟨some 20, none, .mv (.t 7), none⟩,
 ⟨some 21, none, .mv (.t 0), none⟩,
 ⟨some 22, none, .lenl (.t 21), none⟩,
 ⟨some 23, none, .bin .lss (.t 20) (.t 22), none⟩])
 (.keep [0, 1, 6, 7, 23] (.cond (.t 23)
 (.skip)
 (.exit 0))))
 (.keep [0, 1, 6, 7] (.seq (.block 1 (.seq (.ops [⟨some 8, none, .mv (.c (.int .i64 0)), none⟩])
 (.keep [0, 1, 6, 7, 8] (.block 2 (.loop [0, 1, 6, 7, 8] (J_ref03_Quote_j3))))))
 (J_ref03_Quote_j2)))
def J_ref03_Quote : AFn :=
 ⟨57, [.t 4, .t 5], .seq (.ops [⟨some 4, none, .mv (.c (.lst .clip 0 [])), none⟩,
 ⟨some 5, none, .mv (.c (.int .i64 0)), none⟩])
 (.keep [0, 1] (.seq (.seq (.ops [⟨some 11, none, .mv (.t 0), none⟩,
 ⟨some 12, none, .call (.f 24) [(.t 11)], none⟩,
 ⟨some 13, none, .not (.t 12), none⟩,
 ⟨some 14, none, .mv (.t 13), none⟩,
 ⟨some 15, (some (14, false)), .mv (.t 1), none⟩,
 ⟨some 16, (some (14, false)), .call (.f 24) [(.t 15)], none⟩,
 ⟨some 17, (some (14, false)), .not (.t 16), none⟩,
 ⟨some 18, none, .pick (.t 14) (.c (.bool true)) (.t 17), none⟩])
 (.keep [0, 1, 18] (.cond (.t 18)
 (.seq (.ops [⟨some 4, none, .mv (.c (.lst .clip 0 [])), none⟩,
 ⟨some 5, none, .mv (.c (.int .i64 2)), none⟩])
 (.ret))
 (.skip))))
 (.keep [0, 1] (.seq (.ops [⟨some 19, none, .bsl 27 1 0 [] [], none⟩,
 ⟨some 6, none, .mvo 19, none⟩])
 (.keep [0, 1, 6] (.seq (.seq (.ops [⟨some 7, none, .mv (.c (.int .i64 0)), none⟩])
 (.keep [0, 1, 6, 7] (.block 0 (.loop [0, 1, 6, 7] (J_ref03_Quote_j4)))))
 (J_ref03_Quote_j1)))))))⟩
theorem J_ref03_Quote_ok : chkFn Try.prog 27 J_ref03_Quote = true := by kernel_rfl
def J_word_Of_j1 : ACode :=
 .keep [3] (.seq (.ops [⟨some 25, none, .mv (.t 3), none⟩,
 ⟨some 26, none, .b2s (.t 25), none⟩,
 ⟨some 2, none, .mv (.t 26), none⟩])
 (.ret))
def J_word_Of_j2 : ACode :=
 .seq (.ops [⟨some 13, none, .bin .lss (.t 12) (.t 11), none⟩])
 (.keep [3, 10, 11, 12, 13] (.seq (.cond (.t 13)
 (.skip)
 (.exit 0))
 (.keep [3, 10, 11, 12] (.seq (.block 1 (.seq (.ops [⟨some 14, none, .idxa 1 (.t 10) (.t 12), none⟩,
 ⟨some 15, none, .load none (.t 14), none⟩,
 ⟨some 5, none, .mv (.t 15), none⟩])
 (.keep [3, 5, 10, 11, 12] (.ops [⟨some 16, none, .mvo 3, none⟩,
 ⟨some 17, none, .mv (.t 5), none⟩,
 ⟨some 18, none, .bin .shr (.t 17) (.c (.int .u64 8)), none⟩,
 ⟨some 19, none, .conv .u8 (.t 18), none⟩,
 ⟨some 20, none, .mv (.t 5), none⟩,
 ⟨some 21, none, .conv .u8 (.t 20), none⟩,
 ⟨some 22, none, .bsl 5 1 2 [(.int .u8 0), (.int .u8 0)] [(0, 1, (.t 19)), (1, 1, (.t 21))], none⟩,
 ⟨some 23, none, .appo 5 1 1 16 (.t 22), none⟩,
 ⟨some 3, none, .mvo 23, none⟩]))))
 (.keep [3, 10, 11, 12] (.ops [⟨some 24, none, .bin .add (.t 12) (.c (.int .i64 1)), none⟩,
 ⟨some 12, none, .mv (.t 24), none⟩]))))))
def J_word_Of : AFn :=
 ⟨27, [.t 2], .seq (.ops [⟨some 2, none, .mv (.c (.str ⟨#[]⟩)), none⟩])
 (.keep [0] (.seq (.ops [⟨some 6, none, .mv (.t 0), none⟩,
 ⟨some 7, none, .lenl (.t 6), none⟩,
 ⟨some 8, none, .bin .mul (.c (.int .i64 2)) (.t 7), none⟩,
 ⟨some 9, none, .mk0 5 1 1 (.t 8), none⟩,
 ⟨some 3, none, .mvo 9, none⟩])
 (.keep [0, 3] (.seq (.seq (.ops [⟨some 10, none, .mv (.t 0), none⟩,
 ⟨some 11, none, .lenl (.t 10), none⟩,
 ⟨some 12, none, .mv (.c (.int .i64 0)), none⟩])
 (.keep [3, 10, 11, 12] (.block 0 (.loop [3, 10, 11, 12] (J_word_Of_j2)))))
 (J_word_Of_j1)))))⟩
theorem J_word_Of_ok : chkFn Try.prog 45 J_word_Of = true := by kernel_rfl
def J_ref03_bound : AFn :=
 ⟨13, [.t 2, .t 3], .seq (.ops [⟨some 2, none, .mv (.c (.lst .clip 0 [])), none⟩,
 ⟨some 3, none, .mv (.c (.int .i64 0)), none⟩])
 (.keep [0] (.seq (.seq (.ops [⟨some 4, none, .mv (.t 0), none⟩,
 ⟨some 5, none, .lenl (.t 4), none⟩,
 ⟨some 6, none, .bin .lss (.t 5) (.c (.int .i64 1)), none⟩,
 ⟨some 7, none, .mv (.t 6), none⟩,
 ⟨some 8, (some (7, false)), .mv (.t 0), none⟩,
 ⟨some 9, (some (7, false)), .lenl (.t 8), none⟩,
 ⟨some 10, (some (7, false)), .bin .gtr (.t 9) (.c (.int .i64 16)), none⟩,
 ⟨some 11, none, .pick (.t 7) (.c (.bool true)) (.t 10), none⟩])
 (.keep [0, 11] (.cond (.t 11)
 (.seq (.ops [⟨some 2, none, .mv (.c (.lst .clip 0 [])), none⟩,
 ⟨some 3, none, .mv (.c (.int .i64 3)), none⟩])
 (.ret))
 (.skip))))
 (.keep [0] (.seq (.ops [⟨some 12, none, .mv (.t 0), none⟩,
 ⟨some 2, none, .mv (.t 12), none⟩,
 ⟨some 3, none, .mv (.c (.int .i64 0)), none⟩])
 (.ret)))))⟩
theorem J_ref03_bound_ok : chkFn Try.prog 50 J_ref03_bound = true := by kernel_rfl
def J_ref03_Right_j1 : ACode :=
 .keep [0, 3, 4, 5] (.seq (.seq (.ops [⟨some 48, none, .mv (.t 5), none⟩,
 ⟨some 49, none, .not (.t 48), none⟩])
 (.keep [0, 3, 4, 49] (.cond (.t 49)
 (.seq (.ops [⟨some 50, none, .mv (.t 3), none⟩,
 ⟨some 2, none, .mv (.t 50), none⟩])
 (.ret))
 (.skip))))
 (.keep [0, 3, 4] (.ops [⟨some 51, none, .mvo 3, none⟩,
 ⟨some 52, none, .mv (.t 4), none⟩,
 ⟨some 53, none, .bsl 27 1 1 [(.str ⟨#[]⟩)] [(0, 1, (.t 52))], none⟩,
 ⟨some 54, none, .appo 27 1 16 51 (.t 53), none⟩,
 ⟨some 3, none, .mvo 54, none⟩])))
def J_ref03_Right_j2 : ACode :=
 .keep [0, 3, 4, 5, 6] (.ops [⟨some 13, none, .mv (.t 6), none⟩,
 ⟨some 14, none, .bin .add (.t 13) (.c (.int .i64 1)), none⟩,
 ⟨some 6, none, .mv (.t 14), none⟩])
def J_ref03_Right_j3 : ACode :=
 .seq (.seq (.ops [⟨some 9, none, .mv (.t 6), none⟩,
 ⟨some 10, none, .mv (.t 0), none⟩,
 ⟨some 11, none, .lenl (.t 10), none⟩,
 ⟨some 12, none, .bin .lss (.t 9) (.t 11), none⟩])
 (.keep [0, 3, 4, 5, 6, 12] (.cond (.t 12)
 (.skip)
 (.exit 2))))
 (.keep [0, 3, 4, 5, 6] (.seq (.block 3 (.seq (.draw [0, 3, 4, 5, 6, 7] [⟨some 15, none, .mv (.t 3), none⟩,
 ⟨some 16, none, .lenl (.t 15), none⟩,
 ⟨some 17, none, .bin .eql (.t 16) (.c (.int .i64 0)), none⟩,
 ⟨some 18, none, .mv (.t 17), none⟩,
 ⟨some 19, (some (18, false)), .mv (.t 3), none⟩,
 ⟨some 20, (some (18, false)), .mv (.t 3), none⟩,
 ⟨some 21, (some (18, false)), .lenl (.t 20), none⟩,
 ⟨some 22, (some (18, false)), .bin .sub (.t 21) (.c (.int .i64 1)), none⟩,
 ⟨some 23, (some (18, false)), .idxa 1 (.t 19) (.t 22), none⟩,
 ⟨some 24, (some (18, false)), .load none (.t 23), none⟩,
 ⟨some 25, (some (18, false)), .mv (.t 0), none⟩,
 ⟨some 26, (some (18, false)), .mv (.t 6), none⟩,
 ⟨some 27, (some (18, false)), .idxa 1 (.t 25) (.t 26), none⟩,
 ⟨some 28, (some (18, false)), .load none (.t 27), none⟩,
 ⟨some 29, (some (18, false)), .call (.f 49) [(.t 24), (.t 28)], none⟩,
 ⟨some 30, none, .pick (.t 18) (.c (.bool true)) (.t 29), none⟩,
 ⟨some 7, none, .mv (.t 30), none⟩])
 (.keep [0, 3, 4, 5, 6, 7] (.seq (.ops [⟨some 31, none, .mv (.t 7), none⟩,
 ⟨some 32, none, .mv (.t 31), none⟩,
 ⟨some 33, (some (32, true)), .mv (.t 5), none⟩,
 ⟨some 34, (some (32, true)), .not (.t 33), none⟩,
 ⟨some 35, (some (32, true)), .mv (.t 34), none⟩,
 ⟨some 36, (some (35, false)), .mv (.t 0), none⟩,
 ⟨some 37, (some (35, false)), .mv (.t 6), none⟩,
 ⟨some 38, (some (35, false)), .idxa 1 (.t 36) (.t 37), none⟩,
 ⟨some 39, (some (35, false)), .load none (.t 38), none⟩,
 ⟨some 40, (some (35, false)), .mv (.t 4), none⟩,
 ⟨some 41, (some (35, false)), .call (.f 49) [(.t 39), (.t 40)], none⟩,
 ⟨some 42, (some (32, true)), .pick (.t 35) (.c (.bool true)) (.t 41), none⟩,
 ⟨some 43, none, .pick (.t 32) (.t 42) (.c (.bool false)), none⟩])
 (.keep [0, 3, 4, 5, 6, 43] (.cond (.t 43)
 (.seq (.ops [⟨some 44, none, .mv (.t 0), none⟩,
 ⟨some 45, none, .mv (.t 6), none⟩,
 ⟨some 46, none, .idxa 1 (.t 44) (.t 45), none⟩,
 ⟨some 47, none, .load none (.t 46), none⟩,
 ⟨some 4, none, .mv (.t 47), none⟩])
 (.keep [0, 3, 4, 6] (.ops [⟨some 5, none, .mv (.c (.bool true)), none⟩])))
 (.skip)))))))
 (J_ref03_Right_j2)))
def J_ref03_Right_j4 : ACode :=
 .block 1 (.seq (.ops [⟨some 4, none, .mv (.c (.str ⟨#[]⟩)), none⟩])
 (.keep [0, 3, 4] (.seq (.ops [⟨some 5, none, .mv (.c (.bool false)), none⟩])
 (.keep [0, 3, 4, 5] (.seq (.seq (.ops [⟨some 6, none, .mv (.c (.int .i64 0)), none⟩])
 (.keep [0, 3, 4, 5, 6] (.block 2 (.loop [0, 3, 4, 5, 6] (J_ref03_Right_j3)))))
 (J_ref03_Right_j1))))))
def J_ref03_Right : AFn :=
 ⟨55, [.t 2], .seq (.ops [⟨some 2, none, .mv (.c (.lst .clip 0 [])), none⟩])
 (.keep [0] (.seq (.ops [⟨some 8, none, .bsl 27 1 0 [] [], none⟩,
 ⟨some 3, none, .mvo 8, none⟩])
 (.keep [0, 3] (.block 0 (.loop [0, 3] (J_ref03_Right_j4))))))⟩
theorem J_ref03_Right_ok : chkFn Try.prog 51 J_ref03_Right = true := by kernel_rfl
def J_ref02_Cat_j1 : ACode :=
 .keep [4] (.seq (.ops [⟨some 37, none, .mv (.t 4), none⟩,
 ⟨some 38, none, .call (.f 29) [(.t 37)], none⟩,
 ⟨some 2, none, .mv (.t 38), none⟩,
 ⟨some 3, none, .mv (.c (.int .i64 0)), none⟩])
 (.ret))
def J_ref02_Cat_j2 : ACode :=
 .seq (.seq (.ops [⟨some 21, none, .mv (.t 6), none⟩,
 ⟨some 22, none, .mv (.t 0), none⟩,
 ⟨some 23, none, .lenl (.t 22), none⟩,
 ⟨some 24, none, .bin .lss (.t 21) (.t 23), none⟩])
 (.keep [0, 4, 6, 24] (.cond (.t 24)
 (.skip)
 (.exit 2))))
 (.keep [0, 4, 6] (.seq (.block 3 (.seq (.ops [⟨some 27, none, .mvo 4, none⟩,
 ⟨some 28, none, .mv (.t 0), none⟩,
 ⟨some 29, none, .mv (.t 6), none⟩,
 ⟨some 30, none, .idxa 1 (.t 28) (.t 29), none⟩,
 ⟨some 31, none, .load none (.t 30), none⟩,
 ⟨some 32, none, .call (.f 57) [(.t 31)], none⟩,
 ⟨some 33, none, .appo 51 1 2 27 (.t 32), none⟩,
 ⟨some 4, none, .mvo 33, none⟩])
 (.keep [0, 4, 6] (.seq (.ops [⟨some 34, none, .mv (.t 4), none⟩,
 ⟨some 35, none, .lenl (.t 34), none⟩,
 ⟨some 36, none, .bin .gtr (.t 35) (.c (.int .i64 8)), none⟩])
 (.keep [0, 4, 6, 36] (.cond (.t 36)
 (.seq (.ops [⟨some 2, none, .mv (.c (.str ⟨#[]⟩)), none⟩,
 ⟨some 3, none, .mv (.c (.int .i64 4)), none⟩])
 (.ret))
 (.skip)))))))
 (.keep [0, 4, 6] (.ops [⟨some 25, none, .mv (.t 6), none⟩,
 ⟨some 26, none, .bin .add (.t 25) (.c (.int .i64 1)), none⟩,
 ⟨some 6, none, .mv (.t 26), none⟩]))))
def J_ref02_Cat_j3 : ACode :=
 .keep [0, 4] (.seq (.seq (.ops [⟨some 6, none, .mv (.c (.int .i64 0)), none⟩])
 (.keep [0, 4, 6] (.block 2 (.loop [0, 4, 6] (J_ref02_Cat_j2)))))
 (J_ref02_Cat_j1))
def J_ref02_Cat_j4 : ACode :=
 .seq (.seq (.ops [⟨some 8, none, .mv (.t 5), none⟩,
 ⟨some 9, none, .mv (.t 0), none⟩,
 ⟨some 10, none, .lenl (.t 9), none⟩,
 ⟨some 11, none, .bin .lss (.t 8) (.t 10), none⟩])
 (.keep [0, 4, 5, 11] (.cond (.t 11)
 (.skip)
 (.exit 0))))
 (.keep [0, 4, 5] (.seq (.block 1 (.seq (.ops [⟨some 14, none, .mv (.t 0), none⟩,
 ⟨some 15, none, .mv (.t 5), none⟩,
 ⟨some 16, none, .idxa 1 (.t 14) (.t 15), none⟩,
 ⟨some 17, none, .load none (.t 16), none⟩,
 ⟨some 18, none, .lens (.t 17), none⟩,
 ⟨some 19, none, .bin .rem (.t 18) (.c (.int .i64 2)), none⟩,
 ⟨some 20, none, .bin .eql (.t 19) (.c (.int .i64 1)), none⟩])
 (.keep [0, 4, 5, 20] (.cond (.t 20)
 (.seq (.ops [⟨some 2, none, .mv (.c (.str ⟨#[]⟩)), none⟩,
 ⟨some 3, none, .mv (.c (.int .i64 2)), none⟩])
 (.ret))
 (.skip)))))
 (.keep [0, 4, 5] (.ops [⟨some 12, none, .mv (.t 5), none⟩,
 ⟨some 13, none, .bin .add (.t 12) (.c (.int .i64 1)), none⟩,
 ⟨some 5, none, .mv (.t 13), none⟩]))))
def J_ref02_Cat : AFn :=
 ⟨39, [.t 2, .t 3], .seq (.ops [⟨some 2, none, .mv (.c (.str ⟨#[]⟩)), none⟩,
 ⟨some 3, none, .mv (.c (.int .i64 0)), none⟩])
 (.keep [0] (.seq (.ops [⟨some 7, none, .bsl 51 1 0 [] [], none⟩,
 ⟨some 4, none, .mvo 7, none⟩])
 (.keep [0, 4] (.seq (.seq (.ops [⟨some 5, none, .mv (.c (.int .i64 0)), none⟩])
 (.keep [0, 4, 5] (.block 0 (.loop [0, 4, 5] (J_ref02_Cat_j4)))))
 (J_ref02_Cat_j3)))))⟩
theorem J_ref02_Cat_ok : chkFn Try.prog 52 J_ref02_Cat = true := by kernel_rfl
def J_slices_Contains_int_int : AFn :=
 ⟨9, [.t 4], .seq (.ops [⟨some 4, none, .mv (.c (.bool false)), none⟩])
 (.keep [0, 1] (.seq (.ops [⟨some 5, none, .mv (.t 0), none⟩,
 ⟨some 6, none, .mv (.t 1), none⟩,
 ⟨some 7, none, .call (.f 71) [(.t 5), (.t 6)], none⟩,
 ⟨some 8, none, .bin .geq (.t 7) (.c (.int .i64 0)), none⟩,
 ⟨some 4, none, .mv (.t 8), none⟩])
 (.ret)))⟩
theorem J_slices_Contains_int_int_ok : chkFn Try.prog 66 J_slices_Contains_int_int = true := by kernel_rfl
def J_slices_Index_int_int_j1 : ACode :=
 .keep [] (.seq (.ops [⟨some 4, none, .mv (.c (.int .i64 (-1))), none⟩])
 (.ret))
def J_slices_Index_int_int_j2 : ACode :=
 .seq (.ops [⟨some 9, none, .bin .lss (.t 8) (.t 7), none⟩])
 (.keep [0, 1, 7, 8, 9] (.seq (.cond (.t 9)
 (.skip)
 (.exit 0))
 (.keep [0, 1, 7, 8] (.seq (.block 1 (.seq (.ops [⟨some 10, none, .mv (.t 8), none⟩,
 ⟨some 5, none, .mv (.t 10), none⟩])
 (.keep [0, 1, 5, 7, 8] (.seq (.ops [⟨some 11, none, .mv (.t 1), none⟩,
 ⟨some 12, none, .mv (.t 0), none⟩,
 ⟨some 13, none, .mv (.t 5), none⟩,
 ⟨some 14, none, .idxa 1 (.t 12) (.t 13), none⟩,
 ⟨some 15, none, .load none (.t 14), none⟩,
 ⟨some 16, none, .bin .eql (.t 11) (.t 15), none⟩])
 (.keep [0, 1, 5, 7, 8, 16] (.cond (.t 16)
 (.seq (.ops [⟨some 17, none, .mv (.t 5), none⟩,
 ⟨some 4, none, .mv (.t 17), none⟩])
 (.ret))
 (.skip)))))))
 (.keep [0, 1, 7, 8] (.ops [⟨some 18, none, .bin .add (.t 8) (.c (.int .i64 1)), none⟩,
 ⟨some 8, none, .mv (.t 18), none⟩]))))))
def J_slices_Index_int_int : AFn :=
 ⟨19, [.t 4], .seq (.ops [⟨some 4, none, .mv (.c (.int .i64 0)), none⟩])
 (.keep [0, 1] (.seq (.seq (.ops [⟨some 6, none, .mv (.t 0), none⟩,
 ⟨some 7, none, .lenl (.t 6), none⟩,
 ⟨some 8, none, .mv (.c (.int .i64 0)), none⟩])
 (.keep [0, 1, 7, 8] (.block 0 (.loop [0, 1, 7, 8] (J_slices_Index_int_int_j2)))))
 (J_slices_Index_int_int_j1)))⟩
theorem J_slices_Index_int_int_ok : chkFn Try.prog 71 J_slices_Index_int_int = true := by kernel_rfl
def J_word_Swap : AFn :=
 ⟨42, [.t 8, .t 9], .seq (.ops [⟨some 8, none, .mv (.c (.str ⟨#[]⟩)), none⟩,
 ⟨some 9, none, .mv (.c (.int .i64 0)), none⟩])
 (.keep [0, 1, 2, 3] (.seq (.seq (.ops [⟨some 10, none, .mv (.t 0), none⟩,
 ⟨some 11, none, .call (.f 53) [(.t 10)], none⟩,
 ⟨some 12, none, .mv (.t 11), none⟩,
 ⟨some 13, (some (12, false)), .mv (.t 3), none⟩,
 ⟨some 14, (some (12, false)), .call (.f 53) [(.t 13)], none⟩,
 ⟨some 15, none, .pick (.t 12) (.c (.bool true)) (.t 14), none⟩])
 (.keep [0, 1, 2, 3, 15] (.cond (.t 15)
 (.seq (.ops [⟨some 8, none, .mv (.c (.str ⟨#[]⟩)), none⟩,
 ⟨some 9, none, .mv (.c (.int .i64 2)), none⟩])
 (.ret))
 (.skip))))
 (.keep [0, 1, 2, 3] (.seq (.seq (.ops [⟨some 16, none, .mv (.t 0), none⟩,
 ⟨some 17, none, .mv (.t 1), none⟩,
 ⟨some 18, none, .mv (.t 2), none⟩,
 ⟨some 19, none, .call (.f 75) [(.t 16), (.t 17), (.t 18)], none⟩,
 ⟨some 20, none, .not (.t 19), none⟩])
 (.keep [0, 1, 2, 3, 20] (.cond (.t 20)
 (.seq (.ops [⟨some 8, none, .mv (.c (.str ⟨#[]⟩)), none⟩,
 ⟨some 9, none, .mv (.c (.int .i64 5)), none⟩])
 (.ret))
 (.skip))))
 (.keep [0, 1, 2, 3] (.seq (.seq (.ops [⟨some 21, none, .mv (.t 0), none⟩,
 ⟨some 22, none, .call (.f 54) [(.t 21)], none⟩,
 ⟨some 23, none, .mv (.t 2), none⟩,
 ⟨some 24, none, .bin .sub (.t 22) (.t 23), none⟩,
 ⟨some 25, none, .mv (.t 3), none⟩,
 ⟨some 26, none, .call (.f 54) [(.t 25)], none⟩,
 ⟨some 27, none, .bin .add (.t 24) (.t 26), none⟩,
 ⟨some 28, none, .bin .gtr (.t 27) (.c (.int .i64 8)), none⟩])
 (.keep [0, 1, 2, 3, 28] (.cond (.t 28)
 (.seq (.ops [⟨some 8, none, .mv (.c (.str ⟨#[]⟩)), none⟩,
 ⟨some 9, none, .mv (.c (.int .i64 4)), none⟩])
 (.ret))
 (.skip))))
 (.keep [0, 1, 2, 3] (.seq (.draw [8, 9] [⟨some 29, none, .mv (.t 0), none⟩,
 ⟨some 30, none, .mv (.t 1), none⟩,
 ⟨some 31, none, .bin .mul (.c (.int .i64 2)) (.t 30), none⟩,
 ⟨some 32, none, .slcs (.t 29) none (some (.t 31)), none⟩,
 ⟨some 33, none, .mv (.t 3), none⟩,
 ⟨some 34, none, .bin .add (.t 32) (.t 33), none⟩,
 ⟨some 35, none, .mv (.t 0), none⟩,
 ⟨some 36, none, .mv (.t 1), none⟩,
 ⟨some 37, none, .mv (.t 2), none⟩,
 ⟨some 38, none, .bin .add (.t 36) (.t 37), none⟩,
 ⟨some 39, none, .bin .mul (.c (.int .i64 2)) (.t 38), none⟩,
 ⟨some 40, none, .slcs (.t 35) (some (.t 39)) none, none⟩,
 ⟨some 41, none, .bin .add (.t 34) (.t 40), none⟩,
 ⟨some 8, none, .mv (.t 41), none⟩,
 ⟨some 9, none, .mv (.c (.int .i64 0)), none⟩])
 (.ret)))))))))⟩
theorem J_word_Swap_ok : chkFn Try.prog 72 J_word_Swap = true := by kernel_rfl
def J_set_Same : AFn :=
 ⟨13, [.t 4], .seq (.ops [⟨some 4, none, .mv (.c (.bool false)), none⟩])
 (.keep [0, 1] (.seq (.ops [⟨some 5, none, .mv (.t 0), none⟩,
 ⟨some 6, none, .mv (.t 1), none⟩,
 ⟨some 7, none, .call (.f 81) [(.t 5), (.t 6)], none⟩,
 ⟨some 8, none, .mv (.t 7), none⟩,
 ⟨some 9, (some (8, true)), .mv (.t 1), none⟩,
 ⟨some 10, (some (8, true)), .mv (.t 0), none⟩,
 ⟨some 11, (some (8, true)), .call (.f 81) [(.t 9), (.t 10)], none⟩,
 ⟨some 12, none, .pick (.t 8) (.t 11) (.c (.bool false)), none⟩,
 ⟨some 4, none, .mv (.t 12), none⟩])
 (.ret)))⟩
theorem J_set_Same_ok : chkFn Try.prog 74 J_set_Same = true := by kernel_rfl
def J_word_within : AFn :=
 ⟨27, [.t 6], .seq (.ops [⟨some 6, none, .mv (.c (.bool false)), none⟩])
 (.keep [0, 1, 2] (.seq (.ops [⟨some 7, none, .mv (.t 1), none⟩,
 ⟨some 8, none, .bin .geq (.t 7) (.c (.int .i64 0)), none⟩,
 ⟨some 9, none, .mv (.t 8), none⟩,
 ⟨some 10, (some (9, true)), .mv (.t 2), none⟩,
 ⟨some 11, (some (9, true)), .bin .geq (.t 10) (.c (.int .i64 0)), none⟩,
 ⟨some 12, none, .pick (.t 9) (.t 11) (.c (.bool false)), none⟩,
 ⟨some 13, none, .mv (.t 12), none⟩,
 ⟨some 14, (some (13, true)), .mv (.t 1), none⟩,
 ⟨some 15, (some (13, true)), .mv (.t 0), none⟩,
 ⟨some 16, (some (13, true)), .call (.f 54) [(.t 15)], none⟩,
 ⟨some 17, (some (13, true)), .bin .leq (.t 14) (.t 16), none⟩,
 ⟨some 18, none, .pick (.t 13) (.t 17) (.c (.bool false)), none⟩,
 ⟨some 19, none, .mv (.t 18), none⟩,
 ⟨some 20, (some (19, true)), .mv (.t 2), none⟩,
 ⟨some 21, (some (19, true)), .mv (.t 0), none⟩,
 ⟨some 22, (some (19, true)), .call (.f 54) [(.t 21)], none⟩,
 ⟨some 23, (some (19, true)), .mv (.t 1), none⟩,
 ⟨some 24, (some (19, true)), .bin .sub (.t 22) (.t 23), none⟩,
 ⟨some 25, (some (19, true)), .bin .leq (.t 20) (.t 24), none⟩,
 ⟨some 26, none, .pick (.t 19) (.t 25) (.c (.bool false)), none⟩,
 ⟨some 6, none, .mv (.t 26), none⟩])
 (.ret)))⟩
theorem J_word_within_ok : chkFn Try.prog 75 J_word_within = true := by kernel_rfl
end Go.Proofs.Ytnmikopkjdekaaa

/- What the reference's sets do: words in order, each once. -/
namespace Go.Proofs.Ytnmikopkjdekaaa
set_option linter.unusedSimpArgs false
set_option linter.unusedVariables false
open Go.RowKit Go.Lib

theorem rising_get {r : List ByteArray} (hr : rising r = true) : ∀ {i j : Nat} (hi : i < j) (hj : j < r.length), wless (r[i]'(by omega)) r[j] = true := by
  induction r with
  | nil => intro i j _ hj; simp at hj
  | cons x r ih =>
    obtain ⟨h1, h2⟩ := rising_cons.1 hr
    intro i j hi hj
    cases j with
    | zero => omega
    | succ j =>
      cases i with
      | zero => exact h1 _ (List.getElem_mem _)
      | succ i => exact ih h2 (by omega) (by simpa using hj)
def aft (r : List ByteArray) (k : Nat) (x : ByteArray) : Prop := k = 0 ∨ ∃ h : k - 1 < r.length, wless r[k - 1] x = true
theorem aft_iff {r : List ByteArray} (hr : rising r = true) {k j : Nat} (hk : k ≤ r.length) (hj : j < r.length) : aft r k r[j] ↔ k ≤ j := by
  unfold aft
  constructor
  · rintro (h | ⟨h, hw⟩)
    · omega
    · rcases Nat.lt_or_ge j k with hlt | hge
      · by_cases e : j = k - 1
        · subst e; rw [wless_irrefl] at hw; cases hw
        · have := rising_get hr (i := j) (j := k - 1) (by omega) (by omega)
          rw [wless_asymm this] at hw; cases hw
      · exact hge
  · intro h
    by_cases h0 : k = 0
    · exact .inl h0
    · exact .inr ⟨by omega, rising_get hr (by omega) hj⟩
structure RInv (l : List ByteArray) (k i : Nat) (best : ByteArray) (found : Bool) : Prop where
  no : found = false → ∀ x ∈ l.take i, ¬ aft (nrm l) k x
  mem : found = true → best ∈ l ∧ aft (nrm l) k best
  least : found = true → ∀ x ∈ l.take i, aft (nrm l) k x → wless x best = false
theorem RInv.zero (l : List ByteArray) (k : Nat) : RInv l k 0 ⟨#[]⟩ false := ⟨fun _ x hx => by simp at hx, fun h => (nomatch h), fun h => (nomatch h)⟩
theorem RInv.take {l : List ByteArray} {k i : Nat} {best : ByteArray} {found : Bool} (h : RInv l k i best found) (hi : i < l.length) (ha : aft (nrm l) k l[i]) (hb : found = true → wless l[i] best = true) : RInv l k (i + 1) l[i] true := by
  refine ⟨fun h => (nomatch h), fun _ => ⟨List.getElem_mem hi, ha⟩, fun _ x hx hax => ?_⟩
  rcases (by rw [List.take_succ_eq_append_getElem hi, List.mem_append] at hx; simpa using hx : x ∈ l.take i ∨ x = l[i]) with hx | rfl
  · cases found with
    | false => exact absurd hax (h.no rfl x hx)
    | true =>
      cases hw : wless x l[i] with
      | false => rfl
      | true =>
        have := wless_trans hw (hb rfl)
        rw [h.least rfl x hx hax] at this; cases this
  · exact wless_irrefl _
theorem RInv.skip {l : List ByteArray} {k i : Nat} {best : ByteArray} {found : Bool} (h : RInv l k i best found) (hi : i < l.length) (hs : ¬ aft (nrm l) k l[i] ∨ (found = true ∧ wless l[i] best = false)) : RInv l k (i + 1) best found := by
  have key : ∀ x, x ∈ l.take (i + 1) → x ∈ l.take i ∨ x = l[i] := fun x hx => by rw [List.take_succ_eq_append_getElem hi, List.mem_append] at hx; simpa using hx
  refine ⟨fun hf x hx => ?_, h.mem, fun hf x hx hax => ?_⟩
  · rcases key x hx with hx | rfl
    · exact h.no hf x hx
    · rcases hs with hs | ⟨hs, _⟩
      · exact hs
      · rw [hf] at hs; cases hs
  · rcases key x hx with hx | rfl
    · exact h.least hf x hx hax
    · rcases hs with hs | ⟨_, hs⟩
      · exact absurd hax hs
      · exact hs
theorem RInv.stop {l : List ByteArray} {k : Nat} {best : ByteArray} (h : RInv l k l.length best false) (hk : k ≤ (nrm l).length) : k = (nrm l).length := by
  rcases Nat.lt_or_ge k (nrm l).length with hlt | hge
  · have hm : (nrm l)[k] ∈ l := mem_nrm.1 (List.getElem_mem hlt)
    exact absurd ((aft_iff (rising_nrm l) hk hlt).2 (Nat.le_refl _)) (h.no rfl _ (by rw [List.take_length]; exact hm))
  · omega
theorem RInv.next {l : List ByteArray} {k : Nat} {best : ByteArray} (h : RInv l k l.length best true) (hk : k ≤ (nrm l).length) : ∃ hlt : k < (nrm l).length, best = (nrm l)[k] := by
  obtain ⟨hm, ha⟩ := h.mem rfl
  obtain ⟨j, hj, e⟩ := List.mem_iff_getElem.1 (mem_nrm.2 hm)
  subst e
  have hkj := (aft_iff (rising_nrm l) hk hj).1 ha
  refine ⟨by omega, ?_⟩
  by_cases e : j = k
  · subst e; rfl
  · have hlt : k < (nrm l).length := by omega
    have h1 := h.least rfl (nrm l)[k] (by rw [List.take_length]; exact mem_nrm.1 (List.getElem_mem hlt)) ((aft_iff (rising_nrm l) hk hlt).2 (Nat.le_refl _))
    rw [rising_get (rising_nrm l) (by omega) hj] at h1; cases h1
theorem nrm_len : ∀ l : List ByteArray, (nrm l).length ≤ l.length := by
  have h : ∀ (x : ByteArray) (l : List ByteArray), (ins x l).length ≤ l.length + 1 := by
    intro x l
    induction l with
    | nil => simp [ins]
    | cons y l ih => simp only [ins]; split; simp; split <;> simp only [List.length_cons] <;> omega
  intro l
  induction l with
  | nil => simp [nrm]
  | cons x l ih => simp only [nrm, List.length_cons]; have := h x (nrm l); omega
set_option maxRecDepth 100000 in
set_option maxHeartbeats 2000000 in
theorem p_rright (l : List ByteArray) (hl : l.length ≤ 1000000) (hs : ∀ x ∈ l, x.size ≤ 1000000) : PCalls Try.prog 51 [.lst .ro l.length (l.map .str)] (.lst .ro (nrm l).length ((nrm l).map .str)) := by
  refine pcalls_of (by first | rfl | simp [free, free.frees, frees_str, frees_u8, frees_u16]) (by first | rfl | simp [free, free.frees, frees_str, frees_u8, frees_u16]) (acalls_of mixed J_ref03_Right_ok (Nat.le_of_ble_eq_true rfl) ?_); simp only [J_ref03_Right, wk,if_true,if_false,forall_const,implies_true,ne_eq,eq_self,Nat.reduceEqDiff,Nat.reduceAdd,Nat.reduceMul,Nat.reduceSub,Nat.reduceLeDiff,Nat.reduceLT,Int.reduceEq,Int.reduceLT,Int.reduceLE,Int.reduceAdd,Int.reduceSub,Int.reduceMul,Int.reduceNeg,Int.reduceNe,reduceCtorEq,Int.reduceToNat,↓reduceIte]
  have hnl := nrm_len l
  refine W_loop (fun n fr h => ∃ k : Nat, k ≤ (nrm l).length ∧ n = (nrm l).length - k ∧ fr = [(0, .lst .ro l.length (l.map .str)), (3, .lst (.own 27) k (((nrm l).take k).map .str))]) (nrm l).length ⟨0, by omega, by omega, rfl⟩ ?_
  rintro n fr h ⟨k, hk, rfl, rfl⟩
  simp only [J_ref03_Right_j4, wk,if_true,if_false,forall_const,implies_true,ne_eq,eq_self,Nat.reduceEqDiff,Nat.reduceAdd,Nat.reduceMul,Nat.reduceSub,Nat.reduceLeDiff,Nat.reduceLT,Int.reduceEq,Int.reduceLT,Int.reduceLE,Int.reduceAdd,Int.reduceSub,Int.reduceMul,Int.reduceNeg,Int.reduceNe,reduceCtorEq,Int.reduceToNat,↓reduceIte]
  refine W_loop (fun n fr h => ∃ (i : Nat) (best : ByteArray) (found : Bool), i ≤ l.length ∧ n = l.length - i ∧ best.size ≤ 1000000 ∧ RInv l k i best found ∧ fr = [(0, .lst .ro l.length (l.map .str)), (3, .lst (.own 27) k (((nrm l).take k).map .str)), (4, .str best), (5, .bool found), (6, .int .i64 i)]) l.length ⟨0, ⟨#[]⟩, false, by omega, by omega, by decide, RInv.zero l k, rfl⟩ ?_
  rintro n fr h ⟨i, best, found, hi, rfl, hbs, hinv, rfl⟩
  simp only [J_ref03_Right_j3, wk,if_true,if_false,forall_const,implies_true,ne_eq,eq_self,Nat.reduceEqDiff,Nat.reduceAdd,Nat.reduceMul,Nat.reduceSub,Nat.reduceLeDiff,Nat.reduceLT,Int.reduceEq,Int.reduceLT,Int.reduceLE,Int.reduceAdd,Int.reduceSub,Int.reduceMul,Int.reduceNeg,Int.reduceNe,reduceCtorEq,Int.reduceToNat,↓reduceIte]
  refine ⟨fun hlt => ?_, fun hge => ?_⟩
  · have hil : i < l.length := by omega
    have hxs := hs l[i] (List.getElem_mem hil)
    have hd : (l.map AV.str).drop (i : Int).toNat = .str l[i] :: (l.map AV.str).drop (i + 1) := by rw [show (i : Int).toNat = i by omega, drop_str hil]
    have hz : (0 ≤ (i : Int)) = True := eq_true (by omega)
    have hlt' : ((i : Int) < (l.length : Int)) = True := eq_true (by omega)
    have htk : ∀ {fr0 : Fr} {Q : Exit → Fr → Hp → Prop} {h : Hp}, restr [0, 3, 4, 5, 6] fr0 = [(0, .lst .ro l.length (l.map .str)), (3, .lst (.own 27) k (((nrm l).take k).map .str)), (4, .str l[i]), (5, .bool true), (6, .int .i64 i)] → aft (nrm l) k l[i] → (found = true → wless l[i] best = true) → W Try.prog J_ref03_Right_j2 fr0 h (kloop [0, 3, 4, 5, 6] (fun n fr h => ∃ (i : Nat) (best : ByteArray) (found : Bool), i ≤ l.length ∧ n = l.length - i ∧ best.size ≤ 1000000 ∧ RInv l k i best found ∧ fr = [(0, .lst .ro l.length (l.map .str)), (3, .lst (.own 27) k (((nrm l).take k).map .str)), (4, .str best), (5, .bool found), (6, .int .i64 i)]) (l.length - i) Q) := by
      intro fr0 Q h hf ha hb
      simp only [J_ref03_Right_j2, W_keep]
      rw [hf]
      simp only [wk,if_true,if_false,forall_const,implies_true,ne_eq,eq_self,Nat.reduceEqDiff,Nat.reduceAdd,Nat.reduceMul,Nat.reduceSub,Nat.reduceLeDiff,Nat.reduceLT,Int.reduceEq,Int.reduceLT,Int.reduceLE,Int.reduceAdd,Int.reduceSub,Int.reduceMul,Int.reduceNeg,Int.reduceNe,reduceCtorEq,Int.reduceToNat,↓reduceIte]
      exact ⟨inR_of (by omega) (by omega), l.length - (i + 1), by omega, i + 1, l[i], true, by omega, rfl, hxs, hinv.take hil ha hb, rfl⟩
    have hsk : ∀ {fr0 : Fr} {Q : Exit → Fr → Hp → Prop} {h : Hp}, restr [0, 3, 4, 5, 6] fr0 = [(0, .lst .ro l.length (l.map .str)), (3, .lst (.own 27) k (((nrm l).take k).map .str)), (4, .str best), (5, .bool found), (6, .int .i64 i)] → (¬ aft (nrm l) k l[i] ∨ (found = true ∧ wless l[i] best = false)) → W Try.prog J_ref03_Right_j2 fr0 h (kloop [0, 3, 4, 5, 6] (fun n fr h => ∃ (i : Nat) (best : ByteArray) (found : Bool), i ≤ l.length ∧ n = l.length - i ∧ best.size ≤ 1000000 ∧ RInv l k i best found ∧ fr = [(0, .lst .ro l.length (l.map .str)), (3, .lst (.own 27) k (((nrm l).take k).map .str)), (4, .str best), (5, .bool found), (6, .int .i64 i)]) (l.length - i) Q) := by
      intro fr0 Q h hf hss
      simp only [J_ref03_Right_j2, W_keep]
      rw [hf]
      simp only [wk,if_true,if_false,forall_const,implies_true,ne_eq,eq_self,Nat.reduceEqDiff,Nat.reduceAdd,Nat.reduceMul,Nat.reduceSub,Nat.reduceLeDiff,Nat.reduceLT,Int.reduceEq,Int.reduceLT,Int.reduceLE,Int.reduceAdd,Int.reduceSub,Int.reduceMul,Int.reduceNeg,Int.reduceNe,reduceCtorEq,Int.reduceToNat,↓reduceIte]
      exact ⟨inR_of (by omega) (by omega), l.length - (i + 1), by omega, i + 1, best, found, by omega, rfl, hbs, hinv.skip hil hss, rfl⟩
    simp only [wk,if_true,if_false,forall_const,implies_true,ne_eq,eq_self,Nat.reduceEqDiff,Nat.reduceAdd,Nat.reduceMul,Nat.reduceSub,Nat.reduceLeDiff,Nat.reduceLT,Int.reduceEq,Int.reduceLT,Int.reduceLE,Int.reduceAdd,Int.reduceSub,Int.reduceMul,Int.reduceNeg,Int.reduceNe,reduceCtorEq,Int.reduceToNat,↓reduceIte, hd, hz, hlt']
    refine ⟨fun hk0 => ?_, fun hk0 => ?_⟩
    · -- some were taken
      have hkp : 0 < k := by omega
      have hkl : k - 1 < ((nrm l).take k).length := by rw [List.length_take]; omega
      have hd2 : (((nrm l).take k).map AV.str).drop ((k : Int) - 1).toNat = .str ((nrm l)[k - 1]'(by omega)) :: (((nrm l).take k).map AV.str).drop k := by
        rw [show ((k : Int) - 1).toNat = k - 1 by omega, drop_str hkl, List.getElem_take, show k - 1 + 1 = k by omega]
      refine ⟨inR_of (by omega) (by omega), ⟨by omega, by omega⟩, ?_⟩
      simp only [wk,if_true,if_false,forall_const,implies_true,ne_eq,eq_self,Nat.reduceEqDiff,Nat.reduceAdd,Nat.reduceMul,Nat.reduceSub,Nat.reduceLeDiff,Nat.reduceLT,Int.reduceEq,Int.reduceLT,Int.reduceLE,Int.reduceAdd,Int.reduceSub,Int.reduceMul,Int.reduceNeg,Int.reduceNe,reduceCtorEq,Int.reduceToNat,↓reduceIte, hd2, hd, hz, hlt']
      refine ⟨_, p_rwless (nrm l)[k - 1] l[i] (by have := hs _ (mem_nrm.1 (List.getElem_mem (l := nrm l) (n := k - 1) (by omega))); omega), ?_⟩
      have haf : ∀ b, wless (nrm l)[k - 1] l[i] = b → (b = true ↔ aft (nrm l) k l[i]) := by
        intro b hb
        unfold aft
        constructor
        · intro h; exact .inr ⟨by omega, by rw [hb, h]⟩
        · rintro (h | ⟨_, h⟩)
          · omega
          · rw [← hb]; exact h
      cases hwb : wless (nrm l)[k - 1] l[i] with
      | true =>
        simp only [wk,if_true,if_false,forall_const,implies_true,ne_eq,eq_self,Nat.reduceEqDiff,Nat.reduceAdd,Nat.reduceMul,Nat.reduceSub,Nat.reduceLeDiff,Nat.reduceLT,Int.reduceEq,Int.reduceLT,Int.reduceLE,Int.reduceAdd,Int.reduceSub,Int.reduceMul,Int.reduceNeg,Int.reduceNe,reduceCtorEq,Int.reduceToNat,↓reduceIte, hd, hz, hlt']
        refine ⟨fun hfo => ?_, fun hfo => htk (by first | rfl | (subst hfo; rfl)) ((haf true hwb).1 rfl) (fun h => by rw [hfo] at h; cases h)⟩
        subst hfo
        refine PCalls.use (p_rwless l[i] best (by omega)) ?_; simp only [wk,if_true,if_false,forall_const,implies_true,ne_eq,eq_self,Nat.reduceEqDiff,Nat.reduceAdd,Nat.reduceMul,Nat.reduceSub,Nat.reduceLeDiff,Nat.reduceLT,Int.reduceEq,Int.reduceLT,Int.reduceLE,Int.reduceAdd,Int.reduceSub,Int.reduceMul,Int.reduceNeg,Int.reduceNe,reduceCtorEq,Int.reduceToNat,↓reduceIte]
        refine ⟨fun hw => ?_, fun hw => ?_⟩
        · simp only [wk,if_true,if_false,forall_const,implies_true,ne_eq,eq_self,Nat.reduceEqDiff,Nat.reduceAdd,Nat.reduceMul,Nat.reduceSub,Nat.reduceLeDiff,Nat.reduceLT,Int.reduceEq,Int.reduceLT,Int.reduceLE,Int.reduceAdd,Int.reduceSub,Int.reduceMul,Int.reduceNeg,Int.reduceNe,reduceCtorEq,Int.reduceToNat,↓reduceIte, hd, hz, hlt']
          exact htk rfl ((haf true hwb).1 rfl) (fun _ => hw)
        · exact hsk rfl (.inr ⟨rfl, hw⟩)
      | false =>
        simp only [wk,if_true,if_false,forall_const,implies_true,ne_eq,eq_self,Nat.reduceEqDiff,Nat.reduceAdd,Nat.reduceMul,Nat.reduceSub,Nat.reduceLeDiff,Nat.reduceLT,Int.reduceEq,Int.reduceLT,Int.reduceLE,Int.reduceAdd,Int.reduceSub,Int.reduceMul,Int.reduceNeg,Int.reduceNe,reduceCtorEq,Int.reduceToNat,↓reduceIte]
        exact hsk rfl (.inl (fun h => by have := (haf false hwb).2 h; cases this))
    · have haf : aft (nrm l) k l[i] := .inl (by omega)
      refine ⟨fun hfo => ?_, fun hfo => htk (by first | rfl | (subst hfo; rfl)) haf (fun h => by rw [hfo] at h; cases h)⟩
      subst hfo
      refine PCalls.use (p_rwless l[i] best (by omega)) ?_; simp only [wk,if_true,if_false,forall_const,implies_true,ne_eq,eq_self,Nat.reduceEqDiff,Nat.reduceAdd,Nat.reduceMul,Nat.reduceSub,Nat.reduceLeDiff,Nat.reduceLT,Int.reduceEq,Int.reduceLT,Int.reduceLE,Int.reduceAdd,Int.reduceSub,Int.reduceMul,Int.reduceNeg,Int.reduceNe,reduceCtorEq,Int.reduceToNat,↓reduceIte]
      refine ⟨fun hw => ?_, fun hw => ?_⟩
      · simp only [wk,if_true,if_false,forall_const,implies_true,ne_eq,eq_self,Nat.reduceEqDiff,Nat.reduceAdd,Nat.reduceMul,Nat.reduceSub,Nat.reduceLeDiff,Nat.reduceLT,Int.reduceEq,Int.reduceLT,Int.reduceLE,Int.reduceAdd,Int.reduceSub,Int.reduceMul,Int.reduceNeg,Int.reduceNe,reduceCtorEq,Int.reduceToNat,↓reduceIte, hd, hz, hlt']
        exact htk rfl haf (fun _ => hw)
      · exact hsk rfl (.inr ⟨rfl, hw⟩)
  · have hie : i = l.length := by omega
    subst hie
    simp only [J_ref03_Right_j1, wk,if_true,if_false,forall_const,implies_true,ne_eq,eq_self,Nat.reduceEqDiff,Nat.reduceAdd,Nat.reduceMul,Nat.reduceSub,Nat.reduceLeDiff,Nat.reduceLT,Int.reduceEq,Int.reduceLT,Int.reduceLE,Int.reduceAdd,Int.reduceSub,Int.reduceMul,Int.reduceNeg,Int.reduceNe,reduceCtorEq,Int.reduceToNat,↓reduceIte]
    cases found with
    | false =>
      obtain rfl := hinv.stop hk
      exact ⟨fun _ => by rw [List.take_length], fun h => (nomatch h)⟩
    | true =>
      obtain ⟨hkl, rfl⟩ := hinv.next hk
      refine ⟨fun h => (nomatch h), fun _ => ⟨⟨by omega, by omega⟩, (nrm l).length - (k + 1), by omega, k + 1, by omega, rfl, ?_⟩⟩
      rw [List.take_succ_eq_append_getElem hkl, List.map_append]
      rfl
end Go.Proofs.Ytnmikopkjdekaaa

/- What the reference's sets do: Of, And, Quote, As, For, and what is asked. -/
namespace Go.Proofs.Ytnmikopkjdekaaa
set_option linter.unusedSimpArgs false
set_option linter.unusedVariables false
open Go.RowKit Go.Lib

def vSet (r : List ByteArray × Int) : AV := .tup [.lst .ro r.1.length (r.1.map .str), .int .i64 r.2]
theorem free_vSet (r : List ByteArray × Int) : free (vSet r) = true := by simp [vSet, free, free.frees, frees_str]
def boundE (l : List ByteArray) : List ByteArray × Int := if 1 ≤ l.length ∧ l.length ≤ 16 then (l, 0) else ([], 3)
theorem ofE_may {l : List ByteArray} (h : ∀ x ∈ l, wordMay x = true) : ofE l = boundE (nrm l) := by
  unfold ofE
  rw [if_neg (by rw [List.all_eq_true.2 h]; simp)]; rfl
theorem p_rbound (l : List ByteArray) (hl : l.length ≤ 1000000) : PCalls Try.prog 50 [.lst .ro l.length (l.map .str)] (vSet (boundE l)) := by
  refine pcalls_of (by simp [free, free.frees, frees_str]) (free_vSet _) (ACalls.weak (acalls_of mixed J_ref03_bound_ok (Nat.le_of_ble_eq_true rfl) ?_)); simp only [J_ref03_bound, wk,if_true,if_false,forall_const,implies_true,ne_eq,eq_self,Nat.reduceEqDiff,Nat.reduceAdd,Nat.reduceMul,Nat.reduceSub,Nat.reduceLeDiff,Nat.reduceLT,Int.reduceEq,Int.reduceLT,Int.reduceLE,Int.reduceAdd,Int.reduceSub,Int.reduceMul,Int.reduceNeg,Int.reduceNe,reduceCtorEq,Int.reduceToNat,↓reduceIte]
  refine ⟨fun h1 => ⟨fun h2 => ?_, fun h2 => ?_⟩, fun h1 => ?_⟩
  all_goals unfold boundE
  · rw [if_neg (by omega)]; rfl
  · rw [if_pos (by omega)]; rfl
  · rw [if_neg (by omega)]; rfl
set_option maxHeartbeats 1000000 in
theorem p_rand (a b : List ByteArray) (ha : a.length ≤ 10000) (hb : b.length ≤ 10000) (hsa : ∀ x ∈ a, x.size ≤ 1000000) (hsb : ∀ x ∈ b, x.size ≤ 1000000) : PCalls Try.prog 26 [.lst .ro a.length (a.map .str), .lst .ro b.length (b.map .str)] (vSet (andE a b)) := by
  refine pcalls_of (by simp [free, free.frees, frees_str]) (free_vSet _) (ACalls.weak (acalls_of mixed J_ref03_And_ok (Nat.le_of_ble_eq_true rfl) ?_)); simp only [J_ref03_And, wk,if_true,if_false,forall_const,implies_true,ne_eq,eq_self,Nat.reduceEqDiff,Nat.reduceAdd,Nat.reduceMul,Nat.reduceSub,Nat.reduceLeDiff,Nat.reduceLT,Int.reduceEq,Int.reduceLT,Int.reduceLE,Int.reduceAdd,Int.reduceSub,Int.reduceMul,Int.reduceNeg,Int.reduceNe,reduceCtorEq,Int.reduceToNat,↓reduceIte]
  refine PCalls.use (p_rsmay a (by omega) (fun x hx => by have := hsa x hx; omega)) ?_; simp only [wk,if_true,if_false,forall_const,implies_true,ne_eq,eq_self,Nat.reduceEqDiff,Nat.reduceAdd,Nat.reduceMul,Nat.reduceSub,Nat.reduceLeDiff,Nat.reduceLT,Int.reduceEq,Int.reduceLT,Int.reduceLE,Int.reduceAdd,Int.reduceSub,Int.reduceMul,Int.reduceNeg,Int.reduceNe,reduceCtorEq,Int.reduceToNat,↓reduceIte]
  refine ⟨fun hm => ?_, fun hm => ?_⟩
  · refine PCalls.use (p_rsmay b (by omega) (fun x hx => by have := hsb x hx; omega)) ?_; simp only [wk,if_true,if_false,forall_const,implies_true,ne_eq,eq_self,Nat.reduceEqDiff,Nat.reduceAdd,Nat.reduceMul,Nat.reduceSub,Nat.reduceLeDiff,Nat.reduceLT,Int.reduceEq,Int.reduceLT,Int.reduceLE,Int.reduceAdd,Int.reduceSub,Int.reduceMul,Int.reduceNeg,Int.reduceNe,reduceCtorEq,Int.reduceToNat,↓reduceIte]
    refine ⟨fun hm2 => ?_, fun hm2 => ?_⟩
    · unfold andE; rw [if_pos (.inr hm2)]; rfl
    · refine ⟨⟨by simp, by omega, by omega⟩, ⟨by simp, by omega, by omega⟩, ?_⟩
      rw [show a.length + b.length = (a ++ b).length by simp, ← List.map_append]
      refine PCalls.use (p_rright (a ++ b) (by simp; omega) (fun x hx => by rcases List.mem_append.1 hx with h | h; exact hsa x h; exact hsb x h)) ?_; simp only [wk,if_true,if_false,forall_const,implies_true,ne_eq,eq_self,Nat.reduceEqDiff,Nat.reduceAdd,Nat.reduceMul,Nat.reduceSub,Nat.reduceLeDiff,Nat.reduceLT,Int.reduceEq,Int.reduceLT,Int.reduceLE,Int.reduceAdd,Int.reduceSub,Int.reduceMul,Int.reduceNeg,Int.reduceNe,reduceCtorEq,Int.reduceToNat,↓reduceIte]
      refine PCalls.use (p_rbound (nrm (a ++ b)) (by have := nrm_len (a ++ b); simp at this; omega)) ?_; simp only [wk,if_true,if_false,forall_const,implies_true,ne_eq,eq_self,Nat.reduceEqDiff,Nat.reduceAdd,Nat.reduceMul,Nat.reduceSub,Nat.reduceLeDiff,Nat.reduceLT,Int.reduceEq,Int.reduceLT,Int.reduceLE,Int.reduceAdd,Int.reduceSub,Int.reduceMul,Int.reduceNeg,Int.reduceNe,reduceCtorEq,Int.reduceToNat,↓reduceIte]
      unfold andE
      rw [if_neg (by simp [hm, hm2]), ofE_may (fun x hx => by rcases List.mem_append.1 hx with h | h; exact (setMay_words hm).2 x h; exact (setMay_words hm2).2 x h)]
      simp only [vSet, rod_tup, ro_ro, ro_int, wk,if_true,if_false,forall_const,implies_true,ne_eq,eq_self,Nat.reduceEqDiff,Nat.reduceAdd,Nat.reduceMul,Nat.reduceSub,Nat.reduceLeDiff,Nat.reduceLT,Int.reduceEq,Int.reduceLT,Int.reduceLE,Int.reduceAdd,Int.reduceSub,Int.reduceMul,Int.reduceNeg,Int.reduceNe,reduceCtorEq,Int.reduceToNat,↓reduceIte]
  · unfold andE; rw [if_pos (.inl hm)]; rfl
def atomNs (s : ByteArray) : List Nat := (List.range (s.size / 2)).map (atomAt s)
theorem atomsL_eq (s : ByteArray) : atomsL s (s.size / 2) = u16s (atomNs s) := by simp [atomsL, atomNs, u16s]
theorem atomNs_len (s : ByteArray) : (atomNs s).length = s.size / 2 := by simp [atomNs]
theorem atomNs_lt (s : ByteArray) : ∀ a ∈ atomNs s, a < 65536 := by
  intro a ha
  obtain ⟨i, _, rfl⟩ := List.mem_map.1 ha
  exact atomAt_lt s i
theorem atomBytes_app (a b : List Nat) : atomBytes (a ++ b) = atomBytes a ++ atomBytes b := by simp [atomBytes]
theorem atomBytes_atoms {s : ByteArray} (h : s.size % 2 = 0) : atomBytes (atomNs s) = s.data.toList := by
  have key : ∀ k, 2 * k ≤ s.size → atomBytes ((List.range k).map (atomAt s)) = s.data.toList.take (2 * k) := by
    intro k
    induction k with
    | zero => intro _; rfl
    | succ k ih =>
      intro hk
      rw [List.range_succ, List.map_append, atomBytes_app, ih (by omega)]
      have h1 : 2 * k < s.data.toList.length := by simp; omega
      have h2 : 2 * k + 1 < s.data.toList.length := by simp; omega
      rw [show 2 * (k + 1) = 2 * k + 1 + 1 by omega, List.take_succ_eq_append_getElem h2, List.take_succ_eq_append_getElem h1, List.append_assoc]
      congr 1
      have ha : atomAt s k = s[2 * k].toNat * 256 + s[2 * k + 1].toNat := by unfold atomAt; rw [dif_pos (by omega)]
      have b1 := s[2 * k].toNat_lt
      have b2 := s[2 * k + 1].toNat_lt
      simp only [List.map_cons, List.map_nil, atomBytes, List.flatMap_cons, List.flatMap_nil, List.append_nil, ha]
      have e1 : (s[2 * k].toNat * 256 + s[2 * k + 1].toNat) / 256 = s[2 * k].toNat := by omega
      have e2 : (s[2 * k].toNat * 256 + s[2 * k + 1].toNat) % 256 = s[2 * k + 1].toNat := by omega
      rw [e1, e2]
      simp
      exact ⟨rfl, rfl⟩
  have := key (s.size / 2) (by omega)
  unfold atomNs
  rw [this, List.take_of_length_le (by simp; omega)]
def catN (l : List ByteArray) : List Nat := l.flatMap atomNs
def catE (l : List ByteArray) : ByteArray × Int := if 8 < (catN l).length then (⟨#[]⟩, 4) else (⟨(l.flatMap fun s => s.data.toList).toArray⟩, 0)
theorem catN_bytes {l : List ByteArray} (h : ∀ x ∈ l, x.size % 2 = 0) : atomBytes (catN l) = l.flatMap fun s => s.data.toList := by
  induction l with
  | nil => rfl
  | cons x l ih => simp only [catN, List.flatMap_cons] at ih ⊢; rw [atomBytes_app, atomBytes_atoms (h x (by simp)), ih (fun y hy => h y (by simp [hy]))]
set_option maxHeartbeats 1000000 in
theorem p_rcat (l : List ByteArray) (hl : l.length ≤ 1000) (hs : ∀ x ∈ l, x.size ≤ 1000) (hev : ∀ x ∈ l, x.size % 2 = 0) : PCalls Try.prog 52 [.lst .ro l.length (l.map .str)] (.tup [.str (catE l).1, .int .i64 (catE l).2]) := by
  refine pcalls_of (by first | rfl | simp [free, free.frees, frees_str, frees_u8, frees_u16]) (by first | rfl | simp [free, free.frees, frees_str, frees_u8, frees_u16]) (acalls_of mixed J_ref02_Cat_ok (Nat.le_of_ble_eq_true rfl) ?_); simp only [J_ref02_Cat, wk,if_true,if_false,forall_const,implies_true,ne_eq,eq_self,Nat.reduceEqDiff,Nat.reduceAdd,Nat.reduceMul,Nat.reduceSub,Nat.reduceLeDiff,Nat.reduceLT,Int.reduceEq,Int.reduceLT,Int.reduceLE,Int.reduceAdd,Int.reduceSub,Int.reduceMul,Int.reduceNeg,Int.reduceNe,reduceCtorEq,Int.reduceToNat,↓reduceIte]
  have hd : ∀ {i : Nat} (h : i < l.length), (l.map AV.str).drop (i : Int).toNat = .str l[i] :: (l.map AV.str).drop (i + 1) := fun h => by rw [show ∀ i : Nat, (i : Int).toNat = i from fun i => by omega, drop_str h]
  have hlen : ∀ i, (catN (l.take i)).length ≤ 500 * i := by
    intro i
    induction i with
    | zero => simp [catN]
    | succ i ih =>
      by_cases h : i < l.length
      · rw [List.take_succ_eq_append_getElem h]
        have := hs l[i] (List.getElem_mem h)
        simp only [catN, List.flatMap_append, List.length_append, List.flatMap_cons, List.flatMap_nil, List.append_nil, atomNs_len] at ih ⊢; omega
      · rw [List.take_of_length_le (by omega)] at ih ⊢; omega
  refine W_loop (fun n fr h => ∃ i : Nat, i ≤ l.length ∧ n = l.length - i ∧ fr = [(0, .lst .ro l.length (l.map .str)), (4, .lst (.own 51) 0 []), (5, .int .i64 i)]) l.length ⟨0, by omega, by omega, rfl⟩ ?_
  rintro n fr h ⟨i, hi, rfl, rfl⟩
  simp only [J_ref02_Cat_j4, wk,if_true,if_false,forall_const,implies_true,ne_eq,eq_self,Nat.reduceEqDiff,Nat.reduceAdd,Nat.reduceMul,Nat.reduceSub,Nat.reduceLeDiff,Nat.reduceLT,Int.reduceEq,Int.reduceLT,Int.reduceLE,Int.reduceAdd,Int.reduceSub,Int.reduceMul,Int.reduceNeg,Int.reduceNe,reduceCtorEq,Int.reduceToNat,↓reduceIte]
  refine ⟨fun hlt => ?_, fun hge => ?_⟩
  · have hil : i < l.length := by omega
    have he := hev l[i] (List.getElem_mem hil)
    refine ⟨⟨by omega, by omega⟩, ?_⟩
    simp only [hd hil, wk,if_true,if_false,forall_const,implies_true,ne_eq,eq_self,Nat.reduceEqDiff,Nat.reduceAdd,Nat.reduceMul,Nat.reduceSub,Nat.reduceLeDiff,Nat.reduceLT,Int.reduceEq,Int.reduceLT,Int.reduceLE,Int.reduceAdd,Int.reduceSub,Int.reduceMul,Int.reduceNeg,Int.reduceNe,reduceCtorEq,Int.reduceToNat,↓reduceIte]
    refine ⟨fun h1 => ?_, fun _ => ⟨inR_of (by omega) (by omega), l.length - (i + 1), by omega, i + 1, by omega, rfl, rfl⟩⟩
    rw [Int.tmod_eq_emod_of_nonneg (by omega)] at h1
    omega
  · simp only [J_ref02_Cat_j3, wk,if_true,if_false,forall_const,implies_true,ne_eq,eq_self,Nat.reduceEqDiff,Nat.reduceAdd,Nat.reduceMul,Nat.reduceSub,Nat.reduceLeDiff,Nat.reduceLT,Int.reduceEq,Int.reduceLT,Int.reduceLE,Int.reduceAdd,Int.reduceSub,Int.reduceMul,Int.reduceNeg,Int.reduceNe,reduceCtorEq,Int.reduceToNat,↓reduceIte]
    refine W_loop (fun n fr h => ∃ i : Nat, i ≤ l.length ∧ n = l.length - i ∧ fr = [(0, .lst .ro l.length (l.map .str)), (4, .lst (.own 51) (catN (l.take i)).length (u16s (catN (l.take i)))), (6, .int .i64 i)] ∧ (catN (l.take i)).length ≤ 8) l.length ⟨0, by omega, by omega, rfl, by simp [catN]⟩ ?_
    rintro n fr h ⟨i, hi, rfl, rfl, h8⟩
    simp only [J_ref02_Cat_j2, wk,if_true,if_false,forall_const,implies_true,ne_eq,eq_self,Nat.reduceEqDiff,Nat.reduceAdd,Nat.reduceMul,Nat.reduceSub,Nat.reduceLeDiff,Nat.reduceLT,Int.reduceEq,Int.reduceLT,Int.reduceLE,Int.reduceAdd,Int.reduceSub,Int.reduceMul,Int.reduceNeg,Int.reduceNe,reduceCtorEq,Int.reduceToNat,↓reduceIte]
    refine ⟨fun hlt => ?_, fun hge => ?_⟩
    · have hil : i < l.length := by omega
      have hx := hs l[i] (List.getElem_mem hil)
      have hnx : catN (l.take (i + 1)) = catN (l.take i) ++ atomNs l[i] := by unfold catN; rw [List.take_succ_eq_append_getElem hil, List.flatMap_append]; simp only [List.flatMap_cons, List.flatMap_nil, List.append_nil]
      refine ⟨⟨by omega, by omega⟩, ?_⟩
      simp only [hd hil, wk,if_true,if_false,forall_const,implies_true,ne_eq,eq_self,Nat.reduceEqDiff,Nat.reduceAdd,Nat.reduceMul,Nat.reduceSub,Nat.reduceLeDiff,Nat.reduceLT,Int.reduceEq,Int.reduceLT,Int.reduceLE,Int.reduceAdd,Int.reduceSub,Int.reduceMul,Int.reduceNeg,Int.reduceNe,reduceCtorEq,Int.reduceToNat,↓reduceIte]
      refine PCalls.use (p_ratoms l[i] (by omega)) ?_; simp only [wk,if_true,if_false,forall_const,implies_true,ne_eq,eq_self,Nat.reduceEqDiff,Nat.reduceAdd,Nat.reduceMul,Nat.reduceSub,Nat.reduceLeDiff,Nat.reduceLT,Int.reduceEq,Int.reduceLT,Int.reduceLE,Int.reduceAdd,Int.reduceSub,Int.reduceMul,Int.reduceNeg,Int.reduceNe,reduceCtorEq,Int.reduceToNat,↓reduceIte]
      rw [atomsL_eq]
      refine ⟨⟨by simp [atomNs_len], by omega, by omega⟩, ?_⟩
      rw [← atomNs_len, ← List.length_append, ← List.map_append, ← hnx]
      refine ⟨fun hgt => ?_, fun hng => ?_⟩
      · have hbig : 8 < (catN l).length := by
          have : catN l = catN (l.take (i + 1)) ++ catN (l.drop (i + 1)) := by unfold catN; rw [← List.flatMap_append, List.take_append_drop]
          rw [this, List.length_append]; omega
        unfold catE; rw [if_pos hbig]
      · exact ⟨inR_of (by omega) (by omega), l.length - (i + 1), by omega, i + 1, by omega, rfl, rfl, by omega⟩
    · obtain rfl : i = l.length := by omega
      rw [List.take_length] at h8 ⊢
      simp only [J_ref02_Cat_j1, wk,if_true,if_false,forall_const,implies_true,ne_eq,eq_self,Nat.reduceEqDiff,Nat.reduceAdd,Nat.reduceMul,Nat.reduceSub,Nat.reduceLeDiff,Nat.reduceLT,Int.reduceEq,Int.reduceLT,Int.reduceLE,Int.reduceAdd,Int.reduceSub,Int.reduceMul,Int.reduceNeg,Int.reduceNe,reduceCtorEq,Int.reduceToNat,↓reduceIte]
      refine PCalls.use (p_rof (catN l) (by omega) (fun a ha => by obtain ⟨s, _, hs⟩ := List.mem_flatMap.1 ha; exact atomNs_lt s a hs)) ?_; simp only [wk,if_true,if_false,forall_const,implies_true,ne_eq,eq_self,Nat.reduceEqDiff,Nat.reduceAdd,Nat.reduceMul,Nat.reduceSub,Nat.reduceLeDiff,Nat.reduceLT,Int.reduceEq,Int.reduceLT,Int.reduceLE,Int.reduceAdd,Int.reduceSub,Int.reduceMul,Int.reduceNeg,Int.reduceNe,reduceCtorEq,Int.reduceToNat,↓reduceIte]
      unfold catE
      rw [if_neg (by omega), catN_bytes hev]
end Go.Proofs.Ytnmikopkjdekaaa

/- What the reference's sets do: Quote, As, For. -/
namespace Go.Proofs.Ytnmikopkjdekaaa
set_option linter.unusedSimpArgs false
set_option linter.unusedVariables false
open Go.RowKit Go.Lib

theorem wordMay_even {s : ByteArray} (h : wordMay s = true) : s.size % 2 = 0 ∧ s.size ≤ 16 := by have := wordMay_size h; omega
theorem catE_two {x y : ByteArray} (hx : wordMay x = true) (hy : wordMay y = true) : catE [x, y] = if 8 < (x ++ y).size / 2 then (⟨#[]⟩, 4) else (x ++ y, 0) := by
  have h1 := wordMay_even hx
  have h2 := wordMay_even hy
  have e : (catN [x, y]).length = (x ++ y).size / 2 := by
    simp only [catN, List.flatMap_cons, List.flatMap_nil, List.append_nil, List.length_append, atomNs_len, ByteArray.size_append]; omega
  have e2 : (⟨([x, y].flatMap fun s => s.data.toList).toArray⟩ : ByteArray) = x ++ y := by
    apply ByteArray.ext; apply Array.ext'; simp
  unfold catE
  rw [e, e2]
def prodTo (a b : List ByteArray) (i k : Nat) : List ByteArray := prodW (a.take i) b ++ (match a[i]? with | some x => (b.take k).map fun y => x ++ y | none => [])
theorem prodTo_zero (a b : List ByteArray) (i : Nat) : prodTo a b i 0 = prodW (a.take i) b := by unfold prodTo; cases a[i]? <;> simp
theorem prodTo_succ {a b : List ByteArray} {i k : Nat} (hi : i < a.length) (hk : k < b.length) : prodTo a b i (k + 1) = prodTo a b i k ++ [a[i] ++ b[k]] := by
  unfold prodTo
  rw [List.getElem?_eq_getElem hi]
  simp only
  rw [List.take_succ_eq_append_getElem hk, List.map_append, List.append_assoc]; rfl
theorem prodTo_next {a b : List ByteArray} {i : Nat} (hi : i < a.length) : prodTo a b i b.length = prodW (a.take (i + 1)) b := by
  unfold prodTo prodW
  rw [List.getElem?_eq_getElem hi, List.take_succ_eq_append_getElem hi, List.flatMap_append, List.take_length]
  simp
theorem prodTo_len {a b : List ByteArray} {i k : Nat} (ha : a.length ≤ 16) (hb : b.length ≤ 16) : (prodTo a b i k).length ≤ 272 := by
  have h1 : ∀ l : List ByteArray, (prodW l b).length = l.length * b.length := by
    intro l
    induction l with
    | nil => simp [prodW]
    | cons x l ih => simp only [prodW, List.flatMap_cons, List.length_append, List.length_map, List.length_cons] at ih ⊢; rw [ih, Nat.add_mul]; omega
  unfold prodTo
  rw [List.length_append, h1]
  have h2 : (a.take i).length * b.length ≤ 16 * 16 := Nat.mul_le_mul (by rw [List.length_take]; omega) hb
  have h3 : (match a[i]? with | some x => (b.take k).map fun y => x ++ y | none => []).length ≤ 16 := by
    cases a[i]? with
    | none => simp
    | some x => simp only [List.length_map, List.length_take]; omega
  omega
theorem mem_prodW {a b : List ByteArray} {w : ByteArray} : w ∈ prodW a b ↔ ∃ x ∈ a, ∃ y ∈ b, w = x ++ y := by
  unfold prodW
  simp only [List.mem_flatMap, List.mem_map]
  constructor
  · rintro ⟨x, hx, y, hy, rfl⟩; exact ⟨x, hx, y, hy, rfl⟩
  · rintro ⟨x, hx, y, hy, rfl⟩; exact ⟨x, hx, y, hy, rfl⟩
theorem atomAt_app_left {x y : ByteArray} {i : Nat} (h : 2 * i + 1 < x.size) : atomAt (x ++ y) i = atomAt x i := by
  unfold atomAt
  rw [dif_pos (by rw [ByteArray.size_append]; omega), dif_pos h, ByteArray.getElem_append_left (by omega), ByteArray.getElem_append_left h]
theorem atomAt_app_right {x y : ByteArray} {i : Nat} (hx : x.size % 2 = 0) (h : x.size ≤ 2 * i) (h2 : 2 * i + 1 < (x ++ y).size) : atomAt (x ++ y) i = atomAt y (i - x.size / 2) := by
  rw [ByteArray.size_append] at h2
  unfold atomAt
  rw [dif_pos (by rw [ByteArray.size_append]; omega), dif_pos (by omega), ByteArray.getElem_append_right (by omega), ByteArray.getElem_append_right (by omega)]
  have e1 : 2 * (i - x.size / 2) = 2 * i - x.size := by omega
  have e2 : 2 * i + 1 - x.size = 2 * i - x.size + 1 := by omega
  simp only [e1, e2]
theorem wordMay_app {x y : ByteArray} (hx : wordMay x = true) (hy : wordMay y = true) (h8 : (x ++ y).size / 2 ≤ 8) : wordMay (x ++ y) = true := by
  have h1 := wordMay_size hx
  have h2 := wordMay_size hy
  simp only [wordMay, decide_eq_true_eq] at hx hy ⊢
  rw [ByteArray.size_append] at h8 ⊢
  refine ⟨by omega, by omega, by omega, fun i hi => ?_⟩
  by_cases h : 2 * i < x.size
  · rw [atomAt_app_left (by omega)]; exact hx.2.2.2 i (by omega)
  · rw [atomAt_app_right (by omega) (by omega) (by rw [ByteArray.size_append]; omega)]; exact hy.2.2.2 _ (by omega)
theorem quoteE_big {a b : List ByteArray} (ha : setMay a = true) (hb : setMay b = true) {x y : ByteArray} (hx : x ∈ a) (hy : y ∈ b) (h : 8 < (x ++ y).size / 2) : quoteE a b = ([], 4) := by
  unfold quoteE
  rw [if_neg (by simp [ha, hb]), if_pos]
  rw [List.any_eq_true]
  exact ⟨x ++ y, mem_prodW.2 ⟨x, hx, y, hy, rfl⟩, by simpa using h⟩
theorem quoteE_fit {a b : List ByteArray} (ha : setMay a = true) (hb : setMay b = true) (h : ∀ w ∈ prodW a b, w.size / 2 ≤ 8) : quoteE a b = boundE (nrm (prodW a b)) := by
  unfold quoteE
  rw [if_neg (by simp [ha, hb]), if_neg]
  · refine ofE_may fun w hw => ?_
    have h8 := h w hw
    obtain ⟨x, hx, y, hy, rfl⟩ := mem_prodW.1 hw
    exact wordMay_app ((setMay_words ha).2 x hx) ((setMay_words hb).2 y hy) h8
  · rw [List.any_eq_true]
    rintro ⟨w, hw, h1⟩
    have := h w hw
    simp only [decide_eq_true_eq] at h1
    omega
set_option maxRecDepth 100000 in
set_option maxHeartbeats 2000000 in
theorem p_rquote (a b : List ByteArray) (ha : a.length ≤ 10000) (hb : b.length ≤ 10000) (hsa : ∀ x ∈ a, x.size ≤ 1000000) (hsb : ∀ x ∈ b, x.size ≤ 1000000) : PCalls Try.prog 27 [.lst .ro a.length (a.map .str), .lst .ro b.length (b.map .str)] (vSet (quoteE a b)) := by
  refine pcalls_of (by simp [free, free.frees, frees_str]) (free_vSet _) (ACalls.weak (acalls_of mixed J_ref03_Quote_ok (Nat.le_of_ble_eq_true rfl) ?_)); simp only [J_ref03_Quote, wk,if_true,if_false,forall_const,implies_true,ne_eq,eq_self,Nat.reduceEqDiff,Nat.reduceAdd,Nat.reduceMul,Nat.reduceSub,Nat.reduceLeDiff,Nat.reduceLT,Int.reduceEq,Int.reduceLT,Int.reduceLE,Int.reduceAdd,Int.reduceSub,Int.reduceMul,Int.reduceNeg,Int.reduceNe,reduceCtorEq,Int.reduceToNat,↓reduceIte]
  refine PCalls.use (p_rsmay a (by omega) (fun x hx => by have := hsa x hx; omega)) ?_; simp only [wk,if_true,if_false,forall_const,implies_true,ne_eq,eq_self,Nat.reduceEqDiff,Nat.reduceAdd,Nat.reduceMul,Nat.reduceSub,Nat.reduceLeDiff,Nat.reduceLT,Int.reduceEq,Int.reduceLT,Int.reduceLE,Int.reduceAdd,Int.reduceSub,Int.reduceMul,Int.reduceNeg,Int.reduceNe,reduceCtorEq,Int.reduceToNat,↓reduceIte]
  refine ⟨fun hm => ?_, fun hm => by unfold quoteE; rw [if_pos (.inl hm)]; rfl⟩
  refine PCalls.use (p_rsmay b (by omega) (fun x hx => by have := hsb x hx; omega)) ?_; simp only [wk,if_true,if_false,forall_const,implies_true,ne_eq,eq_self,Nat.reduceEqDiff,Nat.reduceAdd,Nat.reduceMul,Nat.reduceSub,Nat.reduceLeDiff,Nat.reduceLT,Int.reduceEq,Int.reduceLT,Int.reduceLE,Int.reduceAdd,Int.reduceSub,Int.reduceMul,Int.reduceNeg,Int.reduceNe,reduceCtorEq,Int.reduceToNat,↓reduceIte]
  refine ⟨fun hm2 => by unfold quoteE; rw [if_pos (.inr hm2)]; rfl, fun hm2 => ?_⟩
  have hwa := setMay_words hm
  have hwb := setMay_words hm2
  refine W_loop (fun n fr h => ∃ i : Nat, i ≤ a.length ∧ n = a.length - i ∧ fr = [(0, .lst .ro a.length (a.map .str)), (1, .lst .ro b.length (b.map .str)), (6, .lst (.own 27) (prodTo a b i 0).length ((prodTo a b i 0).map .str)), (7, .int .i64 i)] ∧ ∀ w ∈ prodTo a b i 0, w.size / 2 ≤ 8) a.length ⟨0, by omega, by omega, by simp [prodTo_zero, prodW]; rfl, by simp [prodTo_zero, prodW]⟩ ?_
  rintro n fr h ⟨i, hi, rfl, rfl, hfit⟩
  simp only [J_ref03_Quote_j4, wk,if_true,if_false,forall_const,implies_true,ne_eq,eq_self,Nat.reduceEqDiff,Nat.reduceAdd,Nat.reduceMul,Nat.reduceSub,Nat.reduceLeDiff,Nat.reduceLT,Int.reduceEq,Int.reduceLT,Int.reduceLE,Int.reduceAdd,Int.reduceSub,Int.reduceMul,Int.reduceNeg,Int.reduceNe,reduceCtorEq,Int.reduceToNat,↓reduceIte]
  refine ⟨fun hlt => ?_, fun hge => ?_⟩
  · have hil : i < a.length := by omega
    have hda : (a.map AV.str).drop (i : Int).toNat = .str a[i] :: (a.map AV.str).drop (i + 1) := by rw [show (i : Int).toNat = i by omega, drop_str hil]
    refine W_loop (fun n fr h => ∃ k : Nat, k ≤ b.length ∧ n = b.length - k ∧ fr = [(0, .lst .ro a.length (a.map .str)), (1, .lst .ro b.length (b.map .str)), (6, .lst (.own 27) (prodTo a b i k).length ((prodTo a b i k).map .str)), (7, .int .i64 i), (8, .int .i64 k)] ∧ ∀ w ∈ prodTo a b i k, w.size / 2 ≤ 8) b.length ⟨0, by omega, by omega, rfl, hfit⟩ ?_
    rintro n fr h ⟨k, hk, rfl, rfl, hfit2⟩
    simp only [J_ref03_Quote_j3, wk,if_true,if_false,forall_const,implies_true,ne_eq,eq_self,Nat.reduceEqDiff,Nat.reduceAdd,Nat.reduceMul,Nat.reduceSub,Nat.reduceLeDiff,Nat.reduceLT,Int.reduceEq,Int.reduceLT,Int.reduceLE,Int.reduceAdd,Int.reduceSub,Int.reduceMul,Int.reduceNeg,Int.reduceNe,reduceCtorEq,Int.reduceToNat,↓reduceIte]
    refine ⟨fun hlt2 => ?_, fun hge2 => ?_⟩
    · have hkl : k < b.length := by omega
      have hdb : (b.map AV.str).drop (k : Int).toNat = .str b[k] :: (b.map AV.str).drop (k + 1) := by rw [show (k : Int).toNat = k by omega, drop_str hkl]
      have hplen := prodTo_len (a := a) (b := b) (i := i) (k := k) (by omega) (by omega)
      have hwx := hwa.2 a[i] (List.getElem_mem hil)
      have hwy := hwb.2 b[k] (List.getElem_mem hkl)
      refine ⟨⟨by omega, by omega⟩, ?_⟩
      simp only [hda, wk,if_true,if_false,forall_const,implies_true,ne_eq,eq_self,Nat.reduceEqDiff,Nat.reduceAdd,Nat.reduceMul,Nat.reduceSub,Nat.reduceLeDiff,Nat.reduceLT,Int.reduceEq,Int.reduceLT,Int.reduceLE,Int.reduceAdd,Int.reduceSub,Int.reduceMul,Int.reduceNeg,Int.reduceNe,reduceCtorEq,Int.reduceToNat,↓reduceIte]
      refine ⟨⟨by omega, by omega⟩, ?_⟩
      simp only [hdb, wk,if_true,if_false,forall_const,implies_true,ne_eq,eq_self,Nat.reduceEqDiff,Nat.reduceAdd,Nat.reduceMul,Nat.reduceSub,Nat.reduceLeDiff,Nat.reduceLT,Int.reduceEq,Int.reduceLT,Int.reduceLE,Int.reduceAdd,Int.reduceSub,Int.reduceMul,Int.reduceNeg,Int.reduceNe,reduceCtorEq,Int.reduceToNat,↓reduceIte]
      have hcat := p_rcat [a[i], b[k]] (by simp) (by intro x hx; simp at hx; rcases hx with rfl | rfl; exact (by have := wordMay_even hwx; omega); exact (by have := wordMay_even hwy; omega)) (by intro x hx; simp at hx; rcases hx with rfl | rfl; exact (wordMay_even hwx).1; exact (wordMay_even hwy).1)
      rw [catE_two hwx hwy] at hcat
      refine ⟨_, hcat, ?_⟩
      by_cases h8 : 8 < (a[i] ++ b[k]).size / 2
      · simp only [if_pos h8, wk,if_true,if_false,forall_const,implies_true,ne_eq,eq_self,Nat.reduceEqDiff,Nat.reduceAdd,Nat.reduceMul,Nat.reduceSub,Nat.reduceLeDiff,Nat.reduceLT,Int.reduceEq,Int.reduceLT,Int.reduceLE,Int.reduceAdd,Int.reduceSub,Int.reduceMul,Int.reduceNeg,Int.reduceNe,reduceCtorEq,Int.reduceToNat,↓reduceIte]
        rw [quoteE_big hm hm2 (List.getElem_mem hil) (List.getElem_mem hkl) h8]; rfl
      · simp only [if_neg h8, wk,if_true,if_false,forall_const,implies_true,ne_eq,eq_self,Nat.reduceEqDiff,Nat.reduceAdd,Nat.reduceMul,Nat.reduceSub,Nat.reduceLeDiff,Nat.reduceLT,Int.reduceEq,Int.reduceLT,Int.reduceLE,Int.reduceAdd,Int.reduceSub,Int.reduceMul,Int.reduceNeg,Int.reduceNe,reduceCtorEq,Int.reduceToNat,↓reduceIte]
        (repeat (refine And.intro (by first | omega | exact inR_of (by omega) (by omega) | exact ⟨by omega, by omega⟩ | exact ⟨by omega, by omega, by omega⟩ | rfl) ?_))
        refine ⟨b.length - (k + 1), by omega, k + 1, by omega, rfl, ?_, fun w hw => ?_⟩
        · rw [prodTo_succ hil hkl]; simp
        · rw [prodTo_succ hil hkl, List.mem_append] at hw
          rcases hw with hw | hw
          · exact hfit2 w hw
          · simp at hw; subst hw; omega
    · obtain rfl : k = b.length := by omega
      simp only [J_ref03_Quote_j2, wk,if_true,if_false,forall_const,implies_true,ne_eq,eq_self,Nat.reduceEqDiff,Nat.reduceAdd,Nat.reduceMul,Nat.reduceSub,Nat.reduceLeDiff,Nat.reduceLT,Int.reduceEq,Int.reduceLT,Int.reduceLE,Int.reduceAdd,Int.reduceSub,Int.reduceMul,Int.reduceNeg,Int.reduceNe,reduceCtorEq,Int.reduceToNat,↓reduceIte]
      refine ⟨inR_of (by omega) (by omega), a.length - (i + 1), by omega, i + 1, by omega, rfl, ?_, ?_⟩
      · rw [prodTo_zero, ← prodTo_next hil]; rfl
      · rw [prodTo_zero, ← prodTo_next hil]; exact hfit2
  · obtain rfl : i = a.length := by omega
    rw [prodTo_zero, List.take_length] at hfit ⊢
    have hpl : (prodW a b).length ≤ 272 := by
      have := prodTo_len (a := a) (b := b) (i := a.length) (k := 0) (by omega) (by omega)
      rwa [prodTo_zero, List.take_length] at this
    simp only [J_ref03_Quote_j1, wk,if_true,if_false,forall_const,implies_true,ne_eq,eq_self,Nat.reduceEqDiff,Nat.reduceAdd,Nat.reduceMul,Nat.reduceSub,Nat.reduceLeDiff,Nat.reduceLT,Int.reduceEq,Int.reduceLT,Int.reduceLE,Int.reduceAdd,Int.reduceSub,Int.reduceMul,Int.reduceNeg,Int.reduceNe,reduceCtorEq,Int.reduceToNat,↓reduceIte]
    refine PCalls.use (p_rright (prodW a b) (by omega) (fun w hw => by have := hfit w hw; omega)) ?_; simp only [wk,if_true,if_false,forall_const,implies_true,ne_eq,eq_self,Nat.reduceEqDiff,Nat.reduceAdd,Nat.reduceMul,Nat.reduceSub,Nat.reduceLeDiff,Nat.reduceLT,Int.reduceEq,Int.reduceLT,Int.reduceLE,Int.reduceAdd,Int.reduceSub,Int.reduceMul,Int.reduceNeg,Int.reduceNe,reduceCtorEq,Int.reduceToNat,↓reduceIte]
    refine PCalls.use (p_rbound (nrm (prodW a b)) (by have := nrm_len (prodW a b); omega)) ?_; simp only [wk,if_true,if_false,forall_const,implies_true,ne_eq,eq_self,Nat.reduceEqDiff,Nat.reduceAdd,Nat.reduceMul,Nat.reduceSub,Nat.reduceLeDiff,Nat.reduceLT,Int.reduceEq,Int.reduceLT,Int.reduceLE,Int.reduceAdd,Int.reduceSub,Int.reduceMul,Int.reduceNeg,Int.reduceNe,reduceCtorEq,Int.reduceToNat,↓reduceIte]
    rw [quoteE_fit hm hm2 hfit]
    simp only [vSet, rod_tup, ro_ro, ro_int, wk,if_true,if_false,forall_const,implies_true,ne_eq,eq_self,Nat.reduceEqDiff,Nat.reduceAdd,Nat.reduceMul,Nat.reduceSub,Nat.reduceLeDiff,Nat.reduceLT,Int.reduceEq,Int.reduceLT,Int.reduceLE,Int.reduceAdd,Int.reduceSub,Int.reduceMul,Int.reduceNeg,Int.reduceNe,reduceCtorEq,Int.reduceToNat,↓reduceIte]
theorem atomBytes_one (r : Nat) : (⟨(atomBytes [r]).toArray⟩ : ByteArray) = atomW r := by
  apply ByteArray.ext; apply Array.ext'; simp [atomBytes, atomW]
theorem ofE_good {l r : List ByteArray} (h : ofE l = (r, 0)) : setMay r = true := by
  unfold ofE at h
  split at h
  · cases h
  · next hall =>
    split at h
    · next hlen =>
      simp only [Prod.mk.injEq, and_true] at h
      subst h
      refine setMay_mk hlen.1 hlen.2 (fun x hx => ?_) (rising_nrm l)
      have : l.all wordMay = true := by simpa using hall
      exact List.all_eq_true.1 this x (mem_nrm.1 hx)
    · cases h
theorem quoteE_good {a b : List ByteArray} (h : (quoteE a b).2 = 0) : setMay (quoteE a b).1 = true := by
  have e : quoteE a b = ((quoteE a b).1, 0) := by rw [← h]
  unfold quoteE at e
  split at e
  · simp at e
  · split at e
    · simp at e
    · next h1 h2 => rw [show quoteE a b = ofE (prodW a b) by unfold quoteE; rw [if_neg h1, if_neg h2]]; exact ofE_good e
theorem setMay_small {l : List ByteArray} (h : setMay l = true) : l.length ≤ 16 ∧ ∀ x ∈ l, x.size ≤ 16 := ⟨(setMay_words h).1.2, fun x hx => by have := wordMay_size ((setMay_words h).2 x hx); omega⟩
end Go.Proofs.Ytnmikopkjdekaaa

/- What the library's Index, Contains, Equal do with words; Has, Heavy; a word of atoms. -/
namespace Go.Proofs.Ytnmikopkjdekaaa
set_option linter.unusedSimpArgs false
set_option linter.unusedVariables false
open Go.RowKit Go.Lib

theorem take_mem_succ {α : Type} {x : α} {l : List α} {i : Nat} (h : i < l.length) : x ∈ l.take (i + 1) ↔ x ∈ l.take i ∨ x = l[i] := by
  rw [List.take_succ_eq_append_getElem h, List.mem_append]; simp
set_option maxHeartbeats 1000000 in
theorem p_wof (l : List Nat) (hl : l.length ≤ 1000000) (ha : ∀ a ∈ l, a < 65536) : PCalls Try.prog 45 [.lst .ro l.length (u16s l)] (.str ⟨(atomBytes l).toArray⟩) := by
  refine pcalls_of (by first | rfl | simp [free, free.frees, frees_str, frees_u8, frees_u16]) (by first | rfl | simp [free, free.frees, frees_str, frees_u8, frees_u16]) (acalls_of mixed J_word_Of_ok (Nat.le_of_ble_eq_true rfl) ?_); simp only [J_word_Of, wk,if_true,if_false,forall_const,implies_true,ne_eq,eq_self,Nat.reduceEqDiff,Nat.reduceAdd,Nat.reduceMul,Nat.reduceSub,Nat.reduceLeDiff,Nat.reduceLT,Int.reduceEq,Int.reduceLT,Int.reduceLE,Int.reduceAdd,Int.reduceSub,Int.reduceMul,Int.reduceNeg,Int.reduceNe,reduceCtorEq,Int.reduceToNat,↓reduceIte]
  refine ⟨inR_of (by omega) (by omega), ⟨by omega, by omega, by omega⟩, ?_⟩
  refine W_loop (fun n fr h => ∃ i : Nat, i ≤ l.length ∧ n = l.length - i ∧ fr = [(3, .lst (.own 5) (2 * i) (u8s (atomBytes (l.take i)))), (10, .lst .ro l.length (u16s l)), (11, .int .i64 l.length), (12, .int .i64 i)]) l.length ⟨0, by omega, by omega, rfl⟩ ?_
  rintro n fr h ⟨i, hi, rfl, rfl⟩
  simp only [J_word_Of_j2, J_word_Of_j1, wk,if_true,if_false,forall_const,implies_true,ne_eq,eq_self,Nat.reduceEqDiff,Nat.reduceAdd,Nat.reduceMul,Nat.reduceSub,Nat.reduceLeDiff,Nat.reduceLT,Int.reduceEq,Int.reduceLT,Int.reduceLE,Int.reduceAdd,Int.reduceSub,Int.reduceMul,Int.reduceNeg,Int.reduceNe,reduceCtorEq,Int.reduceToNat,↓reduceIte]
  refine ⟨fun hlt => ?_, fun hge => ?_⟩
  · have hil : i < l.length := by omega
    have hx := ha l[i] (List.getElem_mem hil)
    (repeat (refine And.intro (by first | omega | exact inR_of (by omega) (by omega) | exact ⟨by omega, by omega⟩ | exact ⟨by omega, by omega, by omega⟩ | rfl) ?_))
    rw [show (i : Int).toNat = i by omega, u16s_drop hil]
    simp only [wk,if_true,if_false,forall_const,implies_true,ne_eq,eq_self,Nat.reduceEqDiff,Nat.reduceAdd,Nat.reduceMul,Nat.reduceSub,Nat.reduceLeDiff,Nat.reduceLT,Int.reduceEq,Int.reduceLT,Int.reduceLE,Int.reduceAdd,Int.reduceSub,Int.reduceMul,Int.reduceNeg,Int.reduceNe,reduceCtorEq,Int.reduceToNat,↓reduceIte]
    have e1 : IntKind.u8.wrap ((l[i] : Int).fdiv (2 ^ (min 8 IntKind.u16.bits))) = ((UInt8.ofNat (l[i] / 256)).toNat : Int) := by
      rw [show (min 8 IntKind.u16.bits) = 8 by decide, Int.fdiv_eq_ediv_of_nonneg _ (by omega), IntKind.wrap_u8]
      simp only [UInt8.toNat_ofNat']; omega
    have e2 : IntKind.u8.wrap (l[i] : Int) = ((UInt8.ofNat (l[i] % 256)).toNat : Int) := by
      rw [IntKind.wrap_u8]; simp only [UInt8.toNat_ofNat']; omega
    refine ⟨⟨by omega, by omega⟩, inR_of (by omega) (by omega), l.length - (i + 1), by omega, i + 1, by omega, rfl, ?_⟩
    have e3 : atomBytes (l.take (i + 1)) = atomBytes (l.take i) ++ [UInt8.ofNat (l[i] / 256), UInt8.ofNat (l[i] % 256)] := by
      unfold atomBytes; rw [List.take_succ_eq_append_getElem hil, List.flatMap_append]; simp
    rw [e1, e2, e3, ← u8s_app]
    rfl
  · obtain rfl : i = l.length := by omega
    rw [List.take_length]
    refine ⟨atomBytes l, rfl, ?_, rfl⟩
    have : ∀ l : List Nat, (atomBytes l).length = 2 * l.length := by
      intro l
      induction l with
      | nil => rfl
      | cons a l ih => simp only [atomBytes, List.flatMap_cons, List.length_append, List.length_cons, List.length_nil] at ih ⊢; omega
    rw [this]
end Go.Proofs.Ytnmikopkjdekaaa

namespace Go.Proofs.Ytnmikopkjdekaaa
open Go.RowKit
def J_cert_Check_j1 : ACode :=
 .keep [1] (.seq (.seq (.ops [⟨some 60, none, .load (some 7) (.t 1), none⟩,
 ⟨some 61, none, .call (.f 62) [(.t 60)], none⟩,
 ⟨some 62, none, .not (.t 61), none⟩])
 (.keep [62] (.cond (.t 62)
 (.seq (.ops [⟨some 2, none, .mv (.c (.int .i64 13)), none⟩])
 (.ret))
 (.skip))))
 (.keep [] (.seq (.ops [⟨some 2, none, .mv (.c (.int .i64 0)), none⟩])
 (.ret))))
def J_cert_Check_j2 : ACode :=
 .seq (.ops [⟨some 50, none, .bin .lss (.t 49) (.t 48), none⟩])
 (.keep [1, 47, 48, 49, 50] (.seq (.cond (.t 50)
 (.skip)
 (.exit 0))
 (.keep [1, 47, 48, 49] (.seq (.block 1 (.seq (.ops [⟨some 51, none, .idxa 1 (.t 47) (.t 49), none⟩,
 ⟨some 52, none, .load none (.t 51), none⟩,
 ⟨some 4, none, .mv (.t 52), none⟩])
 (.keep [1, 4, 47, 48, 49] (.seq (.ops [⟨some 53, none, .fld 2 (.t 1), none⟩,
 ⟨some 54, none, .load none (.t 53), none⟩,
 ⟨some 55, none, .call (.f 54) [(.t 54)], none⟩,
 ⟨some 56, none, .mv (.t 4), none⟩,
 ⟨some 57, none, .call (.f 54) [(.t 56)], none⟩,
 ⟨some 58, none, .bin .gtr (.t 55) (.t 57), none⟩])
 (.keep [1, 47, 48, 49, 58] (.cond (.t 58)
 (.seq (.ops [⟨some 2, none, .mv (.c (.int .i64 4)), none⟩])
 (.ret))
 (.skip)))))))
 (.keep [1, 47, 48, 49] (.ops [⟨some 59, none, .bin .add (.t 49) (.c (.int .i64 1)), none⟩,
 ⟨some 49, none, .mv (.t 59), none⟩]))))))
def J_cert_Check : AFn :=
 ⟨63, [.t 2], .seq (.ops [⟨some 1, none, .box (.t 0) [], none⟩,
 ⟨some 2, none, .mv (.c (.int .i64 0)), none⟩])
 (.keep [1] (.seq (.seq (.ops [⟨some 5, none, .fld 0 (.t 1), none⟩,
 ⟨some 6, none, .load none (.t 5), none⟩,
 ⟨some 7, none, .bin .lss (.t 6) (.c (.int .i64 1)), none⟩,
 ⟨some 8, none, .mv (.t 7), none⟩,
 ⟨some 9, (some (8, false)), .fld 0 (.t 1), none⟩,
 ⟨some 10, (some (8, false)), .load none (.t 9), none⟩,
 ⟨some 11, (some (8, false)), .bin .gtr (.t 10) (.c (.int .i64 7)), none⟩,
 ⟨some 12, none, .pick (.t 8) (.c (.bool true)) (.t 11), none⟩])
 (.keep [1, 12] (.cond (.t 12)
 (.seq (.ops [⟨some 2, none, .mv (.c (.int .i64 1)), none⟩])
 (.ret))
 (.skip))))
 (.keep [1] (.seq (.seq (.ops [⟨some 13, none, .fld 1 (.t 1), none⟩,
 ⟨some 14, none, .load none (.t 13), none⟩,
 ⟨some 15, none, .bsl 3 1 1 [(.int .i64 0)] [(0, 1, (.c (.int .i64 1)))], none⟩,
 ⟨some 16, none, .call (.f 60) [(.t 14), (.t 15)], none⟩,
 ⟨some 17, none, .not (.t 16), none⟩,
 ⟨some 18, none, .mv (.t 17), none⟩,
 ⟨some 19, (some (18, false)), .fld 2 (.t 1), none⟩,
 ⟨some 20, (some (18, false)), .load none (.t 19), none⟩,
 ⟨some 21, (some (18, false)), .call (.f 31) [(.t 20)], none⟩,
 ⟨some 22, (some (18, false)), .not (.t 21), none⟩,
 ⟨some 23, none, .pick (.t 18) (.c (.bool true)) (.t 22), none⟩,
 ⟨some 24, none, .mv (.t 23), none⟩,
 ⟨some 25, (some (24, false)), .fld 3 (.t 1), none⟩,
 ⟨some 26, (some (24, false)), .load none (.t 25), none⟩,
 ⟨some 27, (some (24, false)), .call (.f 38) [(.t 26)], none⟩,
 ⟨some 28, (some (24, false)), .not (.t 27), none⟩,
 ⟨some 29, none, .pick (.t 24) (.c (.bool true)) (.t 28), none⟩,
 ⟨some 30, none, .mv (.t 29), none⟩,
 ⟨some 31, (some (30, false)), .fld 4 (.t 1), none⟩,
 ⟨some 32, (some (30, false)), .load none (.t 31), none⟩,
 ⟨some 33, (some (30, false)), .fld 5 (.t 1), none⟩,
 ⟨some 34, (some (30, false)), .load none (.t 33), none⟩,
 ⟨some 35, (some (30, false)), .fld 6 (.t 1), none⟩,
 ⟨some 36, (some (30, false)), .load none (.t 35), none⟩,
 ⟨some 37, (some (30, false)), .bsl 2 1 3 [(.int .i64 0), (.int .i64 0), (.int .i64 0)] [(0, 1, (.t 32)), (1, 1, (.t 34)), (2, 1, (.t 36))], none⟩,
 ⟨some 38, (some (30, false)), .call (.f 61) [(.t 37)], none⟩,
 ⟨some 39, (some (30, false)), .not (.t 38), none⟩,
 ⟨some 40, none, .pick (.t 30) (.c (.bool true)) (.t 39), none⟩])
 (.keep [1, 40] (.cond (.t 40)
 (.seq (.ops [⟨some 2, none, .mv (.c (.int .i64 2)), none⟩])
 (.ret))
 (.skip))))
 (.keep [1] (.seq (.seq (.ops [⟨some 41, none, .fld 4 (.t 1), none⟩,
 ⟨some 42, none, .load none (.t 41), none⟩,
 ⟨some 43, none, .fld 5 (.t 1), none⟩,
 ⟨some 44, none, .load none (.t 43), none⟩,
 ⟨some 45, none, .bin .gtr (.t 42) (.t 44), none⟩])
 (.keep [1, 45] (.cond (.t 45)
 (.seq (.ops [⟨some 2, none, .mv (.c (.int .i64 5)), none⟩])
 (.ret))
 (.skip))))
 (.keep [1] (.seq (.seq (.ops [⟨some 46, none, .fld 3 (.t 1), none⟩,
 ⟨some 47, none, .load none (.t 46), none⟩,
 ⟨some 48, none, .lenl (.t 47), none⟩,
 ⟨some 49, none, .mv (.c (.int .i64 0)), none⟩])
 (.keep [1, 47, 48, 49] (.block 0 (.loop [1, 47, 48, 49] (J_cert_Check_j2)))))
 (J_cert_Check_j1)))))))))⟩
theorem J_cert_Check_ok : chkFn Try.prog 44 J_cert_Check = true := by kernel_rfl
def J_cert_Rules_j1 : ACode :=
 .keep [3] (.seq (.ops [⟨some 25, none, .mv (.t 3), none⟩,
 ⟨some 2, none, .mv (.t 25), none⟩])
 (.ret))
def J_cert_Rules_j2 : ACode :=
 .seq (.ops [⟨some 14, none, .bin .lss (.t 13) (.t 12), none⟩])
 (.keep [1, 3, 11, 12, 13, 14] (.seq (.cond (.t 14)
 (.skip)
 (.exit 0))
 (.keep [1, 3, 11, 12, 13] (.seq (.block 1 (.seq (.ops [⟨some 15, none, .idxa 1 (.t 11) (.t 13), none⟩,
 ⟨some 16, none, .load none (.t 15), none⟩,
 ⟨some 5, none, .mv (.t 16), none⟩])
 (.keep [1, 3, 5, 11, 12, 13] (.ops [⟨some 17, none, .mvo 3, none⟩,
 ⟨some 18, none, .mv (.t 5), none⟩,
 ⟨some 19, none, .fld 2 (.t 1), none⟩,
 ⟨some 20, none, .load none (.t 19), none⟩,
 ⟨some 21, none, .build [(.str ⟨#[]⟩), (.str ⟨#[]⟩)] [(0, 1, (.t 18)), (1, 1, (.t 20))], none⟩,
 ⟨some 22, none, .bsl 29 2 1 [(.str ⟨#[]⟩), (.str ⟨#[]⟩)] [(0, 2, (.t 21))], none⟩,
 ⟨some 23, none, .appo 29 2 32 17 (.t 22), none⟩,
 ⟨some 3, none, .mvo 23, none⟩]))))
 (.keep [1, 3, 11, 12, 13] (.ops [⟨some 24, none, .bin .add (.t 13) (.c (.int .i64 1)), none⟩,
 ⟨some 13, none, .mv (.t 24), none⟩]))))))
def J_cert_Rules : AFn :=
 ⟨26, [.t 2], .seq (.ops [⟨some 1, none, .box (.t 0) [], none⟩,
 ⟨some 2, none, .mv (.c (.lst .clip 0 [])), none⟩])
 (.keep [1] (.seq (.ops [⟨some 6, none, .fld 3 (.t 1), none⟩,
 ⟨some 7, none, .load none (.t 6), none⟩,
 ⟨some 8, none, .lenl (.t 7), none⟩,
 ⟨some 9, none, .mk0 29 2 32 (.t 8), none⟩,
 ⟨some 3, none, .mvo 9, none⟩])
 (.keep [1, 3] (.seq (.seq (.ops [⟨some 10, none, .fld 3 (.t 1), none⟩,
 ⟨some 11, none, .load none (.t 10), none⟩,
 ⟨some 12, none, .lenl (.t 11), none⟩,
 ⟨some 13, none, .mv (.c (.int .i64 0)), none⟩])
 (.keep [1, 3, 11, 12, 13] (.block 0 (.loop [1, 3, 11, 12, 13] (J_cert_Rules_j2)))))
 (J_cert_Rules_j1)))))⟩
theorem J_cert_Rules_ok : chkFn Try.prog 46 J_cert_Rules = true := by kernel_rfl
def J_ref08_Check_j1 : ACode :=
 .keep [1] (.seq (.seq (.ops [⟨some 68, none, .load (some 7) (.t 1), none⟩,
 ⟨some 69, none, .call (.f 65) [(.t 68)], none⟩,
 ⟨some 70, none, .not (.t 69), none⟩])
 (.keep [70] (.cond (.t 70)
 (.seq (.ops [⟨some 2, none, .mv (.c (.int .i64 13)), none⟩])
 (.ret))
 (.skip))))
 (.keep [] (.seq (.ops [⟨some 2, none, .mv (.c (.int .i64 0)), none⟩])
 (.ret))))
def J_ref08_Check_j2 : ACode :=
 .seq (.seq (.ops [⟨some 51, none, .mv (.t 3), none⟩,
 ⟨some 52, none, .fld 3 (.t 1), none⟩,
 ⟨some 53, none, .load none (.t 52), none⟩,
 ⟨some 54, none, .lenl (.t 53), none⟩,
 ⟨some 55, none, .bin .lss (.t 51) (.t 54), none⟩])
 (.keep [1, 3, 55] (.cond (.t 55)
 (.skip)
 (.exit 0))))
 (.keep [1, 3] (.seq (.block 1 (.seq (.draw [1, 3, 67] [⟨some 58, none, .fld 3 (.t 1), none⟩,
 ⟨some 59, none, .load none (.t 58), none⟩,
 ⟨some 60, none, .mv (.t 3), none⟩,
 ⟨some 61, none, .idxa 1 (.t 59) (.t 60), none⟩,
 ⟨some 62, none, .load none (.t 61), none⟩,
 ⟨some 63, none, .lens (.t 62), none⟩,
 ⟨some 64, none, .fld 2 (.t 1), none⟩,
 ⟨some 65, none, .load none (.t 64), none⟩,
 ⟨some 66, none, .lens (.t 65), none⟩,
 ⟨some 67, none, .bin .lss (.t 63) (.t 66), none⟩])
 (.keep [1, 3, 67] (.cond (.t 67)
 (.seq (.ops [⟨some 2, none, .mv (.c (.int .i64 4)), none⟩])
 (.ret))
 (.skip)))))
 (.keep [1, 3] (.ops [⟨some 56, none, .mv (.t 3), none⟩,
 ⟨some 57, none, .bin .add (.t 56) (.c (.int .i64 1)), none⟩,
 ⟨some 3, none, .mv (.t 57), none⟩]))))
def J_ref08_Check : AFn :=
 ⟨71, [.t 2], .seq (.ops [⟨some 1, none, .box (.t 0) [], none⟩,
 ⟨some 2, none, .mv (.c (.int .i64 0)), none⟩])
 (.keep [1] (.seq (.seq (.ops [⟨some 4, none, .fld 0 (.t 1), none⟩,
 ⟨some 5, none, .load none (.t 4), none⟩,
 ⟨some 6, none, .bin .lss (.t 5) (.c (.int .i64 1)), none⟩,
 ⟨some 7, none, .mv (.t 6), none⟩,
 ⟨some 8, (some (7, false)), .fld 0 (.t 1), none⟩,
 ⟨some 9, (some (7, false)), .load none (.t 8), none⟩,
 ⟨some 10, (some (7, false)), .bin .gtr (.t 9) (.c (.int .i64 7)), none⟩,
 ⟨some 11, none, .pick (.t 7) (.c (.bool true)) (.t 10), none⟩])
 (.keep [1, 11] (.cond (.t 11)
 (.seq (.ops [⟨some 2, none, .mv (.c (.int .i64 1)), none⟩])
 (.ret))
 (.skip))))
 (.keep [1] (.seq (.seq (.ops [⟨some 12, none, .fld 1 (.t 1), none⟩,
 ⟨some 13, none, .load none (.t 12), none⟩,
 ⟨some 14, none, .call (.f 63) [(.t 13)], none⟩,
 ⟨some 15, none, .bin .neq (.t 14) (.c (.int .i64 1)), none⟩,
 ⟨some 16, none, .mv (.t 15), none⟩,
 ⟨some 17, (some (16, false)), .fld 2 (.t 1), none⟩,
 ⟨some 18, (some (16, false)), .load none (.t 17), none⟩,
 ⟨some 19, (some (16, false)), .call (.f 35) [(.t 18)], none⟩,
 ⟨some 20, (some (16, false)), .not (.t 19), none⟩,
 ⟨some 21, none, .pick (.t 16) (.c (.bool true)) (.t 20), none⟩,
 ⟨some 22, none, .mv (.t 21), none⟩,
 ⟨some 23, (some (22, false)), .fld 3 (.t 1), none⟩,
 ⟨some 24, (some (22, false)), .load none (.t 23), none⟩,
 ⟨some 25, (some (22, false)), .call (.f 24) [(.t 24)], none⟩,
 ⟨some 26, (some (22, false)), .not (.t 25), none⟩,
 ⟨some 27, none, .pick (.t 22) (.c (.bool true)) (.t 26), none⟩,
 ⟨some 28, none, .mv (.t 27), none⟩,
 ⟨some 29, (some (28, false)), .fld 4 (.t 1), none⟩,
 ⟨some 30, (some (28, false)), .load none (.t 29), none⟩,
 ⟨some 31, (some (28, false)), .call (.f 64) [(.t 30)], none⟩,
 ⟨some 32, (some (28, false)), .not (.t 31), none⟩,
 ⟨some 33, none, .pick (.t 28) (.c (.bool true)) (.t 32), none⟩,
 ⟨some 34, none, .mv (.t 33), none⟩,
 ⟨some 35, (some (34, false)), .fld 5 (.t 1), none⟩,
 ⟨some 36, (some (34, false)), .load none (.t 35), none⟩,
 ⟨some 37, (some (34, false)), .call (.f 64) [(.t 36)], none⟩,
 ⟨some 38, (some (34, false)), .not (.t 37), none⟩,
 ⟨some 39, none, .pick (.t 34) (.c (.bool true)) (.t 38), none⟩,
 ⟨some 40, none, .mv (.t 39), none⟩,
 ⟨some 41, (some (40, false)), .fld 6 (.t 1), none⟩,
 ⟨some 42, (some (40, false)), .load none (.t 41), none⟩,
 ⟨some 43, (some (40, false)), .call (.f 64) [(.t 42)], none⟩,
 ⟨some 44, (some (40, false)), .not (.t 43), none⟩,
 ⟨some 45, none, .pick (.t 40) (.c (.bool true)) (.t 44), none⟩])
 (.keep [1, 45] (.cond (.t 45)
 (.seq (.ops [⟨some 2, none, .mv (.c (.int .i64 2)), none⟩])
 (.ret))
 (.skip))))
 (.keep [1] (.seq (.seq (.ops [⟨some 46, none, .fld 4 (.t 1), none⟩,
 ⟨some 47, none, .load none (.t 46), none⟩,
 ⟨some 48, none, .fld 5 (.t 1), none⟩,
 ⟨some 49, none, .load none (.t 48), none⟩,
 ⟨some 50, none, .bin .gtr (.t 47) (.t 49), none⟩])
 (.keep [1, 50] (.cond (.t 50)
 (.seq (.ops [⟨some 2, none, .mv (.c (.int .i64 5)), none⟩])
 (.ret))
 (.skip))))
 (.keep [1] (.seq (.seq (.ops [⟨some 3, none, .mv (.c (.int .i64 0)), none⟩])
 (.keep [1, 3] (.block 0 (.loop [1, 3] (J_ref08_Check_j2)))))
 (J_ref08_Check_j1)))))))))⟩
theorem J_ref08_Check_ok : chkFn Try.prog 47 J_ref08_Check = true := by kernel_rfl
def J_cert_isOf : AFn :=
 ⟨10, [.t 4], .seq (.ops [⟨some 4, none, .mv (.c (.bool false)), none⟩])
 (.keep [0, 1] (.seq (.ops [⟨some 5, none, .mv (.t 1), none⟩,
 ⟨some 6, none, .mv (.t 0), none⟩,
 ⟨some 7, none, .conv .i64 (.t 6), none⟩,
 ⟨some 8, none, .bin .quo (.t 7) (.c (.int .i64 8192)), none⟩,
 ⟨some 9, none, .call (.f 66) [(.t 5), (.t 8)], none⟩,
 ⟨some 4, none, .mv (.t 9), none⟩])
 (.ret)))⟩
theorem J_cert_isOf_ok : chkFn Try.prog 60 J_cert_isOf = true := by kernel_rfl
def J_cert_num_j1 : ACode :=
 .keep [] (.seq (.ops [⟨some 2, none, .mv (.c (.bool true)), none⟩])
 (.ret))
def J_cert_num_j2 : ACode :=
 .seq (.ops [⟨some 8, none, .bin .lss (.t 7) (.t 6), none⟩])
 (.keep [5, 6, 7, 8] (.seq (.cond (.t 8)
 (.skip)
 (.exit 0))
 (.keep [5, 6, 7] (.seq (.block 1 (.seq (.ops [⟨some 9, none, .idxa 1 (.t 5) (.t 7), none⟩,
 ⟨some 10, none, .load none (.t 9), none⟩,
 ⟨some 4, none, .mv (.t 10), none⟩])
 (.keep [4, 5, 6, 7] (.seq (.ops [⟨some 11, none, .mv (.t 4), none⟩,
 ⟨some 12, none, .bin .lss (.t 11) (.c (.int .i64 0)), none⟩,
 ⟨some 13, none, .mv (.t 12), none⟩,
 ⟨some 14, (some (13, false)), .mv (.t 4), none⟩,
 ⟨some 15, (some (13, false)), .bin .gtr (.t 14) (.c (.int .i64 4611686018427387904)), none⟩,
 ⟨some 16, none, .pick (.t 13) (.c (.bool true)) (.t 15), none⟩])
 (.keep [5, 6, 7, 16] (.cond (.t 16)
 (.seq (.ops [⟨some 2, none, .mv (.c (.bool false)), none⟩])
 (.ret))
 (.skip)))))))
 (.keep [5, 6, 7] (.ops [⟨some 17, none, .bin .add (.t 7) (.c (.int .i64 1)), none⟩,
 ⟨some 7, none, .mv (.t 17), none⟩]))))))
def J_cert_num : AFn :=
 ⟨18, [.t 2], .seq (.ops [⟨some 2, none, .mv (.c (.bool false)), none⟩])
 (.keep [0] (.seq (.seq (.ops [⟨some 5, none, .mv (.t 0), none⟩,
 ⟨some 6, none, .lenl (.t 5), none⟩,
 ⟨some 7, none, .mv (.c (.int .i64 0)), none⟩])
 (.keep [5, 6, 7] (.block 0 (.loop [5, 6, 7] (J_cert_num_j2)))))
 (J_cert_num_j1)))⟩
theorem J_cert_num_ok : chkFn Try.prog 61 J_cert_num = true := by kernel_rfl
def J_cert_like : AFn :=
 ⟨96, [.t 2], .seq (.ops [⟨some 1, none, .box (.t 0) [], none⟩,
 ⟨some 2, none, .mv (.c (.bool false)), none⟩])
 (.keep [1] (.seq (.seq (.ops [⟨some 5, none, .fld 0 (.t 1), none⟩,
 ⟨some 6, none, .load none (.t 5), none⟩])
 (.keep [1, 6] (.block 0 (.seq (.ops [⟨some 8, none, .bin .eql (.t 6) (.c (.int .i64 6)), none⟩,
 ⟨some 7, none, .mv (.t 8), none⟩])
 (.keep [1, 6, 7] (.cond (.t 7)
 (.seq (.ops [⟨some 2, none, .mv (.c (.bool true)), none⟩])
 (.ret))
 (.seq (.ops [⟨some 10, none, .bin .eql (.t 6) (.c (.int .i64 7)), none⟩,
 ⟨some 9, none, .mv (.t 10), none⟩])
 (.keep [1, 9] (.cond (.t 9)
 (.seq (.ops [⟨some 11, none, .load (some 7) (.t 1), none⟩,
 ⟨some 12, none, .call (.f 67) [(.t 11)], none⟩,
 ⟨some 2, none, .mv (.t 12), none⟩])
 (.ret))
 (.skip))))))))))
 (.keep [1] (.seq (.seq (.ops [⟨some 13, none, .fld 3 (.t 1), none⟩,
 ⟨some 14, none, .load none (.t 13), none⟩,
 ⟨some 15, none, .lenl (.t 14), none⟩,
 ⟨some 16, none, .bin .neq (.t 15) (.c (.int .i64 1)), none⟩])
 (.keep [1, 16] (.cond (.t 16)
 (.seq (.ops [⟨some 2, none, .mv (.c (.bool false)), none⟩])
 (.ret))
 (.skip))))
 (.keep [1] (.seq (.ops [⟨some 17, none, .fld 3 (.t 1), none⟩,
 ⟨some 18, none, .load none (.t 17), none⟩,
 ⟨some 19, none, .idxa 1 (.t 18) (.c (.int .i64 0)), none⟩,
 ⟨some 20, none, .load none (.t 19), none⟩,
 ⟨some 3, none, .mv (.t 20), none⟩])
 (.keep [1, 3] (.seq (.ops [⟨some 21, none, .mv (.t 3), none⟩,
 ⟨some 22, none, .call (.f 54) [(.t 21)], none⟩,
 ⟨some 4, none, .mv (.t 22), none⟩])
 (.keep [1, 3, 4] (.seq (.seq (.ops [⟨some 23, none, .fld 0 (.t 1), none⟩,
 ⟨some 24, none, .load none (.t 23), none⟩])
 (.keep [1, 3, 4, 24] (.block 1 (.seq (.ops [⟨some 26, none, .bin .eql (.t 24) (.c (.int .i64 1)), none⟩,
 ⟨some 25, none, .mv (.t 26), none⟩])
 (.keep [1, 3, 4, 24, 25] (.cond (.t 25)
 (.seq (.ops [⟨some 27, none, .fld 2 (.t 1), none⟩,
 ⟨some 28, none, .load none (.t 27), none⟩,
 ⟨some 29, none, .bsl 3 1 1 [(.int .i64 0)] [(0, 1, (.c (.int .i64 1)))], none⟩,
 ⟨some 30, none, .call (.f 68) [(.t 28), (.t 29)], none⟩,
 ⟨some 31, none, .mv (.t 30), none⟩,
 ⟨some 32, (some (31, true)), .mv (.t 4), none⟩,
 ⟨some 33, (some (31, true)), .bin .eql (.t 32) (.c (.int .i64 2)), none⟩,
 ⟨some 34, none, .pick (.t 31) (.t 33) (.c (.bool false)), none⟩,
 ⟨some 35, none, .mv (.t 34), none⟩,
 ⟨some 36, (some (35, true)), .mv (.t 3), none⟩,
 ⟨some 37, (some (35, true)), .call (.f 55) [(.t 36), (.c (.int .i64 0))], none⟩,
 ⟨some 38, (some (35, true)), .bsl 3 1 1 [(.int .i64 0)] [(0, 1, (.c (.int .i64 3)))], none⟩,
 ⟨some 39, (some (35, true)), .call (.f 60) [(.t 37), (.t 38)], none⟩,
 ⟨some 40, none, .pick (.t 35) (.t 39) (.c (.bool false)), none⟩,
 ⟨some 41, none, .mv (.t 40), none⟩,
 ⟨some 42, (some (41, true)), .mv (.t 3), none⟩,
 ⟨some 43, (some (41, true)), .call (.f 55) [(.t 42), (.c (.int .i64 1))], none⟩,
 ⟨some 44, (some (41, true)), .bsl 3 1 1 [(.int .i64 0)] [(0, 1, (.c (.int .i64 5)))], none⟩,
 ⟨some 45, (some (41, true)), .call (.f 60) [(.t 43), (.t 44)], none⟩,
 ⟨some 46, none, .pick (.t 41) (.t 45) (.c (.bool false)), none⟩,
 ⟨some 2, none, .mv (.t 46), none⟩])
 (.ret))
 (.seq (.ops [⟨some 48, none, .bin .eql (.t 24) (.c (.int .i64 2)), none⟩,
 ⟨some 47, none, .mv (.t 48), none⟩])
 (.keep [1, 3, 4, 24, 47] (.cond (.t 47)
 (.seq (.ops [⟨some 49, none, .fld 2 (.t 1), none⟩,
 ⟨some 50, none, .load none (.t 49), none⟩,
 ⟨some 51, none, .bsl 3 1 1 [(.int .i64 0)] [(0, 1, (.c (.int .i64 1)))], none⟩,
 ⟨some 52, none, .call (.f 68) [(.t 50), (.t 51)], none⟩,
 ⟨some 53, none, .mv (.t 52), none⟩,
 ⟨some 54, (some (53, true)), .mv (.t 3), none⟩,
 ⟨some 55, (some (53, true)), .fld 1 (.t 1), none⟩,
 ⟨some 56, (some (53, true)), .load none (.t 55), none⟩,
 ⟨some 57, (some (53, true)), .bsl 51 1 1 [(.int .u16 0)] [(0, 1, (.t 56))], none⟩,
 ⟨some 58, (some (53, true)), .call (.f 45) [(.t 57)], none⟩,
 ⟨some 59, (some (53, true)), .bin .eql (.t 54) (.t 58), none⟩,
 ⟨some 60, none, .pick (.t 53) (.t 59) (.c (.bool false)), none⟩,
 ⟨some 2, none, .mv (.t 60), none⟩])
 (.ret))
 (.seq (.ops [⟨some 62, none, .bin .eql (.t 24) (.c (.int .i64 3)), none⟩,
 ⟨some 61, none, .mv (.t 62), none⟩])
 (.keep [1, 3, 4, 24, 61] (.cond (.t 61)
 (.seq (.ops [⟨some 63, none, .fld 2 (.t 1), none⟩,
 ⟨some 64, none, .load none (.t 63), none⟩,
 ⟨some 65, none, .bsl 3 1 1 [(.int .i64 0)] [(0, 1, (.c (.int .i64 2)))], none⟩,
 ⟨some 66, none, .call (.f 68) [(.t 64), (.t 65)], none⟩,
 ⟨some 2, none, .mv (.t 66), none⟩])
 (.ret))
 (.seq (.ops [⟨some 68, none, .bin .eql (.t 24) (.c (.int .i64 4)), none⟩,
 ⟨some 67, none, .mv (.t 68), none⟩])
 (.keep [1, 3, 4, 24, 67] (.cond (.t 67)
 (.seq (.ops [⟨some 69, none, .fld 2 (.t 1), none⟩,
 ⟨some 70, none, .load none (.t 69), none⟩,
 ⟨some 71, none, .bsl 3 1 1 [(.int .i64 0)] [(0, 1, (.c (.int .i64 3)))], none⟩,
 ⟨some 72, none, .call (.f 68) [(.t 70), (.t 71)], none⟩,
 ⟨some 73, none, .mv (.t 72), none⟩,
 ⟨some 74, (some (73, true)), .mv (.t 3), none⟩,
 ⟨some 75, (some (73, true)), .bsl 3 1 1 [(.int .i64 0)] [(0, 1, (.c (.int .i64 4)))], none⟩,
 ⟨some 76, (some (73, true)), .call (.f 68) [(.t 74), (.t 75)], none⟩,
 ⟨some 77, none, .pick (.t 73) (.t 76) (.c (.bool false)), none⟩,
 ⟨some 2, none, .mv (.t 77), none⟩])
 (.ret))
 (.seq (.ops [⟨some 79, none, .bin .eql (.t 24) (.c (.int .i64 5)), none⟩,
 ⟨some 78, none, .mv (.t 79), none⟩])
 (.keep [1, 3, 4, 78] (.cond (.t 78)
 (.seq (.ops [⟨some 80, none, .fld 2 (.t 1), none⟩,
 ⟨some 81, none, .load none (.t 80), none⟩,
 ⟨some 82, none, .bsl 3 1 2 [(.int .i64 0), (.int .i64 0)] [(0, 1, (.c (.int .i64 1))), (1, 1, (.c (.int .i64 2)))], none⟩,
 ⟨some 83, none, .call (.f 68) [(.t 81), (.t 82)], none⟩,
 ⟨some 84, none, .mv (.t 83), none⟩,
 ⟨some 85, (some (84, true)), .mv (.t 4), none⟩,
 ⟨some 86, (some (84, true)), .bin .geq (.t 85) (.c (.int .i64 2)), none⟩,
 ⟨some 87, none, .pick (.t 84) (.t 86) (.c (.bool false)), none⟩,
 ⟨some 88, none, .mv (.t 87), none⟩,
 ⟨some 89, (some (88, true)), .mv (.t 3), none⟩,
 ⟨some 90, (some (88, true)), .mv (.t 4), none⟩,
 ⟨some 91, (some (88, true)), .bin .sub (.t 90) (.c (.int .i64 1)), none⟩,
 ⟨some 92, (some (88, true)), .call (.f 55) [(.t 89), (.t 91)], none⟩,
 ⟨some 93, (some (88, true)), .bsl 3 1 1 [(.int .i64 0)] [(0, 1, (.c (.int .i64 5)))], none⟩,
 ⟨some 94, (some (88, true)), .call (.f 60) [(.t 92), (.t 93)], none⟩,
 ⟨some 95, none, .pick (.t 88) (.t 94) (.c (.bool false)), none⟩,
 ⟨some 2, none, .mv (.t 95), none⟩])
 (.ret))
 (.skip)))))))))))))))))))
 (.keep [] (.seq (.ops [⟨some 2, none, .mv (.c (.bool false)), none⟩])
 (.ret)))))))))))))⟩
theorem J_cert_like_ok : chkFn Try.prog 62 J_cert_like = true := by kernel_rfl
def J_ref01_Kind : AFn :=
 ⟨10, [.t 2], .seq (.ops [⟨some 2, none, .mv (.c (.int .i64 0)), none⟩])
 (.keep [0] (.seq (.ops [⟨some 3, none, .mv (.t 0), none⟩,
 ⟨some 4, none, .conv .i64 (.t 3), none⟩,
 ⟨some 5, none, .mv (.t 0), none⟩,
 ⟨some 6, none, .conv .i64 (.t 5), none⟩,
 ⟨some 7, none, .bin .rem (.t 6) (.c (.int .i64 8192)), none⟩,
 ⟨some 8, none, .bin .sub (.t 4) (.t 7), none⟩,
 ⟨some 9, none, .bin .quo (.t 8) (.c (.int .i64 8192)), none⟩,
 ⟨some 2, none, .mv (.t 9), none⟩])
 (.ret)))⟩
theorem J_ref01_Kind_ok : chkFn Try.prog 63 J_ref01_Kind = true := by kernel_rfl
def J_ref08_num : AFn :=
 ⟨9, [.t 2], .seq (.ops [⟨some 2, none, .mv (.c (.bool false)), none⟩])
 (.keep [0] (.seq (.ops [⟨some 3, none, .mv (.t 0), none⟩,
 ⟨some 4, none, .bin .geq (.t 3) (.c (.int .i64 0)), none⟩,
 ⟨some 5, none, .mv (.t 4), none⟩,
 ⟨some 6, (some (5, true)), .mv (.t 0), none⟩,
 ⟨some 7, (some (5, true)), .bin .leq (.t 6) (.c (.int .i64 4611686018427387904)), none⟩,
 ⟨some 8, none, .pick (.t 5) (.t 7) (.c (.bool false)), none⟩,
 ⟨some 2, none, .mv (.t 8), none⟩])
 (.ret)))⟩
theorem J_ref08_num_ok : chkFn Try.prog 64 J_ref08_num = true := by kernel_rfl
def J_ref08_like : AFn :=
 ⟨147, [.t 2], .seq (.ops [⟨some 1, none, .box (.t 0) [], none⟩,
 ⟨some 2, none, .mv (.c (.bool false)), none⟩])
 (.keep [1] (.seq (.ops [⟨some 8, none, .fld 3 (.t 1), none⟩,
 ⟨some 9, none, .load none (.t 8), none⟩,
 ⟨some 10, none, .idxa 1 (.t 9) (.c (.int .i64 0)), none⟩,
 ⟨some 11, none, .load none (.t 10), none⟩,
 ⟨some 12, none, .call (.f 57) [(.t 11)], none⟩,
 ⟨some 3, none, .mv (.t 12), none⟩])
 (.keep [1, 3] (.seq (.ops [⟨some 13, none, .mv (.t 3), none⟩,
 ⟨some 14, none, .mv (.t 3), none⟩,
 ⟨some 15, none, .lenl (.t 14), none⟩,
 ⟨some 16, none, .bin .sub (.t 15) (.c (.int .i64 1)), none⟩,
 ⟨some 17, none, .idxa 1 (.t 13) (.t 16), none⟩,
 ⟨some 18, none, .load none (.t 17), none⟩,
 ⟨some 19, none, .call (.f 63) [(.t 18)], none⟩,
 ⟨some 4, none, .mv (.t 19), none⟩])
 (.keep [1, 3, 4] (.seq (.ops [⟨some 20, none, .fld 2 (.t 1), none⟩,
 ⟨some 21, none, .load none (.t 20), none⟩,
 ⟨some 22, none, .call (.f 69) [(.t 21)], none⟩,
 ⟨some 5, none, .mv (.t 22), none⟩])
 (.keep [1, 3, 4, 5] (.seq (.seq (.ops [⟨some 23, none, .fld 0 (.t 1), none⟩,
 ⟨some 24, none, .load none (.t 23), none⟩])
 (.keep [1, 3, 4, 5, 24] (.block 0 (.seq (.ops [⟨some 26, none, .bin .eql (.t 24) (.c (.int .i64 1)), none⟩,
 ⟨some 25, none, .mv (.t 26), none⟩])
 (.keep [1, 3, 4, 5, 24, 25] (.cond (.t 25)
 (.seq (.ops [⟨some 27, none, .fld 3 (.t 1), none⟩,
 ⟨some 28, none, .load none (.t 27), none⟩,
 ⟨some 29, none, .lenl (.t 28), none⟩,
 ⟨some 30, none, .bin .eql (.t 29) (.c (.int .i64 1)), none⟩,
 ⟨some 31, none, .mv (.t 30), none⟩,
 ⟨some 32, (some (31, true)), .mv (.t 5), none⟩,
 ⟨some 33, (some (31, true)), .bin .eql (.t 32) (.c (.int .i64 1)), none⟩,
 ⟨some 34, none, .pick (.t 31) (.t 33) (.c (.bool false)), none⟩,
 ⟨some 35, none, .mv (.t 34), none⟩,
 ⟨some 36, (some (35, true)), .mv (.t 3), none⟩,
 ⟨some 37, (some (35, true)), .lenl (.t 36), none⟩,
 ⟨some 38, (some (35, true)), .bin .eql (.t 37) (.c (.int .i64 2)), none⟩,
 ⟨some 39, none, .pick (.t 35) (.t 38) (.c (.bool false)), none⟩,
 ⟨some 40, none, .mv (.t 39), none⟩,
 ⟨some 41, (some (40, true)), .mv (.t 3), none⟩,
 ⟨some 42, (some (40, true)), .idxa 1 (.t 41) (.c (.int .i64 0)), none⟩,
 ⟨some 43, (some (40, true)), .load none (.t 42), none⟩,
 ⟨some 44, (some (40, true)), .call (.f 63) [(.t 43)], none⟩,
 ⟨some 45, (some (40, true)), .bin .eql (.t 44) (.c (.int .i64 3)), none⟩,
 ⟨some 46, none, .pick (.t 40) (.t 45) (.c (.bool false)), none⟩,
 ⟨some 47, none, .mv (.t 46), none⟩,
 ⟨some 48, (some (47, true)), .mv (.t 4), none⟩,
 ⟨some 49, (some (47, true)), .bin .eql (.t 48) (.c (.int .i64 5)), none⟩,
 ⟨some 50, none, .pick (.t 47) (.t 49) (.c (.bool false)), none⟩,
 ⟨some 2, none, .mv (.t 50), none⟩])
 (.ret))
 (.seq (.ops [⟨some 52, none, .bin .eql (.t 24) (.c (.int .i64 2)), none⟩,
 ⟨some 51, none, .mv (.t 52), none⟩])
 (.keep [1, 3, 4, 5, 24, 51] (.cond (.t 51)
 (.seq (.draw [2] [⟨some 53, none, .fld 3 (.t 1), none⟩,
 ⟨some 54, none, .load none (.t 53), none⟩,
 ⟨some 55, none, .lenl (.t 54), none⟩,
 ⟨some 56, none, .bin .eql (.t 55) (.c (.int .i64 1)), none⟩,
 ⟨some 57, none, .mv (.t 56), none⟩,
 ⟨some 58, (some (57, true)), .mv (.t 5), none⟩,
 ⟨some 59, (some (57, true)), .bin .eql (.t 58) (.c (.int .i64 1)), none⟩,
 ⟨some 60, none, .pick (.t 57) (.t 59) (.c (.bool false)), none⟩,
 ⟨some 61, none, .mv (.t 60), none⟩,
 ⟨some 62, (some (61, true)), .mv (.t 3), none⟩,
 ⟨some 63, (some (61, true)), .lenl (.t 62), none⟩,
 ⟨some 64, (some (61, true)), .bin .eql (.t 63) (.c (.int .i64 1)), none⟩,
 ⟨some 65, none, .pick (.t 61) (.t 64) (.c (.bool false)), none⟩,
 ⟨some 66, none, .mv (.t 65), none⟩,
 ⟨some 67, (some (66, true)), .mv (.t 3), none⟩,
 ⟨some 68, (some (66, true)), .idxa 1 (.t 67) (.c (.int .i64 0)), none⟩,
 ⟨some 69, (some (66, true)), .load none (.t 68), none⟩,
 ⟨some 70, (some (66, true)), .fld 1 (.t 1), none⟩,
 ⟨some 71, (some (66, true)), .load none (.t 70), none⟩,
 ⟨some 72, (some (66, true)), .bin .eql (.t 69) (.t 71), none⟩,
 ⟨some 73, none, .pick (.t 66) (.t 72) (.c (.bool false)), none⟩,
 ⟨some 2, none, .mv (.t 73), none⟩])
 (.ret))
 (.seq (.ops [⟨some 75, none, .bin .eql (.t 24) (.c (.int .i64 3)), none⟩,
 ⟨some 74, none, .mv (.t 75), none⟩])
 (.keep [1, 3, 4, 5, 24, 74] (.cond (.t 74)
 (.seq (.ops [⟨some 76, none, .fld 3 (.t 1), none⟩,
 ⟨some 77, none, .load none (.t 76), none⟩,
 ⟨some 78, none, .lenl (.t 77), none⟩,
 ⟨some 79, none, .bin .eql (.t 78) (.c (.int .i64 1)), none⟩,
 ⟨some 80, none, .mv (.t 79), none⟩,
 ⟨some 81, (some (80, true)), .mv (.t 5), none⟩,
 ⟨some 82, (some (80, true)), .bin .eql (.t 81) (.c (.int .i64 2)), none⟩,
 ⟨some 83, none, .pick (.t 80) (.t 82) (.c (.bool false)), none⟩,
 ⟨some 2, none, .mv (.t 83), none⟩])
 (.ret))
 (.seq (.ops [⟨some 85, none, .bin .eql (.t 24) (.c (.int .i64 4)), none⟩,
 ⟨some 84, none, .mv (.t 85), none⟩])
 (.keep [1, 3, 4, 5, 24, 84] (.cond (.t 84)
 (.seq (.ops [⟨some 86, none, .fld 3 (.t 1), none⟩,
 ⟨some 87, none, .load none (.t 86), none⟩,
 ⟨some 88, none, .lenl (.t 87), none⟩,
 ⟨some 89, none, .bin .eql (.t 88) (.c (.int .i64 1)), none⟩,
 ⟨some 90, none, .mv (.t 89), none⟩,
 ⟨some 91, (some (90, true)), .mv (.t 5), none⟩,
 ⟨some 92, (some (90, true)), .bin .eql (.t 91) (.c (.int .i64 3)), none⟩,
 ⟨some 93, none, .pick (.t 90) (.t 92) (.c (.bool false)), none⟩,
 ⟨some 94, none, .mv (.t 93), none⟩,
 ⟨some 95, (some (94, true)), .mv (.t 3), none⟩,
 ⟨some 96, (some (94, true)), .lenl (.t 95), none⟩,
 ⟨some 97, (some (94, true)), .bin .eql (.t 96) (.c (.int .i64 1)), none⟩,
 ⟨some 98, none, .pick (.t 94) (.t 97) (.c (.bool false)), none⟩,
 ⟨some 99, none, .mv (.t 98), none⟩,
 ⟨some 100, (some (99, true)), .mv (.t 4), none⟩,
 ⟨some 101, (some (99, true)), .bin .eql (.t 100) (.c (.int .i64 4)), none⟩,
 ⟨some 102, none, .pick (.t 99) (.t 101) (.c (.bool false)), none⟩,
 ⟨some 2, none, .mv (.t 102), none⟩])
 (.ret))
 (.seq (.ops [⟨some 104, none, .bin .eql (.t 24) (.c (.int .i64 5)), none⟩,
 ⟨some 103, none, .mv (.t 104), none⟩])
 (.keep [1, 3, 4, 5, 24, 103] (.cond (.t 103)
 (.seq (.ops [⟨some 105, none, .fld 3 (.t 1), none⟩,
 ⟨some 106, none, .load none (.t 105), none⟩,
 ⟨some 107, none, .lenl (.t 106), none⟩,
 ⟨some 108, none, .bin .eql (.t 107) (.c (.int .i64 1)), none⟩,
 ⟨some 109, none, .mv (.t 108), none⟩,
 ⟨some 110, (some (109, true)), .mv (.t 5), none⟩,
 ⟨some 111, (some (109, true)), .bin .eql (.t 110) (.c (.int .i64 1)), none⟩,
 ⟨some 112, (some (109, true)), .mv (.t 111), none⟩,
 ⟨some 113, (some (112, false)), .mv (.t 5), none⟩,
 ⟨some 114, (some (112, false)), .bin .eql (.t 113) (.c (.int .i64 2)), none⟩,
 ⟨some 115, (some (109, true)), .pick (.t 112) (.c (.bool true)) (.t 114), none⟩,
 ⟨some 116, none, .pick (.t 109) (.t 115) (.c (.bool false)), none⟩,
 ⟨some 117, none, .mv (.t 116), none⟩,
 ⟨some 118, (some (117, true)), .mv (.t 3), none⟩,
 ⟨some 119, (some (117, true)), .lenl (.t 118), none⟩,
 ⟨some 120, (some (117, true)), .bin .gtr (.t 119) (.c (.int .i64 1)), none⟩,
 ⟨some 121, none, .pick (.t 117) (.t 120) (.c (.bool false)), none⟩,
 ⟨some 122, none, .mv (.t 121), none⟩,
 ⟨some 123, (some (122, true)), .mv (.t 4), none⟩,
 ⟨some 124, (some (122, true)), .bin .eql (.t 123) (.c (.int .i64 5)), none⟩,
 ⟨some 125, none, .pick (.t 122) (.t 124) (.c (.bool false)), none⟩,
 ⟨some 2, none, .mv (.t 125), none⟩])
 (.ret))
 (.seq (.ops [⟨some 127, none, .bin .eql (.t 24) (.c (.int .i64 7)), none⟩,
 ⟨some 126, none, .mv (.t 127), none⟩])
 (.keep [1, 126] (.cond (.t 126)
 (.seq (.ops [⟨some 128, none, .fld 2 (.t 1), none⟩,
 ⟨some 129, none, .load none (.t 128), none⟩,
 ⟨some 130, none, .call (.f 57) [(.t 129)], none⟩,
 ⟨some 6, none, .mv (.t 130), none⟩])
 (.keep [1, 6] (.seq (.seq (.ops [⟨some 131, none, .mv (.t 6), none⟩,
 ⟨some 132, none, .lenl (.t 131), none⟩,
 ⟨some 133, none, .bin .lss (.t 132) (.c (.int .i64 2)), none⟩])
 (.keep [1, 6, 133] (.cond (.t 133)
 (.seq (.ops [⟨some 2, none, .mv (.c (.bool false)), none⟩])
 (.ret))
 (.skip))))
 (.keep [1, 6] (.seq (.ops [⟨some 134, none, .bsl 51 1 1 [(.int .u16 0)] [(0, 1, (.c (.int .u16 1)))], none⟩,
 ⟨some 135, none, .mv (.t 6), none⟩,
 ⟨some 136, none, .slcl 1 (.t 135) (some (.c (.int .i64 1))) none none, none⟩,
 ⟨some 137, none, .appo 51 1 2 134 (.t 136), none⟩,
 ⟨some 7, none, .mvo 137, none⟩])
 (.keep [1, 7] (.seq (.draw [2] [⟨some 138, none, .fld 3 (.t 1), none⟩,
 ⟨some 139, none, .load none (.t 138), none⟩,
 ⟨some 140, none, .fld 2 (.t 1), none⟩,
 ⟨some 141, none, .load none (.t 140), none⟩,
 ⟨some 142, none, .mv (.t 7), none⟩,
 ⟨some 143, none, .call (.f 29) [(.t 142)], none⟩,
 ⟨some 144, none, .bsl 27 1 2 [(.str ⟨#[]⟩), (.str ⟨#[]⟩)] [(0, 1, (.t 141)), (1, 1, (.t 143))], none⟩,
 ⟨some 145, none, .call (.f 51) [(.t 144)], none⟩,
 ⟨some 146, none, .call (.f 70) [(.t 139), (.t 145)], none⟩,
 ⟨some 2, none, .mv (.t 146), none⟩])
 (.ret))))))))
 (.skip))))))))))))))))))))))
 (.keep [] (.seq (.ops [⟨some 2, none, .mv (.c (.bool true)), none⟩])
 (.ret)))))))))))⟩
theorem J_ref08_like_ok : chkFn Try.prog 65 J_ref08_like = true := by kernel_rfl
def J_cert_delegate : AFn :=
 ⟨36, [.t 2], .seq (.ops [⟨some 1, none, .box (.t 0) [], none⟩,
 ⟨some 2, none, .mv (.c (.bool false)), none⟩])
 (.keep [1] (.seq (.seq (.ops [⟨some 6, none, .fld 2 (.t 1), none⟩,
 ⟨some 7, none, .load none (.t 6), none⟩,
 ⟨some 8, none, .call (.f 54) [(.t 7)], none⟩,
 ⟨some 9, none, .bin .lss (.t 8) (.c (.int .i64 2)), none⟩])
 (.keep [1, 9] (.cond (.t 9)
 (.seq (.ops [⟨some 2, none, .mv (.c (.bool false)), none⟩])
 (.ret))
 (.skip))))
 (.keep [1] (.seq (.draw [1, 3, 4] [⟨some 11, none, .fld 2 (.t 1), none⟩,
 ⟨some 12, none, .load none (.t 11), none⟩,
 ⟨some 13, none, .bsl 51 1 1 [(.int .u16 0)] [(0, 1, (.c (.int .u16 1)))], none⟩,
 ⟨some 14, none, .call (.f 45) [(.t 13)], none⟩,
 ⟨some 15, none, .call (.f 72) [(.t 12), (.c (.int .i64 0)), (.c (.int .i64 1)), (.t 14)], none⟩,
 ⟨some 10, none, .mv (.t 15), none⟩,
 ⟨some 16, none, .ext 0 (.t 10), none⟩,
 ⟨some 17, none, .ext 1 (.t 10), none⟩,
 ⟨some 3, none, .mv (.t 16), none⟩,
 ⟨some 4, none, .mv (.t 17), none⟩])
 (.keep [1, 3, 4] (.seq (.seq (.ops [⟨some 18, none, .mv (.t 4), none⟩,
 ⟨some 19, none, .bin .neq (.t 18) (.c (.int .i64 0)), none⟩])
 (.keep [1, 3, 19] (.cond (.t 19)
 (.seq (.ops [⟨some 2, none, .mv (.c (.bool false)), none⟩])
 (.ret))
 (.skip))))
 (.keep [1, 3] (.seq (.ops [⟨some 21, none, .fld 2 (.t 1), none⟩,
 ⟨some 22, none, .load none (.t 21), none⟩,
 ⟨some 23, none, .mv (.t 3), none⟩,
 ⟨some 24, none, .bsl 27 1 2 [(.str ⟨#[]⟩), (.str ⟨#[]⟩)] [(0, 1, (.t 22)), (1, 1, (.t 23))], none⟩,
 ⟨some 25, none, .call (.f 73) [(.t 24)], none⟩,
 ⟨some 20, none, .mv (.t 25), none⟩,
 ⟨some 26, none, .ext 0 (.t 20), none⟩,
 ⟨some 27, none, .ext 1 (.t 20), none⟩,
 ⟨some 5, none, .mv (.t 26), none⟩,
 ⟨some 4, none, .mv (.t 27), none⟩])
 (.keep [1, 4, 5] (.seq (.ops [⟨some 28, none, .mv (.t 4), none⟩,
 ⟨some 29, none, .bin .eql (.t 28) (.c (.int .i64 0)), none⟩,
 ⟨some 30, none, .mv (.t 29), none⟩,
 ⟨some 31, (some (30, true)), .fld 3 (.t 1), none⟩,
 ⟨some 32, (some (30, true)), .load none (.t 31), none⟩,
 ⟨some 33, (some (30, true)), .mv (.t 5), none⟩,
 ⟨some 34, (some (30, true)), .call (.f 74) [(.t 32), (.t 33)], none⟩,
 ⟨some 35, none, .pick (.t 30) (.t 34) (.c (.bool false)), none⟩,
 ⟨some 2, none, .mv (.t 35), none⟩])
 (.ret)))))))))))⟩
theorem J_cert_delegate_ok : chkFn Try.prog 67 J_cert_delegate = true := by kernel_rfl
def J_cert_alone : AFn :=
 ⟨14, [.t 4], .seq (.ops [⟨some 4, none, .mv (.c (.bool false)), none⟩])
 (.keep [0, 1] (.seq (.ops [⟨some 5, none, .mv (.t 0), none⟩,
 ⟨some 6, none, .call (.f 54) [(.t 5)], none⟩,
 ⟨some 7, none, .bin .eql (.t 6) (.c (.int .i64 1)), none⟩,
 ⟨some 8, none, .mv (.t 7), none⟩,
 ⟨some 9, (some (8, true)), .mv (.t 0), none⟩,
 ⟨some 10, (some (8, true)), .call (.f 55) [(.t 9), (.c (.int .i64 0))], none⟩,
 ⟨some 11, (some (8, true)), .mv (.t 1), none⟩,
 ⟨some 12, (some (8, true)), .call (.f 60) [(.t 10), (.t 11)], none⟩,
 ⟨some 13, none, .pick (.t 8) (.t 12) (.c (.bool false)), none⟩,
 ⟨some 4, none, .mv (.t 13), none⟩])
 (.ret)))⟩
theorem J_cert_alone_ok : chkFn Try.prog 68 J_cert_alone = true := by kernel_rfl
def J_ref08_single : AFn :=
 ⟨13, [.t 2], .seq (.ops [⟨some 2, none, .mv (.c (.int .i64 0)), none⟩])
 (.keep [0] (.seq (.ops [⟨some 4, none, .mv (.t 0), none⟩,
 ⟨some 5, none, .call (.f 57) [(.t 4)], none⟩,
 ⟨some 3, none, .mv (.t 5), none⟩])
 (.keep [3] (.seq (.seq (.ops [⟨some 6, none, .mv (.t 3), none⟩,
 ⟨some 7, none, .lenl (.t 6), none⟩,
 ⟨some 8, none, .bin .neq (.t 7) (.c (.int .i64 1)), none⟩])
 (.keep [3, 8] (.cond (.t 8)
 (.seq (.ops [⟨some 2, none, .mv (.c (.int .i64 (-1))), none⟩])
 (.ret))
 (.skip))))
 (.keep [3] (.seq (.ops [⟨some 9, none, .mv (.t 3), none⟩,
 ⟨some 10, none, .idxa 1 (.t 9) (.c (.int .i64 0)), none⟩,
 ⟨some 11, none, .load none (.t 10), none⟩,
 ⟨some 12, none, .call (.f 63) [(.t 11)], none⟩,
 ⟨some 2, none, .mv (.t 12), none⟩])
 (.ret)))))))⟩
theorem J_ref08_single_ok : chkFn Try.prog 69 J_ref08_single = true := by kernel_rfl
end Go.Proofs.Ytnmikopkjdekaaa

/- What pack's Out and its reference do, over the abstract code. -/
namespace Go.Proofs.Ytnmikopkjdekaaa
set_option linter.unusedSimpArgs false
set_option linter.unusedVariables false
open Go.RowKit Go.Lib

theorem hset {h : Hp} {id : Nat} {y : Option (Bool × List AV)} (ho : h[id]? = some y) (x : Option (Bool × List AV)) : (h.set id x)[id]? = some x := by
  have : id < h.length := (List.getElem?_eq_some_iff.1 ho).1
  rw [List.getElem?_set_self this]
def eI : Bool → Int
  | true => 2
  | false => 0
def told (s : Bool × List UInt8) : AV := .tup [.str (if s.1 then ⟨#[]⟩ else ⟨s.2.toArray⟩), .int .i64 (eI s.1)]
end Go.Proofs.Ytnmikopkjdekaaa

/- What pack's In does, over the abstract code. -/
namespace Go.Proofs.Ytnmikopkjdekaaa
set_option linter.unusedSimpArgs false
set_option linter.unusedVariables false
open Go.RowKit Go.Lib

end Go.Proofs.Ytnmikopkjdekaaa

/- What pack's In does: counts, texts, words, sets. -/
-- tight
namespace Go.Proofs.Ytnmikopkjdekaaa
set_option linter.unusedSimpArgs false
set_option linter.unusedVariables false
open Go.RowKit Go.Lib

theorem hnew (h : Hp) (x : Option (Bool × List AV)) : (h ++ [x])[h.length]? = some x := by simp
end Go.Proofs.Ytnmikopkjdekaaa

/- The plain law of reading: what is read was written so. -/
namespace Go.Proofs.Ytnmikopkjdekaaa
set_option linter.unusedSimpArgs false
set_option linter.unusedVariables false
open Go.RowKit Go.Lib

end Go.Proofs.Ytnmikopkjdekaaa

/- The plain law of writing: what is written is read. -/
namespace Go.Proofs.Ytnmikopkjdekaaa
set_option linter.unusedSimpArgs false
set_option linter.unusedVariables false
open Go.RowKit Go.Lib

end Go.Proofs.Ytnmikopkjdekaaa

/- The abstract layer: full slices as ones that are only read, however deep; results that are objects as ones that stay. -/
namespace Go.Proofs.Ytnmikopkjdekaaa
set_option linter.unusedSimpArgs false
set_option linter.unusedVariables false
open Go.RowKit Go.Lib

mutual
def rdp : AV → AV
  | .lst .clip n l => .lst .ro n (rdps l)
  | .lst f n l => .lst f n (rdps l)
  | .agg l => .agg (rdps l)
  | .tup l => .tup (rdps l)
  | .fp l => .fp (rdps l)
  | .fn f l => .fn f (rdps l)
  | .fnb f l => .fnb f (rdps l)
  | a => a
def rdps : List AV → List AV
  | [] => []
  | a :: l => rdp a :: rdps l
end
theorem plain_rdp (a : AV) (h : plain a = true) : plain (rdp a) = true := by
  cases a with
  | lst f n l => cases f <;> first | (simp [plain] at h; done) | simp [rdp, plain]
  | itr s p => simp [plain] at h
  | omp b ks vs => simp [plain] at h
  | stk e o l => simp [plain] at h
  | _ => simp [rdp, plain]
theorem plains_rdp : ∀ {l : List AV}, plains l → plains (rdps l)
  | [], _ => by intro a ha; simp [rdps] at ha
  | a :: l, h => by
    intro b hb
    simp only [rdps, List.mem_cons] at hb
    rcases hb with rfl | hb
    · exact plain_rdp a (h a (by simp))
    · exact plains_rdp (fun x hx => h x (by simp [hx])) b hb
mutual
theorem Rep.rdp {g : Gh} : ∀ {v : Value} {a : AV}, Rep g v a → Rep g v (rdp a)
  | _, _, .bool b => by simp only [Go.Proofs.Ytnmikopkjdekaaa.rdp]; exact .bool b
  | _, _, .int k n => by simp only [Go.Proofs.Ytnmikopkjdekaaa.rdp]; exact .int k n
  | _, _, .str s => by simp only [Go.Proofs.Ytnmikopkjdekaaa.rdp]; exact .str s
  | _, _, .nilp => by simp only [Go.Proofs.Ytnmikopkjdekaaa.rdp]; exact .nilp
  | _, _, .ptr id off b h => by simp only [Go.Proofs.Ytnmikopkjdekaaa.rdp]; exact .ptr id off b h
  | _, _, .fp b off vs l h hp hl => by simp only [Go.Proofs.Ytnmikopkjdekaaa.rdp]; exact .fp b off vs _ h (plains_rdp hp) (RepL.rdp hl)
  | _, _, .lst b off n c .clip vs l h hp h1 h2 hl => by simp only [Go.Proofs.Ytnmikopkjdekaaa.rdp]; exact .lst b off n c .ro vs _ h (plains_rdp hp) h1 (fun e => by cases e) (RepL.rdp hl)
  | _, _, .lst b off n c .ro vs l h hp h1 h2 hl => by simp only [Go.Proofs.Ytnmikopkjdekaaa.rdp]; exact .lst b off n c .ro vs _ h (plains_rdp hp) h1 (fun e => by cases e) (RepL.rdp hl)
  | _, _, .lst b off n c (.own e) vs l h hp h1 h2 hl => by simp only [Go.Proofs.Ytnmikopkjdekaaa.rdp]; exact .lst b off n c (.own e) vs _ h (plains_rdp hp) h1 (fun e => by cases e) (RepL.rdp hl)
  | _, _, .lst0 a c .clip h => by simp only [Go.Proofs.Ytnmikopkjdekaaa.rdp, rdps]; exact .lst0 a c .ro (fun e => by cases e)
  | _, _, .lst0 a c .ro h => by simp only [Go.Proofs.Ytnmikopkjdekaaa.rdp, rdps]; exact .lst0 a c .ro (fun e => by cases e)
  | _, _, .lst0 a c (.own e) h => by simp only [Go.Proofs.Ytnmikopkjdekaaa.rdp, rdps]; exact .lst0 a c (.own e) (fun e => by cases e)
  | _, _, .hs id b n c h h1 => by simp only [Go.Proofs.Ytnmikopkjdekaaa.rdp]; exact .hs id b n c h h1
  | _, _, .agg vs l h hp hl => by simp only [Go.Proofs.Ytnmikopkjdekaaa.rdp]; exact .agg vs _ h (plains_rdp hp) (RepL.rdp hl)
  | _, _, .tup vs l hp hl => by simp only [Go.Proofs.Ytnmikopkjdekaaa.rdp]; exact .tup vs _ (plains_rdp hp) (RepL.rdp hl)
  | _, _, .fn f vs l hp hl => by simp only [Go.Proofs.Ytnmikopkjdekaaa.rdp]; exact .fn f vs _ (plains_rdp hp) (RepL.rdp hl)
  | _, _, .fnb f vs l hp hl => by simp only [Go.Proofs.Ytnmikopkjdekaaa.rdp]; exact .fnb f vs _ (plains_rdp hp) (RepL.rdp hl)
  | _, _, .nilf => by simp only [Go.Proofs.Ytnmikopkjdekaaa.rdp]; exact .nilf
  | _, _, .opq v h h' => by simp only [Go.Proofs.Ytnmikopkjdekaaa.rdp]; exact .opq v h h'
  | _, _, .frn v Q S W0 h h' h3 h4 => by simp only [Go.Proofs.Ytnmikopkjdekaaa.rdp]; exact .frn v Q S W0 h h' h3 h4
  | _, _, .itr b s p => by simp only [Go.Proofs.Ytnmikopkjdekaaa.rdp]; exact .itr b s p
  | _, _, .omp b ks vs => by simp only [Go.Proofs.Ytnmikopkjdekaaa.rdp]; exact .omp b ks vs
  | _, _, .mp b => by simp only [Go.Proofs.Ytnmikopkjdekaaa.rdp]; exact .mp b
  | _, _, .fmp b obj ks vs h1 h2 => by simp only [Go.Proofs.Ytnmikopkjdekaaa.rdp]; exact .fmp b obj ks vs h1 h2
  | _, _, .stk a c e o l h1 h2 h3 => by simp only [Go.Proofs.Ytnmikopkjdekaaa.rdp]; exact .stk a c e o l h1 h2 h3
  | _, _, .raw a m c h1 h2 => by simp only [Go.Proofs.Ytnmikopkjdekaaa.rdp]; exact .raw a m c h1 h2
  | _, _, .rawp b i m c => by simp only [Go.Proofs.Ytnmikopkjdekaaa.rdp]; exact .rawp b i m c
theorem RepL.rdp {g : Gh} : ∀ {vs : List Value} {l : List AV}, RepL g vs l → RepL g vs (rdps l)
  | _, _, .nil => by simp only [rdps]; exact .nil
  | _, _, .cons h hl => by simp only [rdps]; exact .cons (Rep.rdp h) (RepL.rdp hl)
end
theorem ACalls.deep {P : Program} {f : FuncId} {args : List AV} {h : Hp} {R : AV → Hp → Prop} (hc : ACalls P f args h (fun a h' => R (rdp a) h')) : ACalls P f args h R :=
  ⟨hc.1, fun g w vargs h1 h2 h3 h4 => (hc.2 g w vargs h1 h2 h3 h4).mono fun _ _ ⟨x, a, h', g', q1, q2, q3, q4, q5, q6, q7⟩ => ⟨x, _, h', g', q1, q2, q3, q4, q5.rdp, plain_rdp _ q6, q7⟩⟩
theorem ACalls.argd {P : Program} {f : FuncId} {args : List AV} {h : Hp} {R : AV → Hp → Prop} (hc : ACalls P f (rdps args) h R) : ACalls P f args h R :=
  ⟨hc.1, fun g w vargs h1 h2 h3 h4 => hc.2 g w vargs h1 h2 h3.rdp (plains_rdp h4)⟩
mutual
theorem free_rdp : ∀ a : AV, free (rdp a) = free a
  | .lst .clip n l => by simp only [rdp, free, frees_rdp l]
  | .lst .ro n l => by simp only [rdp, free, frees_rdp l]
  | .lst (.own e) n l => by simp only [rdp, free, frees_rdp l]
  | .agg l => by simp only [rdp, free, frees_rdp l]
  | .tup l => by simp only [rdp, free, frees_rdp l]
  | .fp l => by simp only [rdp, free, frees_rdp l]
  | .fn f l => by simp only [rdp, free, frees_rdp l]
  | .fnb f l => by simp only [rdp, free, frees_rdp l]
  | .bool _ => by simp only [rdp]
  | .int _ _ => by simp only [rdp]
  | .str _ => by simp only [rdp]
  | .nilp => by simp only [rdp]
  | .ptr _ _ => by simp only [rdp]
  | .hs _ _ => by simp only [rdp]
  | .nilf => by simp only [rdp]
  | .opq => by simp only [rdp]
  | .frn _ => by simp only [rdp]
  | .itr _ _ => by simp only [rdp]
  | .omp _ _ _ => by simp only [rdp]
  | .mp _ => by simp only [rdp]
  | .fmp _ _ => by simp only [rdp]
  | .stk _ _ _ => by simp only [rdp]
  | .raw _ _ => by simp only [rdp]
  | .rawp _ _ => by simp only [rdp]
theorem frees_rdp : ∀ l : List AV, free.frees (rdps l) = free.frees l
  | [] => rfl
  | a :: l => by simp only [rdps, free.frees, free_rdp a, frees_rdp l]
end
theorem PCalls.argd {P : Program} {f : FuncId} {args : List AV} {v : AV} (hc : PCalls P f (rdps args) v) : PCalls P f args v :=
  ⟨by rw [← frees_rdp]; exact hc.1, hc.2.1, ACalls.argd hc.2.2⟩
theorem rdps_nil : rdps [] = [] := by simp only [rdps]
theorem rdps_cons (a : AV) (l : List AV) : rdps (a :: l) = rdp a :: rdps l := by simp only [rdps]
theorem rdp_bool (b : Bool) : rdp (.bool b) = .bool b := by simp only [rdp]
theorem rdp_int (k : IntKind) (n : Int) : rdp (.int k n) = .int k n := by simp only [rdp]
theorem rdp_str (s : ByteArray) : rdp (.str s) = .str s := by simp only [rdp]
theorem rdp_nilp : rdp .nilp = .nilp := by simp only [rdp]
theorem rdp_hs (i n : Nat) : rdp (.hs i n) = .hs i n := by simp only [rdp]
theorem rdp_ptr (i n : Nat) : rdp (.ptr i n) = .ptr i n := by simp only [rdp]
theorem rdp_ro (n : Nat) (l : List AV) : rdp (.lst .ro n l) = .lst .ro n (rdps l) := by simp only [rdp]
theorem rdp_clip (n : Nat) (l : List AV) : rdp (.lst .clip n l) = .lst .ro n (rdps l) := by simp only [rdp]
theorem rdp_agg (l : List AV) : rdp (.agg l) = .agg (rdps l) := by simp only [rdp]
theorem rdp_tup (l : List AV) : rdp (.tup l) = .tup (rdps l) := by simp only [rdp]
theorem rdps_str : ∀ l : List ByteArray, rdps (l.map .str) = l.map .str
  | [] => rdps_nil
  | a :: l => by simp only [List.map_cons, rdps_cons, rdp_str, rdps_str l]
theorem rdpw : type_of% (And.intro @rdps_nil (And.intro @rdps_cons (And.intro @rdp_bool (And.intro @rdp_int (And.intro @rdp_str (And.intro @rdp_nilp (And.intro @rdp_hs (And.intro @rdp_ptr (And.intro @rdp_ro (And.intro @rdp_clip (And.intro @rdp_agg (And.intro @rdp_tup @rdps_str)))))))))))) :=
  And.intro @rdps_nil (And.intro @rdps_cons (And.intro @rdp_bool (And.intro @rdp_int (And.intro @rdp_str (And.intro @rdp_nilp (And.intro @rdp_hs (And.intro @rdp_ptr (And.intro @rdp_ro (And.intro @rdp_clip (And.intro @rdp_agg (And.intro @rdp_tup @rdps_str)))))))))))
end Go.Proofs.Ytnmikopkjdekaaa

/- Models: relations as bits: plain. -/
namespace Go.Proofs.Ytnmikopkjdekaaa
set_option linter.unusedSimpArgs false
set_option linter.unusedVariables false
open Go.RowKit Go.Lib

def bt (a : UInt8) (j : Nat) : Bool := a.toBitVec.getLsbD j
def bitR (r : Rl) (i j : Nat) : Bool := bt (r.getD i 0) j
theorem bt_test (a : UInt8) (j : Nat) : a.toNat.testBit j = bt a j := rfl
theorem bt_or (a b : UInt8) (j : Nat) : bt (a ||| b) j = (bt a j || bt b j) := by simp [bt]
theorem bt_zero (j : Nat) : bt 0 j = false := by simp [bt]
theorem bt_sub (a b : UInt8) : (a &&& ~~~b = 0) ↔ ∀ j, bt a j = true → bt b j = true := by
  constructor
  · intro h j ha
    have := congrArg (fun x : UInt8 => bt x j) h
    simp only [bt_zero] at this
    have hj : j < 8 := by
      rcases Nat.lt_or_ge j 8 with h | h
      · exact h
      · simp only [bt] at ha; rw [BitVec.getLsbD_of_ge _ _ h] at ha; cases ha
    simp only [bt, UInt8.toBitVec_and, UInt8.toBitVec_not, BitVec.getLsbD_and, BitVec.getLsbD_not, hj, decide_true, Bool.true_and] at this ha ⊢
    rw [ha] at this
    simpa using this
  · intro h
    apply UInt8.toBitVec_inj.1
    apply BitVec.eq_of_getLsbD_eq
    intro j hj
    simp only [UInt8.toBitVec_and, UInt8.toBitVec_not, BitVec.getLsbD_and, BitVec.getLsbD_not, hj, decide_true, Bool.true_and]
    have := h j
    simp only [bt] at this
    cases ha : a.toBitVec.getLsbD j with
    | false => simp
    | true => rw [this ha]; simp
theorem within_iff (r s : Rl) : withinR r s = true ↔ ∀ i, i < 8 → ∀ j, bitR r i j = true → bitR s i j = true := by
  simp only [withinR, List.all_eq_true, List.mem_range, decide_eq_true_eq, bt_sub, bitR]
theorem bit_orR {r s : Rl} (hr : r.length = 8) (hs : s.length = 8) {i : Nat} (hi : i < 8) (j : Nat) : bitR (orR r s) i j = (bitR r i j || bitR s i j) := by
  have : (orR r s).getD i 0 = r.getD i 0 ||| s.getD i 0 := by
    simp only [List.getD_eq_getElem?_getD, orR]
    rw [List.getElem?_eq_getElem (by simp [hr, hs]; omega), List.getElem?_eq_getElem (by omega : i < r.length), List.getElem?_eq_getElem (by omega : i < s.length)]
    simp
  simp only [bitR, this, bt_or]
theorem bit_setN (l : List Row) (s : List ByteArray) {i : Nat} (hi : i < 8) (j : Nat) : bitR (setN l s) i j = true ↔ ∃ w ∈ s, bitR (wordR l w) i j = true := by
  have key : ∀ (s : List ByteArray) (z : Rl), z.length = 8 → (bitR (s.foldl (fun r w => orR r (wordR l w)) z) i j = true ↔ bitR z i j = true ∨ ∃ w ∈ s, bitR (wordR l w) i j = true) := by
    intro s
    induction s with
    | nil => intro z hz; simp
    | cons x s ih =>
      intro z hz
      simp only [List.foldl_cons]
      rw [ih _ (orR_length _ _ hz (wordR_length _ _)), bit_orR hz (wordR_length _ _) hi]
      simp only [Bool.or_eq_true, List.mem_cons, exists_eq_or_imp]
      exact or_assoc
  have h0 : bitR zR i j = false := by
    have : zR.getD i 0 = 0 := by
      have hz : zR = List.replicate 8 0 := rfl
      rw [hz, List.getD_eq_getElem?_getD, List.getElem?_replicate]; simp [hi]
    simp only [bitR, this, bt_zero]
  rw [setN, key s zR rfl, h0]
  simp
theorem bit_thenB (b : UInt8) (s : Rl) (k : Nat) : ∀ n, bt (thenB b s n) k = true ↔ ∃ j, j < n ∧ bt b j = true ∧ bitR s j k = true
  | 0 => by simp [thenB, bt_zero]
  | n + 1 => by
    rw [thenB_succ, bt_test]
    have ih := bit_thenB b s k n
    constructor
    · intro h
      by_cases hb : bt b n = true
      · rw [if_pos hb, bt_or, Bool.or_eq_true] at h
        rcases h with h | h
        · obtain ⟨j, h1, h2⟩ := ih.1 h; exact ⟨j, by omega, h2⟩
        · exact ⟨n, by omega, hb, h⟩
      · rw [if_neg hb] at h
        obtain ⟨j, h1, h2⟩ := ih.1 h; exact ⟨j, by omega, h2⟩
    · rintro ⟨j, h1, h2, h3⟩
      rcases Nat.lt_succ_iff_lt_or_eq.1 h1 with h | rfl
      · have := ih.2 ⟨j, h, h2, h3⟩
        split
        · rw [bt_or, this]; rfl
        · exact this
      · rw [if_pos h2, bt_or, Bool.or_eq_true]; exact .inr h3
theorem bit_thenR {r : Rl} (hr : r.length = 8) (s : Rl) {i : Nat} (hi : i < 8) (k : Nat) : bitR (thenR r s) i k = true ↔ ∃ j, j < 8 ∧ bitR r i j = true ∧ bitR s j k = true := by
  have : (thenR r s).getD i 0 = thenB (r.getD i 0) s 8 := by
    simp only [List.getD_eq_getElem?_getD, thenR, List.getElem?_map]
    rw [List.getElem?_eq_getElem (by omega : i < r.length)]
    rfl
  simp only [bitR, this]
  exact bit_thenB _ _ _ _
theorem rl_ext {r s : Rl} (hr : r.length = 8) (hs : s.length = 8) (h : ∀ i, i < 8 → ∀ j, bitR r i j = bitR s i j) : r = s := by
  apply List.ext_getElem (by omega)
  intro i h1 h2
  apply UInt8.toBitVec_inj.1
  apply BitVec.eq_of_getLsbD_eq
  intro j hj
  have := h i (by omega) j
  simp only [bitR, bt, List.getD_eq_getElem?_getD, List.getElem?_eq_getElem h1, List.getElem?_eq_getElem h2, Option.getD_some] at this
  exact this
end Go.Proofs.Ytnmikopkjdekaaa

/- Models: a word behind a word leads where one leads behind the other: plain. -/
namespace Go.Proofs.Ytnmikopkjdekaaa
set_option linter.unusedSimpArgs false
set_option linter.unusedVariables false
open Go.RowKit Go.Lib

theorem thenR_length (r s : Rl) : (thenR r s).length = r.length := by simp [thenR]
theorem thenR_assoc {r s : Rl} (t : Rl) (hr : r.length = 8) (hs : s.length = 8) : thenR (thenR r s) t = thenR r (thenR s t) := by
  have h1 : (thenR r s).length = 8 := by rw [thenR_length, hr]
  refine rl_ext (by rw [thenR_length, h1]) (by rw [thenR_length, hr]) fun i hi k => ?_
  rw [Bool.eq_iff_iff, bit_thenR h1 t hi, bit_thenR hr _ hi]
  constructor
  · rintro ⟨j, hj, h2, h3⟩
    obtain ⟨q, hq, h4, h5⟩ := (bit_thenR hr s hi j).1 h2
    exact ⟨q, hq, h4, (bit_thenR hs t hq k).2 ⟨j, hj, h5, h3⟩⟩
  · rintro ⟨q, hq, h4, h5⟩
    obtain ⟨j, hj, h6, h3⟩ := (bit_thenR hs t hq k).1 h5
    exact ⟨j, hj, (bit_thenR hr s hi j).2 ⟨q, hq, h4, h6⟩, h3⟩
theorem atom_left (a b : ByteArray) {i : Nat} (h : 2 * i + 1 < a.size) : atomAt (a ++ b) i = atomAt a i := atomAt_app_left h
theorem atom_right (a b : ByteArray) {i : Nat} (ha : a.size % 2 = 0) : atomAt (a ++ b) (a.size / 2 + i) = atomAt b i := by
  by_cases h2 : 2 * i + 1 < b.size
  · rw [atomAt_app_right ha (by omega) (by rw [ByteArray.size_append]; omega)]
    congr 1; omega
  · unfold atomAt
    rw [dif_neg (by rw [ByteArray.size_append]; omega), dif_neg h2]
theorem wordN_left (l : List Row) (a b : ByteArray) : ∀ k, 2 * k + 1 < a.size → wordN l (a ++ b) k = wordN l a k
  | 0, h => by simp only [wordN]; rw [atom_left a b h]
  | k + 1, h => by simp only [wordN]; rw [wordN_left l a b k (by omega), atom_left a b h]
theorem wordN_right (l : List Row) (a b : ByteArray) (ha : a.size % 2 = 0) (h1 : 2 ≤ a.size) : ∀ k, wordN l (a ++ b) (a.size / 2 + k) = thenR (wordR l a) (wordN l b k)
  | 0 => by
    rw [show a.size / 2 + 0 = (a.size / 2 - 1) + 1 by omega]
    simp only [wordN]
    rw [wordN_left l a b _ (by omega), show a.size / 2 - 1 + 1 = a.size / 2 + 0 by omega, atom_right a b ha]
    rfl
  | k + 1 => by
    rw [show a.size / 2 + (k + 1) = (a.size / 2 + k) + 1 by omega]
    simp only [wordN]
    rw [wordN_right l a b ha h1 k, show a.size / 2 + k + 1 = a.size / 2 + (k + 1) by omega, atom_right a b ha, thenR_assoc _ (wordR_length _ _) (wordN_length _ _ _)]
theorem wordR_app (l : List Row) (a b : ByteArray) (ha : a.size % 2 = 0) (h1 : 2 ≤ a.size) (hb : b.size % 2 = 0) (h2 : 2 ≤ b.size) : wordR l (a ++ b) = thenR (wordR l a) (wordR l b) := by
  unfold wordR
  rw [show (a ++ b).size / 2 - 1 = a.size / 2 + (b.size / 2 - 1) by rw [ByteArray.size_append]; omega]
  exact wordN_right l a b ha h1 _
end Go.Proofs.Ytnmikopkjdekaaa

/- The document's relations: eight by eight truth values, over the abstract code: bit, Within, bytes. -/
-- fast
namespace Go.Proofs.Ytnmikopkjdekaaa
set_option linter.unusedSimpArgs false
set_option linter.unusedVariables false
open Go.RowKit Go.Lib

def tb (f : Nat → Nat → Bool) : List AV := (List.range 64).map fun i => .bool (f (i / 8) (i % 8))
theorem tb_len (f : Nat → Nat → Bool) : (tb f).length = 64 := by simp [tb]
theorem tb_deg (f : Nat → Nat → Bool) : (tb f).map deg = tb f := by simp [tb, deg]
theorem tb_take (f : Nat → Nat → Bool) : (tb f).take 64 = tb f := List.take_of_length_le (by simp [tb_len])
theorem tb_splice (f g : Nat → Nat → Bool) : splice (tb f) 0 (tb g) = tb g := splice_all _ _ (by simp [tb_len])
theorem tb_drop (f : Nat → Nat → Bool) {x y : Nat} (hx : x < 8) (hy : y < 8) : (tb f).drop (x * 8 + y) = .bool (f x y) :: (tb f).drop (x * 8 + y + 1) := by
  rw [List.drop_eq_getElem_cons (by rw [tb_len]; omega)]
  congr 1
  simp only [tb, List.getElem_map, List.getElem_range]
  rw [show (x * 8 + y) / 8 = x by omega, show (x * 8 + y) % 8 = y by omega]
def upd (f : Nat → Nat → Bool) (x y : Nat) (b : Bool) : Nat → Nat → Bool := fun i j => if i = x ∧ j = y then b else f i j
theorem tb_set (f : Nat → Nat → Bool) {x y : Nat} (hx : x < 8) (hy : y < 8) (b : Bool) : (tb f).set (x * 8 + y) (.bool b) = tb (upd f x y b) := by
  apply List.ext_getElem (by simp [tb_len])
  intro n h1 h2
  have hn : n < 64 := by rw [tb_len] at h2; exact h2
  rw [List.getElem_set]
  simp only [tb, List.getElem_map, List.getElem_range, upd]
  by_cases h : x * 8 + y = n
  · rw [if_pos h, if_pos (by omega)]
  · rw [if_neg h, if_neg (by omega)]
theorem tb_congr {f g : Nat → Nat → Bool} (h : ∀ x, x < 8 → ∀ y, y < 8 → f x y = g x y) : tb f = tb g := by
  simp only [tb]
  apply List.map_congr_left
  intro n hn
  have hn : n < 64 := by simpa using hn
  rw [h (n / 8) (by omega) (n % 8) (by omega)]
theorem frees_tb (f : Nat → Nat → Bool) : free.frees (tb f) = true := by
  have key : ∀ l : List Nat, free.frees (l.map fun i => AV.bool (f (i / 8) (i % 8))) = true := by
    intro l
    induction l with
    | nil => rfl
    | cons a l ih => simp only [List.map_cons, free.frees, free, Bool.true_and]; exact ih
  exact key _
def zB : Nat → Nat → Bool := fun _ _ => false
theorem tb_lit : [AV.bool false, .bool false, .bool false, .bool false, .bool false, .bool false, .bool false, .bool false, .bool false, .bool false, .bool false, .bool false, .bool false, .bool false, .bool false, .bool false, .bool false, .bool false, .bool false, .bool false, .bool false, .bool false, .bool false, .bool false, .bool false, .bool false, .bool false, .bool false, .bool false, .bool false, .bool false, .bool false, .bool false, .bool false, .bool false, .bool false, .bool false, .bool false, .bool false, .bool false, .bool false, .bool false, .bool false, .bool false, .bool false, .bool false, .bool false, .bool false, .bool false, .bool false, .bool false, .bool false, .bool false, .bool false, .bool false, .bool false, .bool false, .bool false, .bool false, .bool false, .bool false, .bool false, .bool false, .bool false] = tb zB := rfl
def rbV (r : Rl) : AV := .agg (tb (bitR r))
theorem free_rbV (r : Rl) : free (rbV r) = true := by simp [rbV, free, frees_tb]
theorem bt_big (b : UInt8) {j : Nat} (h : 8 ≤ j) : bt b j = false := by
  simp only [bt]; exact BitVec.getLsbD_of_ge _ _ h
theorem half_eq (n : Nat) : ((n : Int).tdiv 2) = ((n / 2 : Nat) : Int) := by
  rw [Int.tdiv_eq_ediv_of_nonneg (by omega)]; omega
theorem odd_eq (n : Nat) : ((n : Int).tmod 2) = ((n % 2 : Nat) : Int) := by
  rw [Int.tmod_eq_emod_of_nonneg (by omega)]; omega
set_option maxRecDepth 100000 in
set_option maxHeartbeats 4000000 in
theorem p_bit14 (b : UInt8) (j : Nat) (hj : j ≤ 8) : PCalls Try.prog 30 [u8 b, .int .i64 j] (.bool (bt b j)) := by
  have hb := b.toNat_lt
  refine pcalls_of (by simp [free.frees, free, u8]) rfl (acalls_of mixed J_ref14_bit_ok (Nat.le_of_ble_eq_true rfl) ?_); simp only [J_ref14_bit, u8, wk,if_true,if_false,forall_const,implies_true,ne_eq,eq_self,Nat.reduceEqDiff,Nat.reduceAdd,Nat.reduceMul,Nat.reduceSub,Nat.reduceLeDiff,Nat.reduceLT,Int.reduceEq,Int.reduceLT,Int.reduceLE,Int.reduceAdd,Int.reduceSub,Int.reduceMul,Int.reduceNeg,Int.reduceNe,reduceCtorEq,Int.reduceToNat,↓reduceIte]
  refine W_loop (fun n fr h => ∃ i q : Nat, i ≤ j ∧ n = j - i ∧ q = b.toNat / 2 ^ i ∧ fr = [(1, .int .i64 j), (5, .int .i64 q), (6, .int .i64 i)]) j ⟨0, b.toNat, by omega, by omega, by simp, ?_⟩ ?_
  · have : IntKind.i64.wrap (b.toNat : Int) = b.toNat := by
      simp only [IntKind.wrap, IntKind.bits, IntKind.signed]
      have : (b.toNat : Int) < 256 := by omega
      simp
      omega
    simp only [this]
    rfl
  rintro n fr h' ⟨i, q, hi, rfl, hq, rfl⟩
  simp only [J_ref14_bit_j2, wk,if_true,if_false,forall_const,implies_true,ne_eq,eq_self,Nat.reduceEqDiff,Nat.reduceAdd,Nat.reduceMul,Nat.reduceSub,Nat.reduceLeDiff,Nat.reduceLT,Int.reduceEq,Int.reduceLT,Int.reduceLE,Int.reduceAdd,Int.reduceSub,Int.reduceMul,Int.reduceNeg,Int.reduceNe,reduceCtorEq,Int.reduceToNat,↓reduceIte]
  have hd : q ≤ b.toNat := by rw [hq]; exact Nat.div_le_self _ _
  refine ⟨fun hlt => ?_, fun hge => ?_⟩
  · have e : b.toNat / 2 ^ (i + 1) = b.toNat / 2 ^ i / 2 := by rw [Nat.pow_succ, Nat.div_div_eq_div_mul]
    simp only [half_eq, wk,if_true,if_false,forall_const,implies_true,ne_eq,eq_self,Nat.reduceEqDiff,Nat.reduceAdd,Nat.reduceMul,Nat.reduceSub,Nat.reduceLeDiff,Nat.reduceLT,Int.reduceEq,Int.reduceLT,Int.reduceLE,Int.reduceAdd,Int.reduceSub,Int.reduceMul,Int.reduceNeg,Int.reduceNe,reduceCtorEq,Int.reduceToNat,↓reduceIte]
    exact ⟨inR_of (by omega) (by omega), inR_of (by omega) (by omega), j - (i + 1), by omega, i + 1, q / 2, by omega, rfl, by rw [e, hq], by simp⟩
  · obtain rfl : i = j := by omega
    simp only [J_ref14_bit_j1, odd_eq, wk,if_true,if_false,forall_const,implies_true,ne_eq,eq_self,Nat.reduceEqDiff,Nat.reduceAdd,Nat.reduceMul,Nat.reduceSub,Nat.reduceLeDiff,Nat.reduceLT,Int.reduceEq,Int.reduceLT,Int.reduceLE,Int.reduceAdd,Int.reduceSub,Int.reduceMul,Int.reduceNeg,Int.reduceNe,reduceCtorEq,Int.reduceToNat,↓reduceIte]
    refine boolE ?_
    rw [← bt_test, Nat.testBit_eq_decide_div_mod_eq, ← hq]
    rw [Bool.eq_iff_iff]; simp only [decide_eq_true_eq]; omega
theorem subB_no {f g : Nat → Nat → Bool} {x y : Nat} (hx : x < 8) (hy : y < 8) (h1 : f x y = true) (h2 : g x y = false) : (List.range 8).all (fun i => (List.range 8).all fun j => !f i j || g i j) = false := by
  rw [List.all_eq_false]
  refine ⟨x, by simpa using hx, ?_⟩
  rw [Bool.not_eq_true, List.all_eq_false]
  exact ⟨y, by simpa using hy, by simp [h1, h2]⟩
def subB (f g : Nat → Nat → Bool) : Bool := (List.range 8).all fun i => (List.range 8).all fun j => !f i j || g i j
theorem subB_iff {f g : Nat → Nat → Bool} : subB f g = true ↔ ∀ i, i < 8 → ∀ j, j < 8 → f i j = true → g i j = true := by
  simp only [subB, List.all_eq_true, List.mem_range, Bool.or_eq_true, Bool.not_eq_true']
  constructor
  · intro h i hi j hj hf
    rcases h i hi j hj with h | h
    · rw [hf] at h; cases h
    · exact h
  · intro h i hi j hj
    cases hf : f i j
    · exact .inl rfl
    · exact .inr (h i hi j hj hf)
theorem subB_within (r s : Rl) : subB (bitR r) (bitR s) = withinR r s := by
  rw [Bool.eq_iff_iff, subB_iff, within_iff]
  constructor
  · intro h i hi j hb
    rcases Nat.lt_or_ge j 8 with hj | hj
    · exact h i hi j hj hb
    · rw [show bitR r i j = false from bt_big _ hj] at hb; cases hb
  · exact fun h i hi j _ => h i hi j
set_option maxRecDepth 100000 in
set_option maxHeartbeats 8000000 in
theorem p_within14 (r s : Rl) : PCalls Try.prog 42 [rbV r, rbV s] (.bool (withinR r s)) := by
  rw [← subB_within]
  generalize hf : bitR r = f
  generalize hg : bitR s = g
  refine pcalls_of (by simp [free.frees, free_rbV]) rfl (acalls_of mixed J_ref14_Within_ok (Nat.le_of_ble_eq_true rfl) ?_); simp only [J_ref14_Within, rbV, hf, hg, tb_len, wk,if_true,if_false,forall_const,implies_true,ne_eq,eq_self,Nat.reduceEqDiff,Nat.reduceAdd,Nat.reduceMul,Nat.reduceSub,Nat.reduceLeDiff,Nat.reduceLT,Int.reduceEq,Int.reduceLT,Int.reduceLE,Int.reduceAdd,Int.reduceSub,Int.reduceMul,Int.reduceNeg,Int.reduceNe,reduceCtorEq,Int.reduceToNat,↓reduceIte]
  clear hf hg
  refine W_loop (fun n fr h => ∃ x : Nat, x ≤ 8 ∧ n = 8 - x ∧ (∀ i, i < x → ∀ j, j < 8 → f i j = true → g i j = true) ∧ fr = [(2, .ptr 0 0), (3, .ptr 1 0), (5, .int .i64 x)] ∧ h = [some (false, tb f), some (false, tb g)]) 8 ⟨0, by omega, by omega, by simp, rfl, rfl⟩ ?_
  rintro n fr h' ⟨x, hx, rfl, hall, rfl, rfl⟩
  simp only [J_ref14_Within_j4, wk,if_true,if_false,forall_const,implies_true,ne_eq,eq_self,Nat.reduceEqDiff,Nat.reduceAdd,Nat.reduceMul,Nat.reduceSub,Nat.reduceLeDiff,Nat.reduceLT,Int.reduceEq,Int.reduceLT,Int.reduceLE,Int.reduceAdd,Int.reduceSub,Int.reduceMul,Int.reduceNeg,Int.reduceNe,reduceCtorEq,Int.reduceToNat,↓reduceIte]
  refine ⟨fun hlt => ?_, fun hge => ?_⟩
  · have hxl : x < 8 := by omega
    refine W_loop (fun n fr h => ∃ y : Nat, y ≤ 8 ∧ n = 8 - y ∧ (∀ j, j < y → f x j = true → g x j = true) ∧ fr = [(2, .ptr 0 0), (3, .ptr 1 0), (5, .int .i64 x), (6, .int .i64 y)] ∧ h = [some (false, tb f), some (false, tb g)]) 8 ⟨0, by omega, by omega, by simp, rfl, rfl⟩ ?_
    rintro n fr h' ⟨y, hy, rfl, hally, rfl, rfl⟩
    simp only [J_ref14_Within_j3, wk,if_true,if_false,forall_const,implies_true,ne_eq,eq_self,Nat.reduceEqDiff,Nat.reduceAdd,Nat.reduceMul,Nat.reduceSub,Nat.reduceLeDiff,Nat.reduceLT,Int.reduceEq,Int.reduceLT,Int.reduceLE,Int.reduceAdd,Int.reduceSub,Int.reduceMul,Int.reduceNeg,Int.reduceNe,reduceCtorEq,Int.reduceToNat,↓reduceIte]
    refine ⟨fun hlt => ?_, fun hge => ?_⟩
    · have hyl : y < 8 := by omega
      have hxn : ((0 ≤ (x : Int)) ∧ (x : Int) < ((8 : Nat) : Int)) = True := by simp; omega
      have hyn : ((0 ≤ (y : Int)) ∧ (y : Int) < ((8 : Nat) : Int)) = True := by simp; omega
      have hd1 := tb_drop f hxl hyl
      have hd2 := tb_drop g hxl hyl
      cases h1 : f x y with
      | false =>
        rw [h1] at hd1
        simp only [idpF, hxn, hyn, Int.toNat_natCast, hd1, hd2, wk,if_true,if_false,forall_const,implies_true,ne_eq,eq_self,Nat.reduceEqDiff,Nat.reduceAdd,Nat.reduceMul,Nat.reduceSub,Nat.reduceLeDiff,Nat.reduceLT,Int.reduceEq,Int.reduceLT,Int.reduceLE,Int.reduceAdd,Int.reduceSub,Int.reduceMul,Int.reduceNeg,Int.reduceNe,reduceCtorEq,Int.reduceToNat,↓reduceIte]
        refine ⟨inR_of (by omega) (by omega), 8 - (y + 1), by omega, y + 1, by omega, rfl, fun j hj => ?_, by simp⟩
        rcases Nat.lt_succ_iff_lt_or_eq.1 hj with h | rfl
        · exact hally j h
        · intro h; rw [h1] at h; cases h
      | true =>
        cases h2 : g x y with
        | false =>
          rw [h1] at hd1
          rw [h2] at hd2
          simp only [idpF, hxn, hyn, Int.toNat_natCast, hd1, hd2, wk,if_true,if_false,forall_const,implies_true,ne_eq,eq_self,Nat.reduceEqDiff,Nat.reduceAdd,Nat.reduceMul,Nat.reduceSub,Nat.reduceLeDiff,Nat.reduceLT,Int.reduceEq,Int.reduceLT,Int.reduceLE,Int.reduceAdd,Int.reduceSub,Int.reduceMul,Int.reduceNeg,Int.reduceNe,reduceCtorEq,Int.reduceToNat,↓reduceIte]
          exact boolE (subB_no hxl hyl h1 h2).symm
        | true =>
          rw [h1] at hd1
          rw [h2] at hd2
          simp only [idpF, hxn, hyn, Int.toNat_natCast, hd1, hd2, wk,if_true,if_false,forall_const,implies_true,ne_eq,eq_self,Nat.reduceEqDiff,Nat.reduceAdd,Nat.reduceMul,Nat.reduceSub,Nat.reduceLeDiff,Nat.reduceLT,Int.reduceEq,Int.reduceLT,Int.reduceLE,Int.reduceAdd,Int.reduceSub,Int.reduceMul,Int.reduceNeg,Int.reduceNe,reduceCtorEq,Int.reduceToNat,↓reduceIte]
          refine ⟨inR_of (by omega) (by omega), 8 - (y + 1), by omega, y + 1, by omega, rfl, fun j hj => ?_, by simp⟩
          rcases Nat.lt_succ_iff_lt_or_eq.1 hj with h | rfl
          · exact hally j h
          · intro _; exact h2
    · obtain rfl : y = 8 := by omega
      simp only [J_ref14_Within_j2, wk,if_true,if_false,forall_const,implies_true,ne_eq,eq_self,Nat.reduceEqDiff,Nat.reduceAdd,Nat.reduceMul,Nat.reduceSub,Nat.reduceLeDiff,Nat.reduceLT,Int.reduceEq,Int.reduceLT,Int.reduceLE,Int.reduceAdd,Int.reduceSub,Int.reduceMul,Int.reduceNeg,Int.reduceNe,reduceCtorEq,Int.reduceToNat,↓reduceIte]
      refine ⟨inR_of (by omega) (by omega), 8 - (x + 1), by omega, x + 1, by omega, rfl, fun i hi => ?_, by simp⟩
      rcases Nat.lt_succ_iff_lt_or_eq.1 hi with h | rfl
      · exact hall i h
      · exact hally
  · obtain rfl : x = 8 := by omega
    simp only [J_ref14_Within_j1, wk,if_true,if_false,forall_const,implies_true,ne_eq,eq_self,Nat.reduceEqDiff,Nat.reduceAdd,Nat.reduceMul,Nat.reduceSub,Nat.reduceLeDiff,Nat.reduceLT,Int.reduceEq,Int.reduceLT,Int.reduceLE,Int.reduceAdd,Int.reduceSub,Int.reduceMul,Int.reduceNeg,Int.reduceNe,reduceCtorEq,Int.reduceToNat,↓reduceIte]
    exact boolE (subB_iff.2 hall).symm
end Go.Proofs.Ytnmikopkjdekaaa

/- The document's May, Atom and bytes, over the abstract code. -/
-- fast
namespace Go.Proofs.Ytnmikopkjdekaaa
set_option linter.unusedSimpArgs false
set_option linter.unusedVariables false
open Go.RowKit Go.Lib

theorem high_bits (b : UInt8) (n : Nat) : b.toNat / 2 ^ n = 0 ↔ ∀ j, n ≤ j → j < 8 → bt b j = false := by
  rw [Nat.div_eq_zero_iff_lt (Nat.pos_of_ne_zero (by simp))]
  constructor
  · intro h j hj _
    rw [← bt_test]
    exact Nat.testBit_lt_two_pow (Nat.lt_of_lt_of_le h (Nat.pow_le_pow_right (by omega) hj))
  · intro h
    apply Nat.lt_pow_two_of_testBit
    intro j hj
    rw [bt_test]
    rcases Nat.lt_or_ge j 8 with h8 | h8
    · exact h j hj h8
    · exact bt_big b h8
theorem mdMay_row {m : Mdl} (h : mdMay m = true) : ∀ x ∈ m.rows, (x.to.length : Int) = m.n ∧ ∀ b ∈ x.to, b.toNat / 2 ^ m.n.toNat = 0 := by
  simp only [mdMay, Bool.and_eq_true, decide_eq_true_eq, List.all_eq_true] at h
  exact h.2
set_option maxRecDepth 100000 in
set_option maxHeartbeats 8000000 in
theorem p_may14 (m : Mdl) (hl : m.rows.length ≤ 1000) (hs : ∀ x ∈ m.rows, smallW x) : PCalls Try.prog 13 [mdV m] (.bool (mdMay m)) := by
  refine pcalls_of (by simp [free.frees, free_mdV]) rfl (acalls_of mixed J_ref14_May_ok (Nat.le_of_ble_eq_true rfl) ?_); simp only [J_ref14_May, mdV, wk,if_true,if_false,forall_const,implies_true,ne_eq,eq_self,Nat.reduceEqDiff,Nat.reduceAdd,Nat.reduceMul,Nat.reduceSub,Nat.reduceLeDiff,Nat.reduceLT,Int.reduceEq,Int.reduceLT,Int.reduceLE,Int.reduceAdd,Int.reduceSub,Int.reduceMul,Int.reduceNeg,Int.reduceNe,reduceCtorEq,Int.reduceToNat,↓reduceIte]
  have bad : ¬ (1 ≤ m.n ∧ m.n ≤ 8) → mdMay m = false := fun h => by simp [mdMay, h]
  have badx : ∀ x ∈ m.rows, (¬ ((x.to.length : Int) = m.n ∧ ∀ b ∈ x.to, b.toNat / 2 ^ m.n.toNat = 0)) → mdMay m = false := fun x hmem h => by
    cases hb : mdMay m with
    | false => rfl
    | true => exact absurd (mdMay_row hb x hmem) h
  refine ⟨fun h1 => ⟨fun h2 => boolE (bad (by omega)).symm, fun h2 => ?_⟩, fun h1 => boolE (bad (by omega)).symm⟩
  refine W_loop (fun n fr h => ∃ i : Nat, i ≤ m.rows.length ∧ n = m.rows.length - i ∧ (∀ x ∈ m.rows.take i, (x.to.length : Int) = m.n ∧ ∀ b ∈ x.to, b.toNat / 2 ^ m.n.toNat = 0) ∧ fr = [(1, .ptr 0 0), (3, .int .i64 i)] ∧ h = [some (false, [.int .i64 m.n, .lst .ro m.rows.length (rowsC m.rows)])]) m.rows.length ⟨0, by omega, by omega, by simp, rfl, rfl⟩ ?_
  rintro n fr h' ⟨i, hi, rfl, hall, rfl, rfl⟩
  simp only [J_ref14_May_j6, wk,if_true,if_false,forall_const,implies_true,ne_eq,eq_self,Nat.reduceEqDiff,Nat.reduceAdd,Nat.reduceMul,Nat.reduceSub,Nat.reduceLeDiff,Nat.reduceLT,Int.reduceEq,Int.reduceLT,Int.reduceLE,Int.reduceAdd,Int.reduceSub,Int.reduceMul,Int.reduceNeg,Int.reduceNe,reduceCtorEq,Int.reduceToNat,↓reduceIte]
  refine ⟨fun hlt => ?_, fun hge => ?_⟩
  · have hil : i < m.rows.length := by omega
    have hin : ((0 ≤ (i : Int)) ∧ (i : Int) < (m.rows.length : Int)) = True := by simp; omega
    have hd := rowsC_at hil
    have hmem := List.getElem_mem hil
    generalize hx : m.rows[i] = x at hmem hd
    simp only [rowC, kA, List.cons_append, List.nil_append] at hd
    simp only [hin, Int.toNat_natCast, hd, wk,if_true,if_false,forall_const,implies_true,ne_eq,eq_self,Nat.reduceEqDiff,Nat.reduceAdd,Nat.reduceMul,Nat.reduceSub,Nat.reduceLeDiff,Nat.reduceLT,Int.reduceEq,Int.reduceLT,Int.reduceLE,Int.reduceAdd,Int.reduceSub,Int.reduceMul,Int.reduceNeg,Int.reduceNe,reduceCtorEq,Int.reduceToNat,↓reduceIte]
    refine ⟨fun hne => boolE (badx x hmem (fun h => hne h.1)).symm, fun he => ?_⟩
    refine W_loop (fun n fr h => ∃ k : Nat, k ≤ x.to.length ∧ n = x.to.length - k ∧ (∀ b ∈ x.to.take k, b.toNat / 2 ^ m.n.toNat = 0) ∧ fr = [(1, .ptr 0 0), (3, .int .i64 i), (4, .int .i64 k)] ∧ h = [some (false, [.int .i64 m.n, .lst .ro m.rows.length (rowsC m.rows)])]) x.to.length ⟨0, by omega, by omega, by simp, rfl, rfl⟩ ?_
    rintro n fr h' ⟨k, hk, rfl, hallk, rfl, rfl⟩
    simp only [J_ref14_May_j5, wk,if_true,if_false,forall_const,implies_true,ne_eq,eq_self,Nat.reduceEqDiff,Nat.reduceAdd,Nat.reduceMul,Nat.reduceSub,Nat.reduceLeDiff,Nat.reduceLT,Int.reduceEq,Int.reduceLT,Int.reduceLE,Int.reduceAdd,Int.reduceSub,Int.reduceMul,Int.reduceNeg,Int.reduceNe,reduceCtorEq,Int.reduceToNat,↓reduceIte]
    refine ⟨fun hlt => ?_, fun hge => ?_⟩
    · have hkl : k < x.to.length := by omega
      have hkn : ((0 ≤ (k : Int)) ∧ (k : Int) < (x.to.length : Int)) = True := by simp; omega
      have hd2 := rlC_drop hkl
      refine W_loop (fun n fr h => ∃ j : Nat, m.n.toNat ≤ j ∧ j ≤ 8 ∧ n = 8 - j ∧ (∀ q, m.n.toNat ≤ q → q < j → bt x.to[k] q = false) ∧ fr = [(1, .ptr 0 0), (3, .int .i64 i), (4, .int .i64 k), (5, .int .i64 j)] ∧ h = [some (false, [.int .i64 m.n, .lst .ro m.rows.length (rowsC m.rows)])]) (8 - m.n.toNat) ⟨m.n.toNat, by omega, by omega, by omega, fun q h1 h2 => by omega, by rw [show ((m.n.toNat : Nat) : Int) = m.n by omega]; rfl, rfl⟩ ?_
      rintro n fr h' ⟨j, hj0, hj, rfl, hallj, rfl, rfl⟩
      simp only [J_ref14_May_j4, wk,if_true,if_false,forall_const,implies_true,ne_eq,eq_self,Nat.reduceEqDiff,Nat.reduceAdd,Nat.reduceMul,Nat.reduceSub,Nat.reduceLeDiff,Nat.reduceLT,Int.reduceEq,Int.reduceLT,Int.reduceLE,Int.reduceAdd,Int.reduceSub,Int.reduceMul,Int.reduceNeg,Int.reduceNe,reduceCtorEq,Int.reduceToNat,↓reduceIte]
      refine ⟨fun hlt => ?_, fun hge => ?_⟩
      · have qb := p_bit14 x.to[k] j (by omega)
        have hjl : j < 8 := by omega
        simp only [u8] at hd2 qb
        simp only [hin, hkn, Int.toNat_natCast, hd, hd2, wk,if_true,if_false,forall_const,implies_true,ne_eq,eq_self,Nat.reduceEqDiff,Nat.reduceAdd,Nat.reduceMul,Nat.reduceSub,Nat.reduceLeDiff,Nat.reduceLT,Int.reduceEq,Int.reduceLT,Int.reduceLE,Int.reduceAdd,Int.reduceSub,Int.reduceMul,Int.reduceNeg,Int.reduceNe,reduceCtorEq,Int.reduceToNat,↓reduceIte]
        refine PCalls.use qb ?_
        cases hb : bt x.to[k] j with
        | true =>
          simp only [wk,if_true,if_false,forall_const,implies_true,ne_eq,eq_self,Nat.reduceEqDiff,Nat.reduceAdd,Nat.reduceMul,Nat.reduceSub,Nat.reduceLeDiff,Nat.reduceLT,Int.reduceEq,Int.reduceLT,Int.reduceLE,Int.reduceAdd,Int.reduceSub,Int.reduceMul,Int.reduceNeg,Int.reduceNe,reduceCtorEq,Int.reduceToNat,↓reduceIte]
          refine boolE (badx x hmem (fun h => ?_)).symm
          have := (high_bits _ _).1 (h.2 _ (List.getElem_mem hkl)) j hj0 hjl
          rw [hb] at this; cases this
        | false =>
          simp only [wk,if_true,if_false,forall_const,implies_true,ne_eq,eq_self,Nat.reduceEqDiff,Nat.reduceAdd,Nat.reduceMul,Nat.reduceSub,Nat.reduceLeDiff,Nat.reduceLT,Int.reduceEq,Int.reduceLT,Int.reduceLE,Int.reduceAdd,Int.reduceSub,Int.reduceMul,Int.reduceNeg,Int.reduceNe,reduceCtorEq,Int.reduceToNat,↓reduceIte]
          refine ⟨inR_of (by omega) (by omega), 8 - (j + 1), by omega, j + 1, by omega, by omega, rfl, fun q h1 h2 => ?_, by simp⟩
          rcases Nat.lt_succ_iff_lt_or_eq.1 h2 with h | rfl
          · exact hallj q h1 h
          · exact hb
      · obtain rfl : j = 8 := by omega
        simp only [J_ref14_May_j3, wk,if_true,if_false,forall_const,implies_true,ne_eq,eq_self,Nat.reduceEqDiff,Nat.reduceAdd,Nat.reduceMul,Nat.reduceSub,Nat.reduceLeDiff,Nat.reduceLT,Int.reduceEq,Int.reduceLT,Int.reduceLE,Int.reduceAdd,Int.reduceSub,Int.reduceMul,Int.reduceNeg,Int.reduceNe,reduceCtorEq,Int.reduceToNat,↓reduceIte]
        refine ⟨inR_of (by omega) (by omega), x.to.length - (k + 1), by omega, k + 1, by omega, rfl, fun b hb => ?_, by simp⟩
        rw [List.take_succ_eq_append_getElem hkl, List.mem_append, List.mem_singleton] at hb
        rcases hb with hb | rfl
        · exact hallk b hb
        · exact (high_bits _ _).2 hallj
    · obtain rfl : k = x.to.length := by omega
      rw [List.take_of_length_le (Nat.le_refl _)] at hallk
      simp only [J_ref14_May_j2, wk,if_true,if_false,forall_const,implies_true,ne_eq,eq_self,Nat.reduceEqDiff,Nat.reduceAdd,Nat.reduceMul,Nat.reduceSub,Nat.reduceLeDiff,Nat.reduceLT,Int.reduceEq,Int.reduceLT,Int.reduceLE,Int.reduceAdd,Int.reduceSub,Int.reduceMul,Int.reduceNeg,Int.reduceNe,reduceCtorEq,Int.reduceToNat,↓reduceIte]
      refine ⟨inR_of (by omega) (by omega), m.rows.length - (i + 1), by omega, i + 1, by omega, rfl, fun y hy => ?_, by simp⟩
      rw [List.take_succ_eq_append_getElem hil, List.mem_append, List.mem_singleton] at hy
      rcases hy with hy | rfl
      · exact hall y hy
      · rw [hx]; exact ⟨by omega, hallk⟩
  · obtain rfl : i = m.rows.length := by omega
    rw [List.take_of_length_le (Nat.le_refl _)] at hall
    simp only [J_ref14_May_j1, wk,if_true,if_false,forall_const,implies_true,ne_eq,eq_self,Nat.reduceEqDiff,Nat.reduceAdd,Nat.reduceMul,Nat.reduceSub,Nat.reduceLeDiff,Nat.reduceLT,Int.reduceEq,Int.reduceLT,Int.reduceLE,Int.reduceAdd,Int.reduceSub,Int.reduceMul,Int.reduceNeg,Int.reduceNe,reduceCtorEq,Int.reduceToNat,↓reduceIte]
    refine boolE ?_
    symm
    simp only [mdMay, Bool.and_eq_true, decide_eq_true_eq, List.all_eq_true]
    exact ⟨by omega, fun x hx => hall x hx⟩
theorem pad_get {to : Rl} {i : Nat} (hi : i < to.length) (h8 : to.length ≤ 8) : (pad to).getD i 0 = to[i] := by
  simp only [pad, List.getD_eq_getElem?_getD]
  rw [List.take_of_length_le h8, List.getElem?_append_left hi, List.getElem?_eq_getElem hi]
  rfl
theorem pad_zero {to : Rl} {i : Nat} (hi : to.length ≤ i) (h8 : to.length ≤ 8) : (pad to).getD i 0 = 0 := by
  simp only [pad, List.getD_eq_getElem?_getD]
  rw [List.take_of_length_le h8, List.getElem?_append_right hi, List.getElem?_replicate]
  split <;> rfl
theorem relA_take {l : List Row} {i : Nat} (h : i < l.length) (a : Nat) : relA (l.take (i + 1)) a = if a = l[i].atom then pad l[i].to else relA (l.take i) a := by
  rw [relA_eq, relA_eq, List.take_succ_eq_append_getElem h, List.foldl_append]
  rfl
theorem upd_at {f g : Nat → Nat → Bool} {x y : Nat} {b : Bool} {Q : Nat → Nat → Prop} (h0 : ∀ i j, Q i j → (i = x ∧ j = y → b = g i j) ∧ (¬ (i = x ∧ j = y) → f i j = g i j)) : ∀ i j, Q i j → upd f x y b i j = g i j := by
  intro i j hq
  obtain ⟨h1, h2⟩ := h0 i j hq
  simp only [upd]
  split
  · next h => exact h1 h
  · next h => exact h2 h
set_option maxRecDepth 100000 in
set_option maxHeartbeats 8000000 in
theorem p_atom14 (m : Mdl) (a : Nat) (hmm : mdMay m = true) (hl : m.rows.length ≤ 1000) : PCalls Try.prog 48 [mdV m, .int .u16 a] (rbV (relA m.rows a)) := by
  have hn := mdMay_n hmm
  refine pcalls_of (by simp [free.frees, free, free_mdV]) (free_rbV _) (acalls_of mixed J_ref14_Atom_ok (Nat.le_of_ble_eq_true rfl) ?_); simp only [J_ref14_Atom, mdV, tb_lit, tb_len, tb_splice, wk,if_true,if_false,forall_const,implies_true,ne_eq,eq_self,Nat.reduceEqDiff,Nat.reduceAdd,Nat.reduceMul,Nat.reduceSub,Nat.reduceLeDiff,Nat.reduceLT,Int.reduceEq,Int.reduceLT,Int.reduceLE,Int.reduceAdd,Int.reduceSub,Int.reduceMul,Int.reduceNeg,Int.reduceNe,reduceCtorEq,Int.reduceToNat,↓reduceIte]
  have hz : tb zB = tb (bitR (relA [] a)) := tb_congr fun x hx y hy => by
    have : relA [] a = zR := rfl
    rw [this]
    have hz : zR = List.replicate 8 0 := rfl
    simp only [zB, bitR, hz, List.getD_eq_getElem?_getD, List.getElem?_replicate, hx, if_true, Option.getD_some, bt_zero]
  refine W_loop (fun n fr h => ∃ i : Nat, i ≤ m.rows.length ∧ n = m.rows.length - i ∧ fr = [(1, .int .u16 a), (2, .ptr 0 0), (4, .ptr 1 0), (5, .ptr 2 0), (6, .int .i64 i)] ∧ h = [some (false, [.int .i64 m.n, .lst .ro m.rows.length (rowsC m.rows)]), some (false, tb zB), some (false, tb (bitR (relA (m.rows.take i) a)))]) m.rows.length ⟨0, by omega, by omega, rfl, by rw [List.take_zero, ← hz]⟩ ?_
  rintro n fr h' ⟨i, hi, rfl, rfl, rfl⟩
  simp only [J_ref14_Atom_j6, tb_lit, tb_len, tb_splice, wk,if_true,if_false,forall_const,implies_true,ne_eq,eq_self,Nat.reduceEqDiff,Nat.reduceAdd,Nat.reduceMul,Nat.reduceSub,Nat.reduceLeDiff,Nat.reduceLT,Int.reduceEq,Int.reduceLT,Int.reduceLE,Int.reduceAdd,Int.reduceSub,Int.reduceMul,Int.reduceNeg,Int.reduceNe,reduceCtorEq,Int.reduceToNat,↓reduceIte]
  refine ⟨fun hlt => ?_, fun hge => ?_⟩
  · have hil : i < m.rows.length := by omega
    have hin : ((0 ≤ (i : Int)) ∧ (i : Int) < (m.rows.length : Int)) = True := by simp; omega
    have hd := rowsC_at hil
    have hmem := List.getElem_mem hil
    have hrow := mdMay_row hmm _ hmem
    have ht := relA_take hil a
    generalize hx : m.rows[i] = x at hmem hd hrow ht
    simp only [rowC, kA, List.cons_append, List.nil_append] at hd
    simp only [hin, Int.toNat_natCast, hd, tb_lit, tb_len, tb_splice, wk,if_true,if_false,forall_const,implies_true,ne_eq,eq_self,Nat.reduceEqDiff,Nat.reduceAdd,Nat.reduceMul,Nat.reduceSub,Nat.reduceLeDiff,Nat.reduceLT,Int.reduceEq,Int.reduceLT,Int.reduceLE,Int.reduceAdd,Int.reduceSub,Int.reduceMul,Int.reduceNeg,Int.reduceNe,reduceCtorEq,Int.reduceToNat,↓reduceIte]
    refine ⟨fun hne => ?_, fun he => ?_⟩
    · rw [if_neg (by omega)] at ht
      simp only [J_ref14_Atom_j2, wk,if_true,if_false,forall_const,implies_true,ne_eq,eq_self,Nat.reduceEqDiff,Nat.reduceAdd,Nat.reduceMul,Nat.reduceSub,Nat.reduceLeDiff,Nat.reduceLT,Int.reduceEq,Int.reduceLT,Int.reduceLE,Int.reduceAdd,Int.reduceSub,Int.reduceMul,Int.reduceNeg,Int.reduceNe,reduceCtorEq,Int.reduceToNat,↓reduceIte]
      exact ⟨inR_of (by omega) (by omega), m.rows.length - (i + 1), by omega, i + 1, by omega, rfl, by simp, by rw [ht]⟩
    · rw [if_pos (by omega)] at ht
      have h8 : x.to.length ≤ 8 := by omega
      have hlow : ∀ k, (hk : k < x.to.length) → ∀ j, x.to.length ≤ j → j < 8 → bt x.to[k] j = false := fun k hk j h1 h2 => (high_bits _ _).1 (hrow.2 _ (List.getElem_mem hk)) j (by omega) h2
      refine W_loop (fun n fr h => ∃ (k : Nat) (g : Nat → Nat → Bool), k ≤ x.to.length ∧ n = x.to.length - k ∧ (∀ p q, p < 8 ∧ q < 8 → g p q = if p < k then bitR (pad x.to) p q else false) ∧ fr = [(1, .int .u16 a), (2, .ptr 0 0), (4, .ptr 1 0), (5, .ptr 2 0), (6, .int .i64 i), (7, .int .i64 k)] ∧ h = [some (false, [.int .i64 m.n, .lst .ro m.rows.length (rowsC m.rows)]), some (false, tb zB), some (false, tb g)]) x.to.length ⟨0, zB, by omega, by omega, fun p q _ => rfl, by rfl, by rfl⟩ ?_
      rintro n fr h' ⟨k, g, hk, rfl, hg, rfl, rfl⟩
      simp only [J_ref14_Atom_j5, wk,if_true,if_false,forall_const,implies_true,ne_eq,eq_self,Nat.reduceEqDiff,Nat.reduceAdd,Nat.reduceMul,Nat.reduceSub,Nat.reduceLeDiff,Nat.reduceLT,Int.reduceEq,Int.reduceLT,Int.reduceLE,Int.reduceAdd,Int.reduceSub,Int.reduceMul,Int.reduceNeg,Int.reduceNe,reduceCtorEq,Int.reduceToNat,↓reduceIte]
      refine ⟨fun hlt => ?_, fun hge => ?_⟩
      · have hkl : k < x.to.length := by omega
        have hkn : ((0 ≤ (k : Int)) ∧ (k : Int) < (x.to.length : Int)) = True := by simp; omega
        have hk8 : ((0 ≤ (k : Int)) ∧ (k : Int) < ((8 : Nat) : Int)) = True := by simp; omega
        have hd2 := rlC_drop hkl
        simp only [u8] at hd2
        refine W_loop (fun n fr h => ∃ (j : Nat) (g : Nat → Nat → Bool), j ≤ x.to.length ∧ n = x.to.length - j ∧ (∀ p q, p < 8 ∧ q < 8 → g p q = if p < k ∨ (p = k ∧ q < j) then bitR (pad x.to) p q else false) ∧ fr = [(1, .int .u16 a), (2, .ptr 0 0), (4, .ptr 1 0), (5, .ptr 2 0), (6, .int .i64 i), (7, .int .i64 k), (8, .int .i64 j)] ∧ h = [some (false, [.int .i64 m.n, .lst .ro m.rows.length (rowsC m.rows)]), some (false, tb zB), some (false, tb g)]) x.to.length ⟨0, g, by omega, by omega, fun p q hpq => by rw [hg p q hpq]; simp, by rfl, by rfl⟩ ?_
        rintro n fr h' ⟨j, g, hj, rfl, hg, rfl, rfl⟩
        simp only [J_ref14_Atom_j4, wk,if_true,if_false,forall_const,implies_true,ne_eq,eq_self,Nat.reduceEqDiff,Nat.reduceAdd,Nat.reduceMul,Nat.reduceSub,Nat.reduceLeDiff,Nat.reduceLT,Int.reduceEq,Int.reduceLT,Int.reduceLE,Int.reduceAdd,Int.reduceSub,Int.reduceMul,Int.reduceNeg,Int.reduceNe,reduceCtorEq,Int.reduceToNat,↓reduceIte]
        refine ⟨fun hlt => ?_, fun hge => ?_⟩
        · have hjl : j < x.to.length := by omega
          have hj8 : ((0 ≤ (j : Int)) ∧ (j : Int) < ((8 : Nat) : Int)) = True := by simp; omega
          have qb := p_bit14 x.to[k] j (by omega)
          have hset := tb_set g (x := k) (y := j) (by omega) (by omega) (bt x.to[k] j)
          have hle : k * 8 + j < 64 := by omega
          simp only [u8] at qb
          simp only [idpF, hin, hkn, hk8, hj8, Int.toNat_natCast, hd, hd2, wk,if_true,if_false,forall_const,implies_true,ne_eq,eq_self,Nat.reduceEqDiff,Nat.reduceAdd,Nat.reduceMul,Nat.reduceSub,Nat.reduceLeDiff,Nat.reduceLT,Int.reduceEq,Int.reduceLT,Int.reduceLE,Int.reduceAdd,Int.reduceSub,Int.reduceMul,Int.reduceNeg,Int.reduceNe,reduceCtorEq,Int.reduceToNat,↓reduceIte]
          refine ⟨_, qb, ?_⟩
          simp only [tb_len, wk,if_true,if_false,forall_const,implies_true,ne_eq,eq_self,Nat.reduceEqDiff,Nat.reduceAdd,Nat.reduceMul,Nat.reduceSub,Nat.reduceLeDiff,Nat.reduceLT,Int.reduceEq,Int.reduceLT,Int.reduceLE,Int.reduceAdd,Int.reduceSub,Int.reduceMul,Int.reduceNeg,Int.reduceNe,reduceCtorEq,Int.reduceToNat,↓reduceIte]
          refine ⟨by omega, inR_of (by omega) (by omega), x.to.length - (j + 1), by omega, j + 1, upd g k j (bt x.to[k] j), by omega, rfl, upd_at (Q := fun p q => p < 8 ∧ q < 8) fun p q hpq => ⟨?_, fun hne => ?_⟩, by simp, by rw [hset]⟩
          · rintro ⟨rfl, rfl⟩
            rw [if_pos (.inr ⟨rfl, by omega⟩), bitR, pad_get hkl h8]
          · rw [hg p q hpq]
            by_cases h1 : p < k ∨ (p = k ∧ q < j)
            · rw [if_pos h1, if_pos (by omega)]
            · rw [if_neg h1, if_neg (by omega)]
        · obtain rfl : j = x.to.length := by omega
          simp only [J_ref14_Atom_j3, wk,if_true,if_false,forall_const,implies_true,ne_eq,eq_self,Nat.reduceEqDiff,Nat.reduceAdd,Nat.reduceMul,Nat.reduceSub,Nat.reduceLeDiff,Nat.reduceLT,Int.reduceEq,Int.reduceLT,Int.reduceLE,Int.reduceAdd,Int.reduceSub,Int.reduceMul,Int.reduceNeg,Int.reduceNe,reduceCtorEq,Int.reduceToNat,↓reduceIte]
          refine ⟨inR_of (by omega) (by omega), x.to.length - (k + 1), by omega, k + 1, g, by omega, rfl, fun p q hpq => ?_, by simp, rfl⟩
          rw [hg p q hpq]
          by_cases h1 : p < k ∨ (p = k ∧ q < x.to.length)
          · rw [if_pos h1, if_pos (by omega)]
          · rw [if_neg h1]
            split
            · have : p = k := by omega
              subst this
              rw [bitR, pad_get hkl h8, hlow p hkl q (by omega) hpq.2]
            · rfl
      · obtain rfl : k = x.to.length := by omega
        simp only [J_ref14_Atom_j2, wk,if_true,if_false,forall_const,implies_true,ne_eq,eq_self,Nat.reduceEqDiff,Nat.reduceAdd,Nat.reduceMul,Nat.reduceSub,Nat.reduceLeDiff,Nat.reduceLT,Int.reduceEq,Int.reduceLT,Int.reduceLE,Int.reduceAdd,Int.reduceSub,Int.reduceMul,Int.reduceNeg,Int.reduceNe,reduceCtorEq,Int.reduceToNat,↓reduceIte]
        refine ⟨inR_of (by omega) (by omega), m.rows.length - (i + 1), by omega, i + 1, by omega, rfl, by simp, ?_⟩
        rw [ht]
        have : tb g = tb (bitR (pad x.to)) := tb_congr fun p hp q hq => by
          rw [hg p q ⟨hp, hq⟩]
          split
          · rfl
          · rw [bitR, pad_zero (by omega) h8, bt_zero]
        rw [this]
  · obtain rfl : i = m.rows.length := by omega
    rw [List.take_of_length_le (Nat.le_refl _)]
    simp only [J_ref14_Atom_j1, tb_len, tb_take, tb_deg, tb_splice, rbV, wk,if_true,if_false,forall_const,implies_true,ne_eq,eq_self,Nat.reduceEqDiff,Nat.reduceAdd,Nat.reduceMul,Nat.reduceSub,Nat.reduceLeDiff,Nat.reduceLT,Int.reduceEq,Int.reduceLT,Int.reduceLE,Int.reduceAdd,Int.reduceSub,Int.reduceMul,Int.reduceNeg,Int.reduceNe,reduceCtorEq,Int.reduceToNat,↓reduceIte]
    simp only [val, ev, lk, tb_len, tb_take, tb_deg, wk,if_true,if_false,forall_const,implies_true,ne_eq,eq_self,Nat.reduceEqDiff,Nat.reduceAdd,Nat.reduceMul,Nat.reduceSub,Nat.reduceLeDiff,Nat.reduceLT,Int.reduceEq,Int.reduceLT,Int.reduceLE,Int.reduceAdd,Int.reduceSub,Int.reduceMul,Int.reduceNeg,Int.reduceNe,reduceCtorEq,Int.reduceToNat,↓reduceIte]
end Go.Proofs.Ytnmikopkjdekaaa

/- The document's relations of words and sets, over the abstract code. -/
-- fast
namespace Go.Proofs.Ytnmikopkjdekaaa
set_option linter.unusedSimpArgs false
set_option linter.unusedVariables false
open Go.RowKit Go.Lib

def ofS (l : List Row) (w : ByteArray) : Nat → Nat → Rl
  | k, 0 => relA l (atomAt w k)
  | k, n + 1 => thenR (relA l (atomAt w k)) (ofS l w (k + 1) n)
def lftS (l : List Row) (w : ByteArray) (k : Nat) : Nat → Rl
  | 0 => relA l (atomAt w k)
  | n + 1 => thenR (lftS l w k n) (relA l (atomAt w (k + n + 1)))
theorem lftS_len (l : List Row) (w : ByteArray) (k : Nat) : ∀ n, (lftS l w k n).length = 8
  | 0 => relA_length _ _
  | n + 1 => by simp only [lftS, thenR, List.length_map]; exact lftS_len l w k n
theorem lftS_cons (l : List Row) (w : ByteArray) (k : Nat) : ∀ n, lftS l w k (n + 1) = thenR (relA l (atomAt w k)) (lftS l w (k + 1) n)
  | 0 => rfl
  | n + 1 => by
    rw [lftS, lftS_cons l w k n, thenR_assoc _ (relA_length _ _) (lftS_len _ _ _ _)]
    simp only [lftS]
    rw [show k + (n + 1) + 1 = k + 1 + n + 1 by omega]
theorem ofS_eq (l : List Row) (w : ByteArray) : ∀ n k, ofS l w k n = lftS l w k n
  | 0, k => rfl
  | n + 1, k => by rw [lftS_cons, ofS, ofS_eq l w n (k + 1)]
theorem lftS_word (l : List Row) (w : ByteArray) : ∀ n, lftS l w 0 n = wordN l w n
  | 0 => rfl
  | n + 1 => by rw [lftS, wordN, lftS_word l w n, Nat.zero_add]
theorem ofS_word (l : List Row) (w : ByteArray) : ofS l w 0 (w.size / 2 - 1) = wordR l w := by rw [ofS_eq, lftS_word]; rfl
def cpB (a o : Nat → Nat → Bool) (i k : Nat) : Nat → Bool
  | 0 => false
  | y + 1 => cpB a o i k y || (a i y && o y k)
theorem cpB_iff (a o : Nat → Nat → Bool) (i k : Nat) : ∀ n, cpB a o i k n = true ↔ ∃ j, j < n ∧ a i j = true ∧ o j k = true
  | 0 => by simp [cpB]
  | n + 1 => by
    simp only [cpB, Bool.or_eq_true, Bool.and_eq_true, cpB_iff a o i k n]
    constructor
    · rintro (⟨j, h1, h2⟩ | h)
      · exact ⟨j, by omega, h2⟩
      · exact ⟨n, by omega, h⟩
    · rintro ⟨j, h1, h2⟩
      rcases Nat.lt_succ_iff_lt_or_eq.1 h1 with h | rfl
      · exact .inl ⟨j, h, h2⟩
      · exact .inr h2
theorem cpB_then {r : Rl} (hr : r.length = 8) (s : Rl) {i k : Nat} (hi : i < 8) : cpB (bitR r) (bitR s) i k 8 = bitR (thenR r s) i k := by
  rw [Bool.eq_iff_iff, cpB_iff, bit_thenR hr s hi]
section
variable {α : Type} (h : List α) (x y z : α)
theorem hp_len1 : (h ++ [x]).length = h.length + 1 := by simp
theorem hp_get1 : (h ++ [x, y])[h.length]? = some x := by
  rw [List.getElem?_append_right (Nat.le_refl _), Nat.sub_self]; rfl
theorem hp_get2 : (h ++ [x, y])[h.length + 1]? = some y := by
  rw [List.getElem?_append_right (by omega), show h.length + 1 - h.length = 1 by omega]; rfl
theorem hp_set2 : (h ++ [x, y]).set (h.length + 1) z = h ++ [x, z] := by
  rw [List.set_append_right _ _ (by omega), show h.length + 1 - h.length = 1 by omega]; rfl
theorem hp_two : (h ++ [x]) ++ [y] = h ++ [x, y] := by simp
end
set_option maxRecDepth 100000 in
set_option maxHeartbeats 16000000 in
theorem p_of14 (m : Mdl) (w : ByteArray) (hmm : mdMay m = true) (hl : m.rows.length ≤ 1000) (hw : wordMay w = true) (hs : w.size ≤ 1000) : PCalls Try.prog 37 [mdV m, .str w] (rbV (wordR m.rows w)) := by
  have hm := hw
  simp only [wordMay, Bool.and_eq_true, decide_eq_true_eq] at hm
  have qa := p_ratoms w (by omega)
  have qt : ∀ a, PCalls Try.prog 48 [.agg [.int .i64 m.n, .lst .ro m.rows.length (rowsC m.rows)], .int .u16 (a : Nat)] (.agg (tb (bitR (relA m.rows a)))) := fun a => p_atom14 m a hmm hl
  refine pcalls_of (by simp [free.frees, free, free_mdV]) (free_rbV _) (acalls_of mixed J_ref14_Of_ok (Nat.le_of_ble_eq_true rfl) ?_); simp only [J_ref14_Of, mdV, tb_lit, tb_len, tb_splice, wk,if_true,if_false,forall_const,implies_true,ne_eq,eq_self,Nat.reduceEqDiff,Nat.reduceAdd,Nat.reduceMul,Nat.reduceSub,Nat.reduceLeDiff,Nat.reduceLT,Int.reduceEq,Int.reduceLT,Int.reduceLE,Int.reduceAdd,Int.reduceSub,Int.reduceMul,Int.reduceNeg,Int.reduceNe,reduceCtorEq,Int.reduceToNat,↓reduceIte]
  refine PCalls.use (qa) ?_; simp only [wk,if_true,if_false,forall_const,implies_true,ne_eq,eq_self,Nat.reduceEqDiff,Nat.reduceAdd,Nat.reduceMul,Nat.reduceSub,Nat.reduceLeDiff,Nat.reduceLT,Int.reduceEq,Int.reduceLT,Int.reduceLE,Int.reduceAdd,Int.reduceSub,Int.reduceMul,Int.reduceNeg,Int.reduceNe,reduceCtorEq,Int.reduceToNat,↓reduceIte]
  generalize hz : w.size / 2 = z at *
  have hin : ((0 ≤ (z : Int) - 1) ∧ ((z : Int) - 1) < (z : Int)) = True := by simp; omega
  have hd := atomsL_drop (s := w) (k := z) (i := z - 1) (by omega)
  have hnz : ((z : Int) - 1).toNat = z - 1 := by omega
  simp only [hin, hnz, hd, wk,if_true,if_false,forall_const,implies_true,ne_eq,eq_self,Nat.reduceEqDiff,Nat.reduceAdd,Nat.reduceMul,Nat.reduceSub,Nat.reduceLeDiff,Nat.reduceLT,Int.reduceEq,Int.reduceLT,Int.reduceLE,Int.reduceAdd,Int.reduceSub,Int.reduceMul,Int.reduceNeg,Int.reduceNe,reduceCtorEq,Int.reduceToNat,↓reduceIte]
  refine ⟨inR_of (by omega) (by omega), _, qt _, ?_⟩
  simp only [tb_len, tb_splice, wk,if_true,if_false,forall_const,implies_true,ne_eq,eq_self,Nat.reduceEqDiff,Nat.reduceAdd,Nat.reduceMul,Nat.reduceSub,Nat.reduceLeDiff,Nat.reduceLT,Int.reduceEq,Int.reduceLT,Int.reduceLE,Int.reduceAdd,Int.reduceSub,Int.reduceMul,Int.reduceNeg,Int.reduceNe,reduceCtorEq,Int.reduceToNat,↓reduceIte]
  refine ⟨inR_of (by omega) (by omega), ?_⟩
  refine W_loop (fun n fr h => ∃ (k : Nat) (ex : Hp), k + 1 ≤ z ∧ n = k ∧ fr = [(2, .ptr 0 0), (4, .ptr 1 0), (5, .lst .ro z (atomsL w z)), (6, .ptr 2 0), (7, .int .i64 ((k : Int) - 1))] ∧ h = some (false, [.int .i64 m.n, .lst .ro m.rows.length (rowsC m.rows)]) :: some (false, tb zB) :: some (false, tb (bitR (ofS m.rows w k (z - 1 - k)))) :: ex) (z - 1) ⟨z - 1, [], by omega, rfl, by rw [show ((z - 1 : Nat) : Int) - 1 = (z : Int) - 2 by omega]; rfl, by rw [Nat.sub_self]; rfl⟩ ?_
  rintro k fr h' ⟨k', ex, hk, rfl, rfl, rfl⟩
  simp only [J_ref14_Of_j9, tb_lit, tb_len, tb_splice, wk,if_true,if_false,forall_const,implies_true,ne_eq,eq_self,Nat.reduceEqDiff,Nat.reduceAdd,Nat.reduceMul,Nat.reduceSub,Nat.reduceLeDiff,Nat.reduceLT,Int.reduceEq,Int.reduceLT,Int.reduceLE,Int.reduceAdd,Int.reduceSub,Int.reduceMul,Int.reduceNeg,Int.reduceNe,reduceCtorEq,Int.reduceToNat,↓reduceIte]
  refine ⟨fun hge => ?_, fun hlt => ?_⟩
  · have hk1 : 1 ≤ k := by omega
    obtain ⟨q, rfl⟩ : ∃ q, k = q + 1 := ⟨k - 1, by omega⟩
    have hki : (((q + 1 : Nat) : Int) - 1) = (q : Int) := by omega
    have hin2 : ((0 ≤ (q : Int)) ∧ (q : Int) < (z : Int)) = True := by simp; omega
    have hd2 := atomsL_drop (s := w) (k := z) (i := q) (by omega)
    simp only [hki, hin2, Int.toNat_natCast, hd2, wk,if_true,if_false,forall_const,implies_true,ne_eq,eq_self,Nat.reduceEqDiff,Nat.reduceAdd,Nat.reduceMul,Nat.reduceSub,Nat.reduceLeDiff,Nat.reduceLT,Int.reduceEq,Int.reduceLT,Int.reduceLE,Int.reduceAdd,Int.reduceSub,Int.reduceMul,Int.reduceNeg,Int.reduceNe,reduceCtorEq,Int.reduceToNat,↓reduceIte]
    refine ⟨_, qt _, ?_⟩
    simp only [tb_len, tb_splice, hp_len1, hp_get1, hp_get2, hp_set2, hp_two, end_get, end_set, wk,if_true,if_false,forall_const,implies_true,ne_eq,eq_self,Nat.reduceEqDiff,Nat.reduceAdd,Nat.reduceMul,Nat.reduceSub,Nat.reduceLeDiff,Nat.reduceLT,Int.reduceEq,Int.reduceLT,Int.reduceLE,Int.reduceAdd,Int.reduceSub,Int.reduceMul,Int.reduceNeg,Int.reduceNe,reduceCtorEq,Int.reduceToNat,↓reduceIte]
    have hrest : ofS m.rows w q (z - 1 - q) = thenR (relA m.rows (atomAt w q)) (ofS m.rows w (q + 1) (z - 1 - (q + 1))) := by
      rw [show z - 1 - q = (z - 1 - (q + 1)) + 1 by omega]; rfl
    have hfin : tb (bitR (ofS m.rows w q (z - 1 - q))) = tb (fun i k => cpB (bitR (relA m.rows (atomAt w q))) (bitR (ofS m.rows w (q + 1) (z - 1 - (q + 1)))) i k 8) := by
      rw [hrest]
      exact tb_congr fun x hx y hy => (cpB_then (relA_length _ _) _ hx).symm
    generalize bitR (ofS m.rows w (q + 1) (z - 1 - (q + 1))) = fo at hfin ⊢
    generalize bitR (relA m.rows (atomAt w q)) = fa at hfin ⊢
    refine W_loop (fun n fr h => ∃ (x : Nat) (g : Nat → Nat → Bool), x ≤ 8 ∧ n = 8 - x ∧ (∀ i k, i < 8 ∧ k < 8 → g i k = cpB fa fo i k (if i < x then 8 else 0)) ∧ fr = [(2, .ptr 0 0), (4, .ptr 1 0), (5, .lst .ro z (atomsL w z)), (6, .ptr 2 0), (7, .int .i64 q), (8, .ptr (ex.length + 1 + 1 + 1) 0), (9, .ptr (ex.length + 1 + 1 + 1 + 1) 0), (10, .int .i64 x)] ∧ h = some (false, [.int .i64 m.n, .lst .ro m.rows.length (rowsC m.rows)]) :: some (false, tb zB) :: some (false, tb fo) :: (ex ++ [some (false, tb fa), some (false, tb g)])) 8 ⟨0, zB, by omega, by omega, fun i k _ => rfl, by rfl, by rfl⟩ ?_
    rintro n fr h' ⟨x, g, hx, rfl, hg, rfl, rfl⟩
    simp only [J_ref14_Of_j8, wk,if_true,if_false,forall_const,implies_true,ne_eq,eq_self,Nat.reduceEqDiff,Nat.reduceAdd,Nat.reduceMul,Nat.reduceSub,Nat.reduceLeDiff,Nat.reduceLT,Int.reduceEq,Int.reduceLT,Int.reduceLE,Int.reduceAdd,Int.reduceSub,Int.reduceMul,Int.reduceNeg,Int.reduceNe,reduceCtorEq,Int.reduceToNat,↓reduceIte]
    refine ⟨fun hlt => ?_, fun hge => ?_⟩
    · have hxl : x < 8 := by omega
      have hxn : ((0 ≤ (x : Int)) ∧ (x : Int) < ((8 : Nat) : Int)) = True := by simp; omega
      refine W_loop (fun n fr h => ∃ (y : Nat) (g : Nat → Nat → Bool), y ≤ 8 ∧ n = 8 - y ∧ (∀ i k, i < 8 ∧ k < 8 → g i k = cpB fa fo i k (if i < x then 8 else if i = x then y else 0)) ∧ fr = [(2, .ptr 0 0), (4, .ptr 1 0), (5, .lst .ro z (atomsL w z)), (6, .ptr 2 0), (7, .int .i64 q), (8, .ptr (ex.length + 1 + 1 + 1) 0), (9, .ptr (ex.length + 1 + 1 + 1 + 1) 0), (10, .int .i64 x), (11, .int .i64 y)] ∧ h = some (false, [.int .i64 m.n, .lst .ro m.rows.length (rowsC m.rows)]) :: some (false, tb zB) :: some (false, tb fo) :: (ex ++ [some (false, tb fa), some (false, tb g)])) 8 ⟨0, g, by omega, by omega, fun i k h => by rw [hg i k h]; simp, by rfl, by rfl⟩ ?_
      rintro n fr h' ⟨y, g, hy, rfl, hg, rfl, rfl⟩
      simp only [J_ref14_Of_j7, wk,if_true,if_false,forall_const,implies_true,ne_eq,eq_self,Nat.reduceEqDiff,Nat.reduceAdd,Nat.reduceMul,Nat.reduceSub,Nat.reduceLeDiff,Nat.reduceLT,Int.reduceEq,Int.reduceLT,Int.reduceLE,Int.reduceAdd,Int.reduceSub,Int.reduceMul,Int.reduceNeg,Int.reduceNe,reduceCtorEq,Int.reduceToNat,↓reduceIte]
      refine ⟨fun hlt => ?_, fun hge => ?_⟩
      · have hyl : y < 8 := by omega
        have hyn : ((0 ≤ (y : Int)) ∧ (y : Int) < ((8 : Nat) : Int)) = True := by simp; omega
        refine W_loop (fun n fr h => ∃ (c : Nat) (g : Nat → Nat → Bool), c ≤ 8 ∧ n = 8 - c ∧ (∀ i k, i < 8 ∧ k < 8 → g i k = cpB fa fo i k (if i < x then 8 else if i = x then (if k < c then y + 1 else y) else 0)) ∧ fr = [(2, .ptr 0 0), (4, .ptr 1 0), (5, .lst .ro z (atomsL w z)), (6, .ptr 2 0), (7, .int .i64 q), (8, .ptr (ex.length + 1 + 1 + 1) 0), (9, .ptr (ex.length + 1 + 1 + 1 + 1) 0), (10, .int .i64 x), (11, .int .i64 y), (12, .int .i64 c)] ∧ h = some (false, [.int .i64 m.n, .lst .ro m.rows.length (rowsC m.rows)]) :: some (false, tb zB) :: some (false, tb fo) :: (ex ++ [some (false, tb fa), some (false, tb g)])) 8 ⟨0, g, by omega, by omega, fun i k h => by rw [hg i k h]; simp, by rfl, by rfl⟩ ?_
        rintro n fr h' ⟨c, g, hc, rfl, hg, rfl, rfl⟩
        simp only [J_ref14_Of_j6, wk,if_true,if_false,forall_const,implies_true,ne_eq,eq_self,Nat.reduceEqDiff,Nat.reduceAdd,Nat.reduceMul,Nat.reduceSub,Nat.reduceLeDiff,Nat.reduceLT,Int.reduceEq,Int.reduceLT,Int.reduceLE,Int.reduceAdd,Int.reduceSub,Int.reduceMul,Int.reduceNeg,Int.reduceNe,reduceCtorEq,Int.reduceToNat,↓reduceIte]
        refine ⟨fun hlt => ?_, fun hge => ?_⟩
        · have hcl : c < 8 := by omega
          have hcn : ((0 ≤ (c : Int)) ∧ (c : Int) < ((8 : Nat) : Int)) = True := by simp; omega
          have hle : x * 8 + c + 1 ≤ 64 := by omega
          have hd1 := tb_drop g hxl hcl
          have hd2 := tb_drop fa hxl hyl
          have hd3 := tb_drop fo hyl hcl
          have hg0 := hg x c ⟨hxl, hcl⟩
          rw [if_neg (by omega), if_pos rfl, if_neg (by omega)] at hg0
          have hnew : ∀ b, b = (g x c || (fa x y && fo y c)) → ∀ i k, i < 8 ∧ k < 8 → upd g x c b i k = cpB fa fo i k (if i < x then 8 else if i = x then (if k < c + 1 then y + 1 else y) else 0) := fun b hb => upd_at (Q := fun i k => i < 8 ∧ k < 8) fun i k hik => ⟨by
            rintro ⟨rfl, rfl⟩
            rw [if_neg (by omega), if_pos rfl, if_pos (by omega), hb, hg0]; rfl, fun hne => by
            rw [hg i k hik]
            by_cases h1 : i = x
            · have : ¬ k = c := fun e => hne ⟨h1, e⟩
              have : (k < c + 1) = (k < c) := by rw [eq_iff_iff]; omega
              simp only [this]
            · simp only [h1, if_false]⟩
          cases h1 : g x c <;> cases h2 : fa x y <;> cases h3 : fo y c <;> rw [h1] at hd1 <;> rw [h2] at hd2 <;> rw [h3] at hd3
          all_goals
            simp only [idpF, hxn, hyn, hcn, Int.toNat_natCast, hd1, hd2, hd3, hp_get1, hp_get2, hp_set2, tb_len, wk,if_true,if_false,forall_const,implies_true,ne_eq,eq_self,Nat.reduceEqDiff,Nat.reduceAdd,Nat.reduceMul,Nat.reduceSub,Nat.reduceLeDiff,Nat.reduceLT,Int.reduceEq,Int.reduceLT,Int.reduceLE,Int.reduceAdd,Int.reduceSub,Int.reduceMul,Int.reduceNeg,Int.reduceNe,reduceCtorEq,Int.reduceToNat,↓reduceIte]
            exact ⟨by omega, inR_of (by omega) (by omega), 8 - (c + 1), by omega, c + 1, _, by omega, rfl, hnew _ (by simp only [h1, h2, h3]; rfl), by simp, by rw [tb_set g hxl hcl] <;> rfl⟩
        · obtain rfl : c = 8 := by omega
          simp only [J_ref14_Of_j5, wk,if_true,if_false,forall_const,implies_true,ne_eq,eq_self,Nat.reduceEqDiff,Nat.reduceAdd,Nat.reduceMul,Nat.reduceSub,Nat.reduceLeDiff,Nat.reduceLT,Int.reduceEq,Int.reduceLT,Int.reduceLE,Int.reduceAdd,Int.reduceSub,Int.reduceMul,Int.reduceNeg,Int.reduceNe,reduceCtorEq,Int.reduceToNat,↓reduceIte]
          refine ⟨inR_of (by omega) (by omega), 8 - (y + 1), by omega, y + 1, g, by omega, rfl, fun i k hik => ?_, by simp, rfl⟩
          rw [hg i k hik, if_pos hik.2]
      · obtain rfl : y = 8 := by omega
        simp only [J_ref14_Of_j4, wk,if_true,if_false,forall_const,implies_true,ne_eq,eq_self,Nat.reduceEqDiff,Nat.reduceAdd,Nat.reduceMul,Nat.reduceSub,Nat.reduceLeDiff,Nat.reduceLT,Int.reduceEq,Int.reduceLT,Int.reduceLE,Int.reduceAdd,Int.reduceSub,Int.reduceMul,Int.reduceNeg,Int.reduceNe,reduceCtorEq,Int.reduceToNat,↓reduceIte]
        refine ⟨inR_of (by omega) (by omega), 8 - (x + 1), by omega, x + 1, g, by omega, rfl, fun i k hik => ?_, by simp, rfl⟩
        rw [hg i k hik]
        congr 1
        split
        · rw [if_pos (by omega)]
        · split
          · rw [if_pos (by omega)]
          · rw [if_neg (by omega)]
    · obtain rfl : x = 8 := by omega
      have hgf : tb g = tb (bitR (ofS m.rows w q (z - 1 - q))) := by
        rw [hfin]
        exact tb_congr fun i hi k hk => by rw [hg i k ⟨hi, hk⟩, if_pos hi]
      simp only [J_ref14_Of_j3, J_ref14_Of_j2, hp_get1, hp_get2, hp_set2, tb_len, tb_take, tb_deg, tb_splice, wk,if_true,if_false,forall_const,implies_true,ne_eq,eq_self,Nat.reduceEqDiff,Nat.reduceAdd,Nat.reduceMul,Nat.reduceSub,Nat.reduceLeDiff,Nat.reduceLT,Int.reduceEq,Int.reduceLT,Int.reduceLE,Int.reduceAdd,Int.reduceSub,Int.reduceMul,Int.reduceNeg,Int.reduceNe,reduceCtorEq,Int.reduceToNat,↓reduceIte]
      refine ⟨inR_of (by omega) (by omega), q, by omega, q, _, by omega, rfl, rfl, by rw [hgf]⟩
  · have hk0 : k = 0 := by omega
    subst hk0
    have he : bitR (ofS m.rows w 0 (z - 1 - 0)) = bitR (wordR m.rows w) := by rw [← hz]; rw [← ofS_word]; rfl
    rw [he]
    simp only [J_ref14_Of_j1, tb_len, tb_take, tb_deg, tb_splice, rbV, wk,if_true,if_false,forall_const,implies_true,ne_eq,eq_self,Nat.reduceEqDiff,Nat.reduceAdd,Nat.reduceMul,Nat.reduceSub,Nat.reduceLeDiff,Nat.reduceLT,Int.reduceEq,Int.reduceLT,Int.reduceLE,Int.reduceAdd,Int.reduceSub,Int.reduceMul,Int.reduceNeg,Int.reduceNe,reduceCtorEq,Int.reduceToNat,↓reduceIte]
    simp only [val, ev, lk, tb_len, tb_take, tb_deg, wk,if_true,if_false,forall_const,implies_true,ne_eq,eq_self,Nat.reduceEqDiff,Nat.reduceAdd,Nat.reduceMul,Nat.reduceSub,Nat.reduceLeDiff,Nat.reduceLT,Int.reduceEq,Int.reduceLT,Int.reduceLE,Int.reduceAdd,Int.reduceSub,Int.reduceMul,Int.reduceNeg,Int.reduceNe,reduceCtorEq,Int.reduceToNat,↓reduceIte]
end Go.Proofs.Ytnmikopkjdekaaa

/- The document's relation of a set, its bytes, the law's own copy of a model, over the abstract code. -/
-- fast
namespace Go.Proofs.Ytnmikopkjdekaaa
set_option linter.unusedSimpArgs false
set_option linter.unusedVariables false
open Go.RowKit Go.Lib

end Go.Proofs.Ytnmikopkjdekaaa
