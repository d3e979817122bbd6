/- Texts of one proof, laid together: Oc Od Ak FnS Sr Ss St Sa FnC Po Pi Pj Pb Pc Az Oh Oi Or Ot Ou Ov Aw Ax. -/
import Derived.Test.YtlfnepcglnjogaaMA13
import Derived.Test.YtlfnepcglnjogaaProg
import Derived.Test.YtlfnepcglnjogaaMA12
import Derived.Test.YtlfnepcglnjogaaMA9

/- Models: words' and sets' relations, over the abstract code. -/
-- fast
namespace Go.Proofs.Ytlfnepcglnjogaa
set_option linter.unusedSimpArgs false
set_option linter.unusedVariables false
open Go.RowKit Go.Lib

theorem frees_strs : ∀ l : List ByteArray, free.frees (l.map .str) = true
  | [] => rfl
  | x :: l => by simp [free.frees, free, frees_strs l]
def relA (l : List Row) (a : Nat) : Rl := (amGet a (readM l)).getD zR
theorem relA_foldl (a : Nat) : ∀ (l : List Row) (q : Am), (amGet a (l.foldl (fun q x => amPut x.atom (pad x.to) q) q)).getD zR = l.foldl (fun acc x => if a = x.atom then pad x.to else acc) ((amGet a q).getD zR)
  | [], q => rfl
  | x :: l, q => by
    simp only [List.foldl_cons]
    rw [relA_foldl a l, am_get_put]
    split <;> rfl
theorem relA_eq (l : List Row) (a : Nat) : relA l a = l.foldl (fun acc x => if a = x.atom then pad x.to else acc) zR := relA_foldl a l []
theorem relA_length (l : List Row) (a : Nat) : (relA l a).length = 8 := by
  rw [relA_eq]
  have key : ∀ (l : List Row) (z : Rl), z.length = 8 → (l.foldl (fun acc x => if a = x.atom then pad x.to else acc) z).length = 8 := by
    intro l
    induction l with
    | nil => intro z hz; exact hz
    | cons x l ih => intro z hz; simp only [List.foldl_cons]; refine ih _ ?_; split; exact pad_length _; exact hz
  exact key l zR rfl
def wordN (l : List Row) (w : ByteArray) : Nat → Rl
  | 0 => relA l (atomAt w 0)
  | k + 1 => thenR (wordN l w k) (relA l (atomAt w (k + 1)))
def wordR (l : List Row) (w : ByteArray) : Rl := wordN l w (w.size / 2 - 1)
theorem wordN_length (l : List Row) (w : ByteArray) : ∀ k, (wordN l w k).length = 8
  | 0 => relA_length _ _
  | k + 1 => by simp only [wordN, thenR, List.length_map]; exact wordN_length l w k
theorem wordR_length (l : List Row) (w : ByteArray) : (wordR l w).length = 8 := wordN_length _ _ _
def setN (l : List Row) (s : List ByteArray) : Rl := s.foldl (fun r w => orR r (wordR l w)) zR
theorem setN_length (l : List Row) (s : List ByteArray) : (setN l s).length = 8 := by
  have key : ∀ (s : List ByteArray) (z : Rl), z.length = 8 → (s.foldl (fun r w => orR r (wordR l w)) z).length = 8 := by
    intro s
    induction s with
    | nil => intro z hz; exact hz
    | cons x s ih => intro z hz; simp only [List.foldl_cons]; exact ih _ (orR_length _ _ hz (wordR_length _ _))
  exact key s zR rfl
def mpV (l : List Row) : AV := .fmp (amK (readM l)) (amV (readM l))
theorem look_rel (l : List Row) (a : Nat) : mlkF false true [.int .u8 0, .int .u8 0, .int .u8 0, .int .u8 0, .int .u8 0, .int .u8 0, .int .u8 0, .int .u8 0] false [.fmp (amK (readM l)) (amV (readM l)), .int .u16 (a : Int)] = some (rlV (relA l a)) := am_look a (readM l) _ rfl
set_option maxRecDepth 100000 in
set_option maxHeartbeats 4000000 in
theorem p_mword (l : List Row) (w : ByteArray) (hw : wordMay w = true) (hs : w.size ≤ 1000) : PCalls Try.prog 27 [mpV l, .str w] (rlV (wordR l w)) := by
  have hm := hw
  simp only [wordMay, Bool.and_eq_true, decide_eq_true_eq] at hm
  refine pcalls_of (by simp [free.frees, free, mpV]) (free_rlV _) (acalls_of mixed J_model_atoms_word_ok (Nat.le_of_ble_eq_true rfl) ?_); simp only [J_model_atoms_word, mpV, wk,if_true,if_false,forall_const,implies_true,ne_eq,eq_self,Nat.reduceEqDiff,Nat.reduceAdd,Nat.reduceMul,Nat.reduceSub,Nat.reduceLeDiff,Nat.reduceLT,Int.reduceEq,Int.reduceLT,Int.reduceLE,Int.reduceAdd,Int.reduceSub,Int.reduceMul,Int.reduceNeg,Int.reduceNe,reduceCtorEq,Int.reduceToNat,↓reduceIte]
  refine PCalls.use (p_wat w 0 (by omega) (by omega)) ?_; simp only [wk,if_true,if_false,forall_const,implies_true,ne_eq,eq_self,Nat.reduceEqDiff,Nat.reduceAdd,Nat.reduceMul,Nat.reduceSub,Nat.reduceLeDiff,Nat.reduceLT,Int.reduceEq,Int.reduceLT,Int.reduceLE,Int.reduceAdd,Int.reduceSub,Int.reduceMul,Int.reduceNeg,Int.reduceNe,reduceCtorEq,Int.reduceToNat,↓reduceIte]
  have hl := look_rel l (atomAt w 0)
  have hA := relA_length l (atomAt w 0)
  simp only [rlV] at hl
  simp only [hl, wk,if_true,if_false,forall_const,implies_true,ne_eq,eq_self,Nat.reduceEqDiff,Nat.reduceAdd,Nat.reduceMul,Nat.reduceSub,Nat.reduceLeDiff,Nat.reduceLT,Int.reduceEq,Int.reduceLT,Int.reduceLE,Int.reduceAdd,Int.reduceSub,Int.reduceMul,Int.reduceNeg,Int.reduceNe,reduceCtorEq,Int.reduceToNat,↓reduceIte]
  rw [splice_all _ _ (by simp [len_rlC, hA])]
  refine ⟨by simp [len_rlC, hA], ?_⟩
  refine W_loop (fun n fr h => ∃ i : Nat, i + 1 ≤ w.size / 2 ∧ n = w.size / 2 - i ∧ fr = [(0, mpV l), (1, .str w), (4, .ptr 0 0), (5, .ptr 1 0), (6, .int .i64 ((i + 1 : Nat) : Int))] ∧ h = [some (false, [.int .u8 0, .int .u8 0, .int .u8 0, .int .u8 0, .int .u8 0, .int .u8 0, .int .u8 0, .int .u8 0]), some (false, rlC (wordN l w i))]) (w.size / 2) ⟨0, by omega, by omega, rfl, rfl⟩ ?_
  rintro n fr h' ⟨i, hi, rfl, rfl, rfl⟩
  simp only [J_model_atoms_word_j2, mpV, wk,if_true,if_false,forall_const,implies_true,ne_eq,eq_self,Nat.reduceEqDiff,Nat.reduceAdd,Nat.reduceMul,Nat.reduceSub,Nat.reduceLeDiff,Nat.reduceLT,Int.reduceEq,Int.reduceLT,Int.reduceLE,Int.reduceAdd,Int.reduceSub,Int.reduceMul,Int.reduceNeg,Int.reduceNe,reduceCtorEq,Int.reduceToNat,↓reduceIte]
  refine PCalls.use (p_wlen w (by omega)) ?_; simp only [wk,if_true,if_false,forall_const,implies_true,ne_eq,eq_self,Nat.reduceEqDiff,Nat.reduceAdd,Nat.reduceMul,Nat.reduceSub,Nat.reduceLeDiff,Nat.reduceLT,Int.reduceEq,Int.reduceLT,Int.reduceLE,Int.reduceAdd,Int.reduceSub,Int.reduceMul,Int.reduceNeg,Int.reduceNe,reduceCtorEq,Int.reduceToNat,↓reduceIte]
  have h8 := wordN_length l w i
  refine ⟨fun hlt => ?_, fun hge => ?_⟩
  · have hil : i + 1 < w.size / 2 := by omega
    refine ⟨by rw [len_rlC, h8]; omega, ?_⟩
    refine ⟨_, p_wat w (i + 1) (by omega) (by omega), ?_⟩; simp only [wk,if_true,if_false,forall_const,implies_true,ne_eq,eq_self,Nat.reduceEqDiff,Nat.reduceAdd,Nat.reduceMul,Nat.reduceSub,Nat.reduceLeDiff,Nat.reduceLT,Int.reduceEq,Int.reduceLT,Int.reduceLE,Int.reduceAdd,Int.reduceSub,Int.reduceMul,Int.reduceNeg,Int.reduceNe,reduceCtorEq,Int.reduceToNat,↓reduceIte]
    have hl2 := look_rel l (atomAt w (i + 1))
    have hA2 := relA_length l (atomAt w (i + 1))
    have q := p_rthen (wordN l w i) (relA l (atomAt w (i + 1))) h8 hA2
    simp only [rlV] at hl2 q
    simp only [take_rlC _ h8, deg_rlC, hl2, wk,if_true,if_false,forall_const,implies_true,ne_eq,eq_self,Nat.reduceEqDiff,Nat.reduceAdd,Nat.reduceMul,Nat.reduceSub,Nat.reduceLeDiff,Nat.reduceLT,Int.reduceEq,Int.reduceLT,Int.reduceLE,Int.reduceAdd,Int.reduceSub,Int.reduceMul,Int.reduceNeg,Int.reduceNe,reduceCtorEq,Int.reduceToNat,↓reduceIte]
    refine ⟨_, q, ?_⟩; simp only [wk,if_true,if_false,forall_const,implies_true,ne_eq,eq_self,Nat.reduceEqDiff,Nat.reduceAdd,Nat.reduceMul,Nat.reduceSub,Nat.reduceLeDiff,Nat.reduceLT,Int.reduceEq,Int.reduceLT,Int.reduceLE,Int.reduceAdd,Int.reduceSub,Int.reduceMul,Int.reduceNeg,Int.reduceNe,reduceCtorEq,Int.reduceToNat,↓reduceIte]
    have h9 : (thenR (wordN l w i) (relA l (atomAt w (i + 1)))).length = 8 := wordN_length l w (i + 1)
    rw [splice_all _ _ (by simp [len_rlC, h8, h9])]
    exact ⟨⟨by rw [len_rlC, h9], by rw [len_rlC, h8]; omega⟩, inR_of (by omega) (by omega), w.size / 2 - (i + 1), by omega, i + 1, by omega, rfl, by simp, rfl⟩
  · have he : wordR l w = wordN l w i := by
      unfold wordR; congr 1; omega
    simp only [J_model_atoms_word_j1, wk,if_true,if_false,forall_const,implies_true,ne_eq,eq_self,Nat.reduceEqDiff,Nat.reduceAdd,Nat.reduceMul,Nat.reduceSub,Nat.reduceLeDiff,Nat.reduceLT,Int.reduceEq,Int.reduceLT,Int.reduceLE,Int.reduceAdd,Int.reduceSub,Int.reduceMul,Int.reduceNeg,Int.reduceNe,reduceCtorEq,Int.reduceToNat,↓reduceIte]
    rw [take_rlC _ h8, deg_rlC, splice_all _ _ (by simp [len_rlC, h8]), he]
    refine ⟨by simp [len_rlC, h8], by simp [len_rlC, h8], ?_⟩
    simp only [val, ev, lk, wk,if_true,if_false,forall_const,implies_true,ne_eq,eq_self,Nat.reduceEqDiff,Nat.reduceAdd,Nat.reduceMul,Nat.reduceSub,Nat.reduceLeDiff,Nat.reduceLT,Int.reduceEq,Int.reduceLT,Int.reduceLE,Int.reduceAdd,Int.reduceSub,Int.reduceMul,Int.reduceNeg,Int.reduceNe,reduceCtorEq,Int.reduceToNat,↓reduceIte]
    exact ⟨by simp [len_rlC, h8], by rw [take_rlC _ h8, deg_rlC]; rfl⟩
set_option maxRecDepth 100000 in
set_option maxHeartbeats 4000000 in
theorem p_mset (l : List Row) (s : List ByteArray) (hn : s.length ≤ 1000) (hw : ∀ w ∈ s, wordMay w = true ∧ w.size ≤ 1000) : PCalls Try.prog 32 [mpV l, .lst .ro s.length (s.map .str)] (rlV (setN l s)) := by
  refine pcalls_of (by simp [free.frees, free, mpV, frees_strs]) (free_rlV _) (acalls_of mixed J_model_atoms_set_ok (Nat.le_of_ble_eq_true rfl) ?_); simp only [J_model_atoms_set, mpV, wk,if_true,if_false,forall_const,implies_true,ne_eq,eq_self,Nat.reduceEqDiff,Nat.reduceAdd,Nat.reduceMul,Nat.reduceSub,Nat.reduceLeDiff,Nat.reduceLT,Int.reduceEq,Int.reduceLT,Int.reduceLE,Int.reduceAdd,Int.reduceSub,Int.reduceMul,Int.reduceNeg,Int.reduceNe,reduceCtorEq,Int.reduceToNat,↓reduceIte]
  refine W_loop (fun n fr h => ∃ i : Nat, i ≤ s.length ∧ n = s.length - i ∧ fr = [(0, mpV l), (4, .ptr 0 0), (5, .ptr 1 0), (8, .lst .ro s.length (s.map .str)), (9, .int .i64 s.length), (10, .int .i64 i)] ∧ h = [some (false, [.int .u8 0, .int .u8 0, .int .u8 0, .int .u8 0, .int .u8 0, .int .u8 0, .int .u8 0, .int .u8 0]), some (false, rlC (setN l (s.take i)))]) s.length ⟨0, by omega, by omega, rfl, rfl⟩ ?_
  rintro n fr h' ⟨i, hi, rfl, rfl, rfl⟩
  simp only [J_model_atoms_set_j2, mpV, wk,if_true,if_false,forall_const,implies_true,ne_eq,eq_self,Nat.reduceEqDiff,Nat.reduceAdd,Nat.reduceMul,Nat.reduceSub,Nat.reduceLeDiff,Nat.reduceLT,Int.reduceEq,Int.reduceLT,Int.reduceLE,Int.reduceAdd,Int.reduceSub,Int.reduceMul,Int.reduceNeg,Int.reduceNe,reduceCtorEq,Int.reduceToNat,↓reduceIte]
  have h8 := setN_length l (s.take i)
  refine ⟨fun hlt => ?_, fun hge => ?_⟩
  · have hil : i < s.length := by omega
    have hin : ((0 ≤ (i : Int)) ∧ (i : Int) < (s.length : Int)) = True := by simp; omega
    have hd : (s.map AV.str).drop i = .str s[i] :: (s.map AV.str).drop (i + 1) := by
      rw [List.drop_eq_getElem_cons (by simpa using hil)]; simp
    have hwi := hw s[i] (List.getElem_mem hil)
    have qw := p_mword l s[i] hwi.1 hwi.2
    have qo := p_ror (setN l (s.take i)) (wordR l s[i]) h8 (wordR_length _ _)
    simp only [rlV, mpV] at qw qo
    simp only [hin, Int.toNat_natCast, hd, wk,if_true,if_false,forall_const,implies_true,ne_eq,eq_self,Nat.reduceEqDiff,Nat.reduceAdd,Nat.reduceMul,Nat.reduceSub,Nat.reduceLeDiff,Nat.reduceLT,Int.reduceEq,Int.reduceLT,Int.reduceLE,Int.reduceAdd,Int.reduceSub,Int.reduceMul,Int.reduceNeg,Int.reduceNe,reduceCtorEq,Int.reduceToNat,↓reduceIte]
    rw [take_rlC _ h8, deg_rlC]
    refine ⟨by simp [len_rlC, h8], ?_⟩
    refine ⟨_, qw, ?_⟩; simp only [wk,if_true,if_false,forall_const,implies_true,ne_eq,eq_self,Nat.reduceEqDiff,Nat.reduceAdd,Nat.reduceMul,Nat.reduceSub,Nat.reduceLeDiff,Nat.reduceLT,Int.reduceEq,Int.reduceLT,Int.reduceLE,Int.reduceAdd,Int.reduceSub,Int.reduceMul,Int.reduceNeg,Int.reduceNe,reduceCtorEq,Int.reduceToNat,↓reduceIte]
    refine ⟨_, qo, ?_⟩; simp only [wk,if_true,if_false,forall_const,implies_true,ne_eq,eq_self,Nat.reduceEqDiff,Nat.reduceAdd,Nat.reduceMul,Nat.reduceSub,Nat.reduceLeDiff,Nat.reduceLT,Int.reduceEq,Int.reduceLT,Int.reduceLE,Int.reduceAdd,Int.reduceSub,Int.reduceMul,Int.reduceNeg,Int.reduceNe,reduceCtorEq,Int.reduceToNat,↓reduceIte]
    have h9 : setN l (s.take (i + 1)) = orR (setN l (s.take i)) (wordR l s[i]) := by
      unfold setN
      rw [List.take_succ_eq_append_getElem hil, List.foldl_append]; rfl
    have h10 := setN_length l (s.take (i + 1))
    rw [← h9, splice_all _ _ (by simp [len_rlC, h8, h10])]
    exact ⟨⟨by rw [len_rlC, h10], by rw [len_rlC, h8]; omega⟩, inR_of (by omega) (by omega), s.length - (i + 1), by omega, i + 1, by omega, rfl, by simp, rfl⟩
  · obtain rfl : i = s.length := by omega
    rw [List.take_of_length_le (Nat.le_refl _)] at h8 ⊢
    simp only [J_model_atoms_set_j1, wk,if_true,if_false,forall_const,implies_true,ne_eq,eq_self,Nat.reduceEqDiff,Nat.reduceAdd,Nat.reduceMul,Nat.reduceSub,Nat.reduceLeDiff,Nat.reduceLT,Int.reduceEq,Int.reduceLT,Int.reduceLE,Int.reduceAdd,Int.reduceSub,Int.reduceMul,Int.reduceNeg,Int.reduceNe,reduceCtorEq,Int.reduceToNat,↓reduceIte]
    rw [take_rlC _ h8, deg_rlC, splice_all _ _ (by simp [len_rlC, h8])]
    refine ⟨by simp [len_rlC, h8], by simp [len_rlC, h8], ?_⟩
    simp only [val, ev, lk, wk,if_true,if_false,forall_const,implies_true,ne_eq,eq_self,Nat.reduceEqDiff,Nat.reduceAdd,Nat.reduceMul,Nat.reduceSub,Nat.reduceLeDiff,Nat.reduceLT,Int.reduceEq,Int.reduceLT,Int.reduceLE,Int.reduceAdd,Int.reduceSub,Int.reduceMul,Int.reduceNeg,Int.reduceNe,reduceCtorEq,Int.reduceToNat,↓reduceIte]
    exact ⟨by simp [len_rlC, h8], by rw [take_rlC _ h8, deg_rlC]; rfl⟩
set_option maxRecDepth 100000 in
set_option maxHeartbeats 4000000 in
theorem p_mrule (l : List Row) (a b : ByteArray) (ha : wordMay a = true ∧ a.size ≤ 1000) (hb : wordMay b = true ∧ b.size ≤ 1000) : PCalls Try.prog 35 [mpV l, .agg [.str a, .str b]] (.bool (withinR (wordR l a) (wordR l b))) := by
  have qa := p_mword l a ha.1 ha.2
  have qb := p_mword l b hb.1 hb.2
  have qw := p_mwithin (wordR l a) (wordR l b) (wordR_length _ _) (wordR_length _ _)
  simp only [rlV, mpV] at qa qb qw
  refine pcalls_of (by simp [free.frees, free, mpV]) rfl (acalls_of mixed J_model_atoms_rule_ok (Nat.le_of_ble_eq_true rfl) ?_); simp only [J_model_atoms_rule, mpV, wk,if_true,if_false,forall_const,implies_true,ne_eq,eq_self,Nat.reduceEqDiff,Nat.reduceAdd,Nat.reduceMul,Nat.reduceSub,Nat.reduceLeDiff,Nat.reduceLT,Int.reduceEq,Int.reduceLT,Int.reduceLE,Int.reduceAdd,Int.reduceSub,Int.reduceMul,Int.reduceNeg,Int.reduceNe,reduceCtorEq,Int.reduceToNat,↓reduceIte]
  refine ⟨_, qa, ?_⟩; simp only [wk,if_true,if_false,forall_const,implies_true,ne_eq,eq_self,Nat.reduceEqDiff,Nat.reduceAdd,Nat.reduceMul,Nat.reduceSub,Nat.reduceLeDiff,Nat.reduceLT,Int.reduceEq,Int.reduceLT,Int.reduceLE,Int.reduceAdd,Int.reduceSub,Int.reduceMul,Int.reduceNeg,Int.reduceNe,reduceCtorEq,Int.reduceToNat,↓reduceIte]
  refine ⟨_, qb, ?_⟩; simp only [wk,if_true,if_false,forall_const,implies_true,ne_eq,eq_self,Nat.reduceEqDiff,Nat.reduceAdd,Nat.reduceMul,Nat.reduceSub,Nat.reduceLeDiff,Nat.reduceLT,Int.reduceEq,Int.reduceLT,Int.reduceLE,Int.reduceAdd,Int.reduceSub,Int.reduceMul,Int.reduceNeg,Int.reduceNe,reduceCtorEq,Int.reduceToNat,↓reduceIte]
  refine ⟨_, qw, ?_⟩; simp only [wk,if_true,if_false,forall_const,implies_true,ne_eq,eq_self,Nat.reduceEqDiff,Nat.reduceAdd,Nat.reduceMul,Nat.reduceSub,Nat.reduceLeDiff,Nat.reduceLT,Int.reduceEq,Int.reduceLT,Int.reduceLE,Int.reduceAdd,Int.reduceSub,Int.reduceMul,Int.reduceNeg,Int.reduceNe,reduceCtorEq,Int.reduceToNat,↓reduceIte]
def mdMay (m : Mdl) : Bool := decide (1 ≤ m.n ∧ m.n ≤ 8) && m.rows.all fun x => decide ((x.to.length : Int) = m.n) && x.to.all fun b => decide (b.toNat / 2 ^ m.n.toNat = 0)
set_option maxRecDepth 100000 in
set_option maxHeartbeats 4000000 in
theorem p_mmay (m : Mdl) (hl : m.rows.length ≤ 1000) (hs : ∀ x ∈ m.rows, smallW x) : PCalls Try.prog 8 [mdV m] (.bool (mdMay m)) := by
  refine pcalls_of (by simp [free.frees, free_mdV]) rfl (acalls_of mixed J_model_May_ok (Nat.le_of_ble_eq_true rfl) ?_); simp only [J_model_May, mdV, wk,if_true,if_false,forall_const,implies_true,ne_eq,eq_self,Nat.reduceEqDiff,Nat.reduceAdd,Nat.reduceMul,Nat.reduceSub,Nat.reduceLeDiff,Nat.reduceLT,Int.reduceEq,Int.reduceLT,Int.reduceLE,Int.reduceAdd,Int.reduceSub,Int.reduceMul,Int.reduceNeg,Int.reduceNe,reduceCtorEq,Int.reduceToNat,↓reduceIte]
  have bad : ¬ (1 ≤ m.n ∧ m.n ≤ 8) → mdMay m = false := fun h => by simp [mdMay, h]
  refine ⟨fun h1 => ⟨fun h2 => boolE (bad (by omega)).symm, fun h2 => ?_⟩, fun h1 => boolE (bad (by omega)).symm⟩
  refine W_loop (fun n fr h => ∃ i : Nat, i ≤ m.rows.length ∧ n = m.rows.length - i ∧ (∀ x ∈ m.rows.take i, (x.to.length : Int) = m.n ∧ ∀ b ∈ x.to, b.toNat / 2 ^ m.n.toNat = 0) ∧ fr = [(1, .ptr 0 0), (16, .lst .ro m.rows.length (rowsC m.rows)), (17, .int .i64 m.rows.length), (18, .int .i64 i)] ∧ ∃ ex, h = some (false, [.int .i64 m.n, .lst .ro m.rows.length (rowsC m.rows)]) :: ex) m.rows.length ⟨0, by omega, by omega, by simp, rfl, _, rfl⟩ ?_
  rintro n fr h' ⟨i, hi, rfl, hall, rfl, ex, rfl⟩
  simp only [J_model_May_j4, wk,if_true,if_false,forall_const,implies_true,ne_eq,eq_self,Nat.reduceEqDiff,Nat.reduceAdd,Nat.reduceMul,Nat.reduceSub,Nat.reduceLeDiff,Nat.reduceLT,Int.reduceEq,Int.reduceLT,Int.reduceLE,Int.reduceAdd,Int.reduceSub,Int.reduceMul,Int.reduceNeg,Int.reduceNe,reduceCtorEq,Int.reduceToNat,↓reduceIte]
  refine ⟨fun hlt => ?_, fun hge => ?_⟩
  · have hil : i < m.rows.length := by omega
    have hin : ((0 ≤ (i : Int)) ∧ (i : Int) < (m.rows.length : Int)) = True := by simp; omega
    have hd := rowsC_at hil
    simp only [rowC, kA, List.cons_append, List.nil_append] at hd
    simp only [hin, Int.toNat_natCast, hd, wk,if_true,if_false,forall_const,implies_true,ne_eq,eq_self,Nat.reduceEqDiff,Nat.reduceAdd,Nat.reduceMul,Nat.reduceSub,Nat.reduceLeDiff,Nat.reduceLT,Int.reduceEq,Int.reduceLT,Int.reduceLE,Int.reduceAdd,Int.reduceSub,Int.reduceMul,Int.reduceNeg,Int.reduceNe,reduceCtorEq,Int.reduceToNat,↓reduceIte]
    have hmem := List.getElem_mem hil
    generalize hx : m.rows[i] = x at hmem hd ⊢
    have badx : (¬ ((x.to.length : Int) = m.n ∧ ∀ b ∈ x.to, b.toNat / 2 ^ m.n.toNat = 0)) → mdMay m = false := fun h => by
      cases hb : mdMay m with
      | false => rfl
      | true =>
        simp only [mdMay, Bool.and_eq_true, decide_eq_true_eq, List.all_eq_true] at hb
        exact absurd (hb.2 x hmem) h
    refine ⟨fun hne => boolE (badx (fun h => hne h.1)).symm, fun he => ?_⟩
    refine W_loop (fun n fr h => ∃ j : Nat, j ≤ x.to.length ∧ n = x.to.length - j ∧ (∀ b ∈ x.to.take j, b.toNat / 2 ^ m.n.toNat = 0) ∧ fr = [(1, .ptr 0 0), (16, .lst .ro m.rows.length (rowsC m.rows)), (17, .int .i64 m.rows.length), (18, .int .i64 i), (29, .lst .ro x.to.length (rlC x.to)), (30, .int .i64 x.to.length), (31, .int .i64 j)] ∧ ∃ ex, h = some (false, [.int .i64 m.n, .lst .ro m.rows.length (rowsC m.rows)]) :: ex) x.to.length ⟨0, by omega, by omega, by simp, rfl, _, rfl⟩ ?_
    rintro n fr h' ⟨j, hj, rfl, hallj, rfl, ex', rfl⟩
    simp only [J_model_May_j3, wk,if_true,if_false,forall_const,implies_true,ne_eq,eq_self,Nat.reduceEqDiff,Nat.reduceAdd,Nat.reduceMul,Nat.reduceSub,Nat.reduceLeDiff,Nat.reduceLT,Int.reduceEq,Int.reduceLT,Int.reduceLE,Int.reduceAdd,Int.reduceSub,Int.reduceMul,Int.reduceNeg,Int.reduceNe,reduceCtorEq,Int.reduceToNat,↓reduceIte]
    refine ⟨fun hlt => ?_, fun hge => ?_⟩
    · have hjl : j < x.to.length := by omega
      have hjn : ((0 ≤ (j : Int)) ∧ (j : Int) < (x.to.length : Int)) = True := by simp; omega
      have hd2 := rlC_drop hjl
      have hmn : min m.n.toNat IntKind.u8.bits = m.n.toNat := by simp [IntKind.bits]; omega
      simp only [u8] at hd2
      simp only [hjn, Int.toNat_natCast, hd2, hmn, fdiv_pow, wk,if_true,if_false,forall_const,implies_true,ne_eq,eq_self,Nat.reduceEqDiff,Nat.reduceAdd,Nat.reduceMul,Nat.reduceSub,Nat.reduceLeDiff,Nat.reduceLT,Int.reduceEq,Int.reduceLT,Int.reduceLE,Int.reduceAdd,Int.reduceSub,Int.reduceMul,Int.reduceNeg,Int.reduceNe,reduceCtorEq,Int.reduceToNat,↓reduceIte]
      refine ⟨by omega, fun hne => boolE (badx (fun h => hne (by exact_mod_cast h.2 _ (List.getElem_mem hjl)))).symm, fun hz => ⟨inR_of (by omega) (by omega), x.to.length - (j + 1), by omega, j + 1, by omega, rfl, fun b hb => ?_, by simp, _, rfl⟩⟩
      rw [List.take_succ_eq_append_getElem hjl, List.mem_append, List.mem_singleton] at hb
      rcases hb with hb | rfl
      · exact hallj b hb
      · exact_mod_cast hz
    · obtain rfl : j = x.to.length := by omega
      rw [List.take_of_length_le (Nat.le_refl _)] at hallj
      simp only [J_model_May_j2, wk,if_true,if_false,forall_const,implies_true,ne_eq,eq_self,Nat.reduceEqDiff,Nat.reduceAdd,Nat.reduceMul,Nat.reduceSub,Nat.reduceLeDiff,Nat.reduceLT,Int.reduceEq,Int.reduceLT,Int.reduceLE,Int.reduceAdd,Int.reduceSub,Int.reduceMul,Int.reduceNeg,Int.reduceNe,reduceCtorEq,Int.reduceToNat,↓reduceIte]
      refine ⟨inR_of (by omega) (by omega), m.rows.length - (i + 1), by omega, i + 1, by omega, rfl, fun y hy => ?_, by simp, _, rfl⟩
      rw [List.take_succ_eq_append_getElem hil, List.mem_append, List.mem_singleton] at hy
      rcases hy with hy | rfl
      · exact hall y hy
      · rw [hx]; exact ⟨he, hallj⟩
  · obtain rfl : i = m.rows.length := by omega
    rw [List.take_of_length_le (Nat.le_refl _)] at hall
    simp only [J_model_May_j1, wk,if_true,if_false,forall_const,implies_true,ne_eq,eq_self,Nat.reduceEqDiff,Nat.reduceAdd,Nat.reduceMul,Nat.reduceSub,Nat.reduceLeDiff,Nat.reduceLT,Int.reduceEq,Int.reduceLT,Int.reduceLE,Int.reduceAdd,Int.reduceSub,Int.reduceMul,Int.reduceNeg,Int.reduceNe,reduceCtorEq,Int.reduceToNat,↓reduceIte]
    refine boolE ?_
    symm
    simp only [mdMay, Bool.and_eq_true, decide_eq_true_eq, List.all_eq_true]
    exact ⟨by omega, fun x hx => hall x hx⟩
end Go.Proofs.Ytlfnepcglnjogaa

/- Models: what the program tells of words and sets, over the abstract code. -/
-- fast
namespace Go.Proofs.Ytlfnepcglnjogaa
set_option linter.unusedSimpArgs false
set_option linter.unusedVariables false
open Go.RowKit Go.Lib

def smallMd (m : Mdl) : Prop := m.rows.length ≤ 1000 ∧ ∀ x ∈ m.rows, smallW x
def toldV (m : Mdl) (r : Rl) : AV := .lst .ro m.n.toNat (rlC (r.take m.n.toNat))
def mWordV (m : Mdl) (w : ByteArray) : AV := if mdMay m && wordMay w then .tup [toldV m (wordR m.rows w), .int .i64 0] else .tup [.lst .clip 0 [], .int .i64 2]
def mSetV (m : Mdl) (s : List ByteArray) : AV := if mdMay m && setMay s then .tup [toldV m (setN m.rows s), .int .i64 0] else .tup [.lst .clip 0 [], .int .i64 2]
def tupB (ok b : Bool) : AV := if ok then .tup [.bool b, .int .i64 0] else .tup [.bool false, .int .i64 2]
theorem mdMay_n {m : Mdl} (h : mdMay m = true) : 1 ≤ m.n ∧ m.n ≤ 8 := by
  simp only [mdMay, Bool.and_eq_true, decide_eq_true_eq] at h; exact h.1
theorem free_told (m : Mdl) (r : Rl) : free (toldV m r) = true := by simp [toldV, free, frees_rlC]
theorem free_mWordV (m : Mdl) (w : ByteArray) : free (mWordV m w) = true := by unfold mWordV; split <;> simp [free, free.frees, free_told]
theorem free_mSetV (m : Mdl) (w : List ByteArray) : free (mSetV m w) = true := by unfold mSetV; split <;> simp [free, free.frees, free_told]
theorem free_tupB (a b : Bool) : free (tupB a b) = true := by unfold tupB; split <;> simp [free, free.frees]
set_option maxRecDepth 100000 in
set_option maxHeartbeats 4000000 in
theorem p_mWord (m : Mdl) (w : ByteArray) (hm : smallMd m) (hw : w.size ≤ 1000) : PCalls Try.prog 10 [mdV m, .str w] (mWordV m w) := by
  refine pcalls_of (by simp [free.frees, free, free_mdV]) (free_mWordV _ _) (acalls_of mixed J_model_Word_ok (Nat.le_of_ble_eq_true rfl) ?_); simp only [J_model_Word, mdV, wk,if_true,if_false,forall_const,implies_true,ne_eq,eq_self,Nat.reduceEqDiff,Nat.reduceAdd,Nat.reduceMul,Nat.reduceSub,Nat.reduceLeDiff,Nat.reduceLT,Int.reduceEq,Int.reduceLT,Int.reduceLE,Int.reduceAdd,Int.reduceSub,Int.reduceMul,Int.reduceNeg,Int.reduceNe,reduceCtorEq,Int.reduceToNat,↓reduceIte]
  have qm := p_mmay m hm.1 hm.2
  have qw := p_wmay w (by omega)
  have qr := p_mread m hm.1 hm.2
  simp only [mdV] at qm qr
  refine PCalls.use (qm) ?_; simp only [wk,if_true,if_false,forall_const,implies_true,ne_eq,eq_self,Nat.reduceEqDiff,Nat.reduceAdd,Nat.reduceMul,Nat.reduceSub,Nat.reduceLeDiff,Nat.reduceLT,Int.reduceEq,Int.reduceLT,Int.reduceLE,Int.reduceAdd,Int.reduceSub,Int.reduceMul,Int.reduceNeg,Int.reduceNe,reduceCtorEq,Int.reduceToNat,↓reduceIte]
  cases hmm : mdMay m with
  | false => simp only [hmm, wk,if_true,if_false,forall_const,implies_true,ne_eq,eq_self,Nat.reduceEqDiff,Nat.reduceAdd,Nat.reduceMul,Nat.reduceSub,Nat.reduceLeDiff,Nat.reduceLT,Int.reduceEq,Int.reduceLT,Int.reduceLE,Int.reduceAdd,Int.reduceSub,Int.reduceMul,Int.reduceNeg,Int.reduceNe,reduceCtorEq,Int.reduceToNat,↓reduceIte]; simp [mWordV, hmm]
  | true =>
    try simp only [hmm, wk,if_true,if_false,forall_const,implies_true,ne_eq,eq_self,Nat.reduceEqDiff,Nat.reduceAdd,Nat.reduceMul,Nat.reduceSub,Nat.reduceLeDiff,Nat.reduceLT,Int.reduceEq,Int.reduceLT,Int.reduceLE,Int.reduceAdd,Int.reduceSub,Int.reduceMul,Int.reduceNeg,Int.reduceNe,reduceCtorEq,Int.reduceToNat,↓reduceIte]
    refine PCalls.use (qw) ?_; simp only [wk,if_true,if_false,forall_const,implies_true,ne_eq,eq_self,Nat.reduceEqDiff,Nat.reduceAdd,Nat.reduceMul,Nat.reduceSub,Nat.reduceLeDiff,Nat.reduceLT,Int.reduceEq,Int.reduceLT,Int.reduceLE,Int.reduceAdd,Int.reduceSub,Int.reduceMul,Int.reduceNeg,Int.reduceNe,reduceCtorEq,Int.reduceToNat,↓reduceIte]
    cases hww : wordMay w with
    | false => simp only [hww, wk,if_true,if_false,forall_const,implies_true,ne_eq,eq_self,Nat.reduceEqDiff,Nat.reduceAdd,Nat.reduceMul,Nat.reduceSub,Nat.reduceLeDiff,Nat.reduceLT,Int.reduceEq,Int.reduceLT,Int.reduceLE,Int.reduceAdd,Int.reduceSub,Int.reduceMul,Int.reduceNeg,Int.reduceNe,reduceCtorEq,Int.reduceToNat,↓reduceIte]; simp [mWordV, hmm, hww]
    | true =>
      try simp only [hww, wk,if_true,if_false,forall_const,implies_true,ne_eq,eq_self,Nat.reduceEqDiff,Nat.reduceAdd,Nat.reduceMul,Nat.reduceSub,Nat.reduceLeDiff,Nat.reduceLT,Int.reduceEq,Int.reduceLT,Int.reduceLE,Int.reduceAdd,Int.reduceSub,Int.reduceMul,Int.reduceNeg,Int.reduceNe,reduceCtorEq,Int.reduceToNat,↓reduceIte]
      have qd := p_mword m.rows w hww hw
      have qt := p_mtold m (wordR m.rows w) (wordR_length _ _) (by have := mdMay_n hmm; omega) (mdMay_n hmm).2
      simp only [mpV, mdV] at qd qt
      refine ⟨_, qr, ?_⟩; simp only [wk,if_true,if_false,forall_const,implies_true,ne_eq,eq_self,Nat.reduceEqDiff,Nat.reduceAdd,Nat.reduceMul,Nat.reduceSub,Nat.reduceLeDiff,Nat.reduceLT,Int.reduceEq,Int.reduceLT,Int.reduceLE,Int.reduceAdd,Int.reduceSub,Int.reduceMul,Int.reduceNeg,Int.reduceNe,reduceCtorEq,Int.reduceToNat,↓reduceIte]
      refine ⟨_, qd, ?_⟩; try simp only [wk,if_true,if_false,forall_const,implies_true,ne_eq,eq_self,Nat.reduceEqDiff,Nat.reduceAdd,Nat.reduceMul,Nat.reduceSub,Nat.reduceLeDiff,Nat.reduceLT,Int.reduceEq,Int.reduceLT,Int.reduceLE,Int.reduceAdd,Int.reduceSub,Int.reduceMul,Int.reduceNeg,Int.reduceNe,reduceCtorEq,Int.reduceToNat,↓reduceIte]
      refine PCalls.use (qt) ?_; simp only [wk,if_true,if_false,forall_const,implies_true,ne_eq,eq_self,Nat.reduceEqDiff,Nat.reduceAdd,Nat.reduceMul,Nat.reduceSub,Nat.reduceLeDiff,Nat.reduceLT,Int.reduceEq,Int.reduceLT,Int.reduceLE,Int.reduceAdd,Int.reduceSub,Int.reduceMul,Int.reduceNeg,Int.reduceNe,reduceCtorEq,Int.reduceToNat,↓reduceIte]
      simp [mWordV, hmm, hww, toldV]
set_option maxRecDepth 100000 in
set_option maxHeartbeats 4000000 in
theorem p_mSet (m : Mdl) (s : List ByteArray) (hm : smallMd m) (hn : s.length ≤ 1000) (hs : ∀ w ∈ s, w.size ≤ 1000) : PCalls Try.prog 12 [mdV m, .lst .ro s.length (s.map .str)] (mSetV m s) := by
  refine pcalls_of (by simp [free.frees, free, free_mdV, frees_strs]) (free_mSetV _ _) (acalls_of mixed J_model_Set_ok (Nat.le_of_ble_eq_true rfl) ?_); simp only [J_model_Set, mdV, wk,if_true,if_false,forall_const,implies_true,ne_eq,eq_self,Nat.reduceEqDiff,Nat.reduceAdd,Nat.reduceMul,Nat.reduceSub,Nat.reduceLeDiff,Nat.reduceLT,Int.reduceEq,Int.reduceLT,Int.reduceLE,Int.reduceAdd,Int.reduceSub,Int.reduceMul,Int.reduceNeg,Int.reduceNe,reduceCtorEq,Int.reduceToNat,↓reduceIte]
  have qm := p_mmay m hm.1 hm.2
  have qw := p_smay s (by omega) (fun x hx => by have := hs x hx; omega)
  have qr := p_mread m hm.1 hm.2
  simp only [mdV] at qm qr
  refine PCalls.use (qm) ?_; simp only [wk,if_true,if_false,forall_const,implies_true,ne_eq,eq_self,Nat.reduceEqDiff,Nat.reduceAdd,Nat.reduceMul,Nat.reduceSub,Nat.reduceLeDiff,Nat.reduceLT,Int.reduceEq,Int.reduceLT,Int.reduceLE,Int.reduceAdd,Int.reduceSub,Int.reduceMul,Int.reduceNeg,Int.reduceNe,reduceCtorEq,Int.reduceToNat,↓reduceIte]
  cases hmm : mdMay m with
  | false => simp only [hmm, wk,if_true,if_false,forall_const,implies_true,ne_eq,eq_self,Nat.reduceEqDiff,Nat.reduceAdd,Nat.reduceMul,Nat.reduceSub,Nat.reduceLeDiff,Nat.reduceLT,Int.reduceEq,Int.reduceLT,Int.reduceLE,Int.reduceAdd,Int.reduceSub,Int.reduceMul,Int.reduceNeg,Int.reduceNe,reduceCtorEq,Int.reduceToNat,↓reduceIte]; simp [mSetV, hmm]
  | true =>
    try simp only [hmm, wk,if_true,if_false,forall_const,implies_true,ne_eq,eq_self,Nat.reduceEqDiff,Nat.reduceAdd,Nat.reduceMul,Nat.reduceSub,Nat.reduceLeDiff,Nat.reduceLT,Int.reduceEq,Int.reduceLT,Int.reduceLE,Int.reduceAdd,Int.reduceSub,Int.reduceMul,Int.reduceNeg,Int.reduceNe,reduceCtorEq,Int.reduceToNat,↓reduceIte]
    refine PCalls.use (qw) ?_; simp only [wk,if_true,if_false,forall_const,implies_true,ne_eq,eq_self,Nat.reduceEqDiff,Nat.reduceAdd,Nat.reduceMul,Nat.reduceSub,Nat.reduceLeDiff,Nat.reduceLT,Int.reduceEq,Int.reduceLT,Int.reduceLE,Int.reduceAdd,Int.reduceSub,Int.reduceMul,Int.reduceNeg,Int.reduceNe,reduceCtorEq,Int.reduceToNat,↓reduceIte]
    cases hww : setMay s with
    | false => simp only [hww, wk,if_true,if_false,forall_const,implies_true,ne_eq,eq_self,Nat.reduceEqDiff,Nat.reduceAdd,Nat.reduceMul,Nat.reduceSub,Nat.reduceLeDiff,Nat.reduceLT,Int.reduceEq,Int.reduceLT,Int.reduceLE,Int.reduceAdd,Int.reduceSub,Int.reduceMul,Int.reduceNeg,Int.reduceNe,reduceCtorEq,Int.reduceToNat,↓reduceIte]; simp [mSetV, hmm, hww]
    | true =>
      try simp only [hww, wk,if_true,if_false,forall_const,implies_true,ne_eq,eq_self,Nat.reduceEqDiff,Nat.reduceAdd,Nat.reduceMul,Nat.reduceSub,Nat.reduceLeDiff,Nat.reduceLT,Int.reduceEq,Int.reduceLT,Int.reduceLE,Int.reduceAdd,Int.reduceSub,Int.reduceMul,Int.reduceNeg,Int.reduceNe,reduceCtorEq,Int.reduceToNat,↓reduceIte]
      have qd := p_mset m.rows s hn (fun w hx => ⟨(setMay_words hww).2 w hx, hs w hx⟩)
      have qt := p_mtold m (setN m.rows s) (setN_length _ _) (by have := mdMay_n hmm; omega) (mdMay_n hmm).2
      simp only [mpV, mdV] at qd qt
      refine ⟨_, qr, ?_⟩; simp only [wk,if_true,if_false,forall_const,implies_true,ne_eq,eq_self,Nat.reduceEqDiff,Nat.reduceAdd,Nat.reduceMul,Nat.reduceSub,Nat.reduceLeDiff,Nat.reduceLT,Int.reduceEq,Int.reduceLT,Int.reduceLE,Int.reduceAdd,Int.reduceSub,Int.reduceMul,Int.reduceNeg,Int.reduceNe,reduceCtorEq,Int.reduceToNat,↓reduceIte]
      refine ⟨_, qd, ?_⟩; try simp only [wk,if_true,if_false,forall_const,implies_true,ne_eq,eq_self,Nat.reduceEqDiff,Nat.reduceAdd,Nat.reduceMul,Nat.reduceSub,Nat.reduceLeDiff,Nat.reduceLT,Int.reduceEq,Int.reduceLT,Int.reduceLE,Int.reduceAdd,Int.reduceSub,Int.reduceMul,Int.reduceNeg,Int.reduceNe,reduceCtorEq,Int.reduceToNat,↓reduceIte]
      refine PCalls.use (qt) ?_; simp only [wk,if_true,if_false,forall_const,implies_true,ne_eq,eq_self,Nat.reduceEqDiff,Nat.reduceAdd,Nat.reduceMul,Nat.reduceSub,Nat.reduceLeDiff,Nat.reduceLT,Int.reduceEq,Int.reduceLT,Int.reduceLE,Int.reduceAdd,Int.reduceSub,Int.reduceMul,Int.reduceNeg,Int.reduceNe,reduceCtorEq,Int.reduceToNat,↓reduceIte]
      simp [mSetV, hmm, hww, toldV]
set_option maxRecDepth 100000 in
set_option maxHeartbeats 4000000 in
theorem p_mHolds (m : Mdl) (a b : ByteArray) (hm : smallMd m) (ha : a.size ≤ 1000) (hb : b.size ≤ 1000) : PCalls Try.prog 14 [mdV m, .agg [.str a, .str b]] (tupB (mdMay m && (wordMay a && wordMay b)) (withinR (wordR m.rows a) (wordR m.rows b))) := by
  refine pcalls_of (by simp [free.frees, free, free_mdV]) (free_tupB _ _) (acalls_of mixed J_model_Holds_ok (Nat.le_of_ble_eq_true rfl) ?_); simp only [J_model_Holds, mdV, wk,if_true,if_false,forall_const,implies_true,ne_eq,eq_self,Nat.reduceEqDiff,Nat.reduceAdd,Nat.reduceMul,Nat.reduceSub,Nat.reduceLeDiff,Nat.reduceLT,Int.reduceEq,Int.reduceLT,Int.reduceLE,Int.reduceAdd,Int.reduceSub,Int.reduceMul,Int.reduceNeg,Int.reduceNe,reduceCtorEq,Int.reduceToNat,↓reduceIte]
  have qm := p_mmay m hm.1 hm.2
  have qa := p_wmay a (by omega)
  have qb := p_wmay b (by omega)
  have qr := p_mread m hm.1 hm.2
  simp only [mdV] at qm qr
  refine PCalls.use (qm) ?_; simp only [wk,if_true,if_false,forall_const,implies_true,ne_eq,eq_self,Nat.reduceEqDiff,Nat.reduceAdd,Nat.reduceMul,Nat.reduceSub,Nat.reduceLeDiff,Nat.reduceLT,Int.reduceEq,Int.reduceLT,Int.reduceLE,Int.reduceAdd,Int.reduceSub,Int.reduceMul,Int.reduceNeg,Int.reduceNe,reduceCtorEq,Int.reduceToNat,↓reduceIte]
  cases hmm : mdMay m with
  | false => simp only [hmm, wk,if_true,if_false,forall_const,implies_true,ne_eq,eq_self,Nat.reduceEqDiff,Nat.reduceAdd,Nat.reduceMul,Nat.reduceSub,Nat.reduceLeDiff,Nat.reduceLT,Int.reduceEq,Int.reduceLT,Int.reduceLE,Int.reduceAdd,Int.reduceSub,Int.reduceMul,Int.reduceNeg,Int.reduceNe,reduceCtorEq,Int.reduceToNat,↓reduceIte]; simp [tupB, hmm]
  | true =>
    try simp only [hmm, wk,if_true,if_false,forall_const,implies_true,ne_eq,eq_self,Nat.reduceEqDiff,Nat.reduceAdd,Nat.reduceMul,Nat.reduceSub,Nat.reduceLeDiff,Nat.reduceLT,Int.reduceEq,Int.reduceLT,Int.reduceLE,Int.reduceAdd,Int.reduceSub,Int.reduceMul,Int.reduceNeg,Int.reduceNe,reduceCtorEq,Int.reduceToNat,↓reduceIte]
    refine PCalls.use (qa) ?_; simp only [wk,if_true,if_false,forall_const,implies_true,ne_eq,eq_self,Nat.reduceEqDiff,Nat.reduceAdd,Nat.reduceMul,Nat.reduceSub,Nat.reduceLeDiff,Nat.reduceLT,Int.reduceEq,Int.reduceLT,Int.reduceLE,Int.reduceAdd,Int.reduceSub,Int.reduceMul,Int.reduceNeg,Int.reduceNe,reduceCtorEq,Int.reduceToNat,↓reduceIte]
    cases haa : wordMay a with
    | false => simp only [haa, wk,if_true,if_false,forall_const,implies_true,ne_eq,eq_self,Nat.reduceEqDiff,Nat.reduceAdd,Nat.reduceMul,Nat.reduceSub,Nat.reduceLeDiff,Nat.reduceLT,Int.reduceEq,Int.reduceLT,Int.reduceLE,Int.reduceAdd,Int.reduceSub,Int.reduceMul,Int.reduceNeg,Int.reduceNe,reduceCtorEq,Int.reduceToNat,↓reduceIte]; simp [tupB, hmm, haa]
    | true =>
      try simp only [haa, wk,if_true,if_false,forall_const,implies_true,ne_eq,eq_self,Nat.reduceEqDiff,Nat.reduceAdd,Nat.reduceMul,Nat.reduceSub,Nat.reduceLeDiff,Nat.reduceLT,Int.reduceEq,Int.reduceLT,Int.reduceLE,Int.reduceAdd,Int.reduceSub,Int.reduceMul,Int.reduceNeg,Int.reduceNe,reduceCtorEq,Int.reduceToNat,↓reduceIte]
      refine PCalls.use (qb) ?_; simp only [wk,if_true,if_false,forall_const,implies_true,ne_eq,eq_self,Nat.reduceEqDiff,Nat.reduceAdd,Nat.reduceMul,Nat.reduceSub,Nat.reduceLeDiff,Nat.reduceLT,Int.reduceEq,Int.reduceLT,Int.reduceLE,Int.reduceAdd,Int.reduceSub,Int.reduceMul,Int.reduceNeg,Int.reduceNe,reduceCtorEq,Int.reduceToNat,↓reduceIte]
      cases hbb : wordMay b with
      | false => simp only [hbb, wk,if_true,if_false,forall_const,implies_true,ne_eq,eq_self,Nat.reduceEqDiff,Nat.reduceAdd,Nat.reduceMul,Nat.reduceSub,Nat.reduceLeDiff,Nat.reduceLT,Int.reduceEq,Int.reduceLT,Int.reduceLE,Int.reduceAdd,Int.reduceSub,Int.reduceMul,Int.reduceNeg,Int.reduceNe,reduceCtorEq,Int.reduceToNat,↓reduceIte]; simp [tupB, hmm, haa, hbb]
      | true =>
        try simp only [hbb, wk,if_true,if_false,forall_const,implies_true,ne_eq,eq_self,Nat.reduceEqDiff,Nat.reduceAdd,Nat.reduceMul,Nat.reduceSub,Nat.reduceLeDiff,Nat.reduceLT,Int.reduceEq,Int.reduceLT,Int.reduceLE,Int.reduceAdd,Int.reduceSub,Int.reduceMul,Int.reduceNeg,Int.reduceNe,reduceCtorEq,Int.reduceToNat,↓reduceIte]
        have qd := p_mrule m.rows a b ⟨haa, ha⟩ ⟨hbb, hb⟩
        simp only [mpV] at qd
        refine ⟨_, qr, ?_⟩; simp only [wk,if_true,if_false,forall_const,implies_true,ne_eq,eq_self,Nat.reduceEqDiff,Nat.reduceAdd,Nat.reduceMul,Nat.reduceSub,Nat.reduceLeDiff,Nat.reduceLT,Int.reduceEq,Int.reduceLT,Int.reduceLE,Int.reduceAdd,Int.reduceSub,Int.reduceMul,Int.reduceNeg,Int.reduceNe,reduceCtorEq,Int.reduceToNat,↓reduceIte]
        refine ⟨_, qd, ?_⟩; simp only [wk,if_true,if_false,forall_const,implies_true,ne_eq,eq_self,Nat.reduceEqDiff,Nat.reduceAdd,Nat.reduceMul,Nat.reduceSub,Nat.reduceLeDiff,Nat.reduceLT,Int.reduceEq,Int.reduceLT,Int.reduceLE,Int.reduceAdd,Int.reduceSub,Int.reduceMul,Int.reduceNeg,Int.reduceNe,reduceCtorEq,Int.reduceToNat,↓reduceIte]
        simp [tupB, hmm, haa, hbb]
set_option maxRecDepth 100000 in
set_option maxHeartbeats 4000000 in
theorem p_mSpeaks (m : Mdl) (a b : List ByteArray) (hm : smallMd m) (ha : a.length ≤ 1000 ∧ ∀ w ∈ a, w.size ≤ 1000) (hb : b.length ≤ 1000 ∧ ∀ w ∈ b, w.size ≤ 1000) : PCalls Try.prog 16 [mdV m, .lst .ro a.length (a.map .str), .lst .ro b.length (b.map .str)] (tupB (mdMay m && (setMay a && setMay b)) (withinR (setN m.rows b) (setN m.rows a))) := by
  refine pcalls_of (by simp [free.frees, free, free_mdV, frees_strs]) (free_tupB _ _) (acalls_of mixed J_model_Speaks_ok (Nat.le_of_ble_eq_true rfl) ?_); simp only [J_model_Speaks, mdV, wk,if_true,if_false,forall_const,implies_true,ne_eq,eq_self,Nat.reduceEqDiff,Nat.reduceAdd,Nat.reduceMul,Nat.reduceSub,Nat.reduceLeDiff,Nat.reduceLT,Int.reduceEq,Int.reduceLT,Int.reduceLE,Int.reduceAdd,Int.reduceSub,Int.reduceMul,Int.reduceNeg,Int.reduceNe,reduceCtorEq,Int.reduceToNat,↓reduceIte]
  have qm := p_mmay m hm.1 hm.2
  have qa := p_smay a (by omega) (fun x hx => by have := ha.2 x hx; omega)
  have qb := p_smay b (by omega) (fun x hx => by have := hb.2 x hx; omega)
  have qr := p_mread m hm.1 hm.2
  simp only [mdV] at qm qr
  refine PCalls.use (qm) ?_; simp only [wk,if_true,if_false,forall_const,implies_true,ne_eq,eq_self,Nat.reduceEqDiff,Nat.reduceAdd,Nat.reduceMul,Nat.reduceSub,Nat.reduceLeDiff,Nat.reduceLT,Int.reduceEq,Int.reduceLT,Int.reduceLE,Int.reduceAdd,Int.reduceSub,Int.reduceMul,Int.reduceNeg,Int.reduceNe,reduceCtorEq,Int.reduceToNat,↓reduceIte]
  cases hmm : mdMay m with
  | false => simp only [hmm, wk,if_true,if_false,forall_const,implies_true,ne_eq,eq_self,Nat.reduceEqDiff,Nat.reduceAdd,Nat.reduceMul,Nat.reduceSub,Nat.reduceLeDiff,Nat.reduceLT,Int.reduceEq,Int.reduceLT,Int.reduceLE,Int.reduceAdd,Int.reduceSub,Int.reduceMul,Int.reduceNeg,Int.reduceNe,reduceCtorEq,Int.reduceToNat,↓reduceIte]; simp [tupB, hmm]
  | true =>
    try simp only [hmm, wk,if_true,if_false,forall_const,implies_true,ne_eq,eq_self,Nat.reduceEqDiff,Nat.reduceAdd,Nat.reduceMul,Nat.reduceSub,Nat.reduceLeDiff,Nat.reduceLT,Int.reduceEq,Int.reduceLT,Int.reduceLE,Int.reduceAdd,Int.reduceSub,Int.reduceMul,Int.reduceNeg,Int.reduceNe,reduceCtorEq,Int.reduceToNat,↓reduceIte]
    refine PCalls.use (qa) ?_; simp only [wk,if_true,if_false,forall_const,implies_true,ne_eq,eq_self,Nat.reduceEqDiff,Nat.reduceAdd,Nat.reduceMul,Nat.reduceSub,Nat.reduceLeDiff,Nat.reduceLT,Int.reduceEq,Int.reduceLT,Int.reduceLE,Int.reduceAdd,Int.reduceSub,Int.reduceMul,Int.reduceNeg,Int.reduceNe,reduceCtorEq,Int.reduceToNat,↓reduceIte]
    cases haa : setMay a with
    | false => simp only [haa, wk,if_true,if_false,forall_const,implies_true,ne_eq,eq_self,Nat.reduceEqDiff,Nat.reduceAdd,Nat.reduceMul,Nat.reduceSub,Nat.reduceLeDiff,Nat.reduceLT,Int.reduceEq,Int.reduceLT,Int.reduceLE,Int.reduceAdd,Int.reduceSub,Int.reduceMul,Int.reduceNeg,Int.reduceNe,reduceCtorEq,Int.reduceToNat,↓reduceIte]; simp [tupB, hmm, haa]
    | true =>
      try simp only [haa, wk,if_true,if_false,forall_const,implies_true,ne_eq,eq_self,Nat.reduceEqDiff,Nat.reduceAdd,Nat.reduceMul,Nat.reduceSub,Nat.reduceLeDiff,Nat.reduceLT,Int.reduceEq,Int.reduceLT,Int.reduceLE,Int.reduceAdd,Int.reduceSub,Int.reduceMul,Int.reduceNeg,Int.reduceNe,reduceCtorEq,Int.reduceToNat,↓reduceIte]
      refine PCalls.use (qb) ?_; simp only [wk,if_true,if_false,forall_const,implies_true,ne_eq,eq_self,Nat.reduceEqDiff,Nat.reduceAdd,Nat.reduceMul,Nat.reduceSub,Nat.reduceLeDiff,Nat.reduceLT,Int.reduceEq,Int.reduceLT,Int.reduceLE,Int.reduceAdd,Int.reduceSub,Int.reduceMul,Int.reduceNeg,Int.reduceNe,reduceCtorEq,Int.reduceToNat,↓reduceIte]
      cases hbb : setMay b with
      | false => simp only [hbb, wk,if_true,if_false,forall_const,implies_true,ne_eq,eq_self,Nat.reduceEqDiff,Nat.reduceAdd,Nat.reduceMul,Nat.reduceSub,Nat.reduceLeDiff,Nat.reduceLT,Int.reduceEq,Int.reduceLT,Int.reduceLE,Int.reduceAdd,Int.reduceSub,Int.reduceMul,Int.reduceNeg,Int.reduceNe,reduceCtorEq,Int.reduceToNat,↓reduceIte]; simp [tupB, hmm, haa, hbb]
      | true =>
        try simp only [hbb, wk,if_true,if_false,forall_const,implies_true,ne_eq,eq_self,Nat.reduceEqDiff,Nat.reduceAdd,Nat.reduceMul,Nat.reduceSub,Nat.reduceLeDiff,Nat.reduceLT,Int.reduceEq,Int.reduceLT,Int.reduceLE,Int.reduceAdd,Int.reduceSub,Int.reduceMul,Int.reduceNeg,Int.reduceNe,reduceCtorEq,Int.reduceToNat,↓reduceIte]
        have qd := p_mset m.rows a ha.1 (fun w hx => ⟨(setMay_words haa).2 w hx, ha.2 w hx⟩)
        have qe := p_mset m.rows b hb.1 (fun w hx => ⟨(setMay_words hbb).2 w hx, hb.2 w hx⟩)
        have qw := p_mwithin (setN m.rows b) (setN m.rows a) (setN_length _ _) (setN_length _ _)
        simp only [mpV, rlV] at qd qe qw
        refine PCalls.use (qr) ?_; simp only [wk,if_true,if_false,forall_const,implies_true,ne_eq,eq_self,Nat.reduceEqDiff,Nat.reduceAdd,Nat.reduceMul,Nat.reduceSub,Nat.reduceLeDiff,Nat.reduceLT,Int.reduceEq,Int.reduceLT,Int.reduceLE,Int.reduceAdd,Int.reduceSub,Int.reduceMul,Int.reduceNeg,Int.reduceNe,reduceCtorEq,Int.reduceToNat,↓reduceIte]
        refine PCalls.use (qe) ?_; simp only [wk,if_true,if_false,forall_const,implies_true,ne_eq,eq_self,Nat.reduceEqDiff,Nat.reduceAdd,Nat.reduceMul,Nat.reduceSub,Nat.reduceLeDiff,Nat.reduceLT,Int.reduceEq,Int.reduceLT,Int.reduceLE,Int.reduceAdd,Int.reduceSub,Int.reduceMul,Int.reduceNeg,Int.reduceNe,reduceCtorEq,Int.reduceToNat,↓reduceIte]
        refine PCalls.use (qd) ?_; simp only [wk,if_true,if_false,forall_const,implies_true,ne_eq,eq_self,Nat.reduceEqDiff,Nat.reduceAdd,Nat.reduceMul,Nat.reduceSub,Nat.reduceLeDiff,Nat.reduceLT,Int.reduceEq,Int.reduceLT,Int.reduceLE,Int.reduceAdd,Int.reduceSub,Int.reduceMul,Int.reduceNeg,Int.reduceNe,reduceCtorEq,Int.reduceToNat,↓reduceIte]
        refine PCalls.use (qw) ?_; simp only [wk,if_true,if_false,forall_const,implies_true,ne_eq,eq_self,Nat.reduceEqDiff,Nat.reduceAdd,Nat.reduceMul,Nat.reduceSub,Nat.reduceLeDiff,Nat.reduceLT,Int.reduceEq,Int.reduceLT,Int.reduceLE,Int.reduceAdd,Int.reduceSub,Int.reduceMul,Int.reduceNeg,Int.reduceNe,reduceCtorEq,Int.reduceToNat,↓reduceIte]
        simp [tupB, hmm, haa, hbb]
end Go.Proofs.Ytlfnepcglnjogaa

/- The abstract layer: a full slice may be handed where one is only read. -/
namespace Go.Proofs.Ytlfnepcglnjogaa
set_option linter.unusedSimpArgs false
set_option linter.unusedVariables false
open Go.RowKit Go.Lib

def ro : AV → AV
  | .lst .clip n l => .lst .ro n l
  | a => a
theorem Rep.ro {g : Gh} {v : Value} {a : AV} (h : Rep g v a) : Rep g v (ro a) := by
  cases h with
  | lst b off n c f vs l h1 h2 h3 h4 h5 => cases f with
    | clip => exact .lst b off n c .ro vs l h1 h2 h3 (fun h => by cases h) h5
    | _ => exact .lst b off n c _ vs l h1 h2 h3 h4 h5
  | lst0 a c f h => cases f with
    | clip => exact .lst0 a c .ro (fun h => by cases h)
    | _ => exact .lst0 a c _ h
  | itr b s p => exact .itr _ _ _
  | omp b ks vs => exact .omp b ks vs
  | mp b => exact .mp b
  | fmp b obj ks vs h1 h2 => exact .fmp b obj ks vs h1 h2
  | stk a c e o l h1 h2 h3 => exact .stk a c e o l h1 h2 h3
  | raw a n c h1 h2 => exact .raw a n c h1 h2
  | rawp b i n c => exact .rawp b i n c
  | opq v h h' => exact .opq _ h h'
  | frn v Q S W0 h h' h3 h4 => exact .frn _ Q S W0 h h' h3 h4
  | _ => first | exact .bool _ | exact .int _ _ | exact .str _ | exact .nilp | (exact .ptr _ _ _ ‹_›) | (exact .fp _ _ _ _ ‹_› ‹_› ‹_›) | (exact .hs _ _ _ _ ‹_› ‹_›) | (exact .hsc _ _ _ _ ‹_› ‹_›) | (exact .agg _ _ ‹_› ‹_› ‹_›) | (exact .tup _ _ ‹_› ‹_›) | (exact .fn _ _ _ ‹_› ‹_›) | (exact .fnb _ _ _ ‹_› ‹_›) | exact .nilf
theorem RepL.ro {g : Gh} : ∀ {vs : List Value} {l : List AV}, RepL g vs l → RepL g vs (l.map ro)
  | _, _, .nil => .nil
  | _, _, .cons h hl => .cons h.ro (RepL.ro hl)
theorem plain_ro {a : AV} (h : plain a = true) : plain (ro a) = true := by
  cases a with
  | lst f n l => cases f <;> first | rfl | exact h
  | _ => exact h
theorem free_ro (a : AV) : free (ro a) = free a := by
  cases a with
  | lst f n l => cases f <;> simp [Go.Proofs.Ytlfnepcglnjogaa.ro, free]
  | _ => rfl
theorem frees_ro : ∀ l : List AV, free.frees (l.map ro) = free.frees l
  | [] => rfl
  | a :: l => by simp only [List.map_cons, free.frees, free_ro, frees_ro l]
theorem ACalls.ro {P : Program} {f : FuncId} {args : List AV} {h : Hp} {R : AV → Hp → Prop} (hc : ACalls P f (args.map ro) h R) : ACalls P f args h R :=
  ⟨hc.1, fun g w vargs h1 h2 h3 h4 => hc.2 g w vargs h1 h2 h3.ro (fun a ha => by
    obtain ⟨b, hb, rfl⟩ := List.mem_map.1 ha
    exact plain_ro (h4 b hb))⟩
theorem PCalls.ro {P : Program} {f : FuncId} {args : List AV} {v : AV} (hc : PCalls P f (args.map ro) v) : PCalls P f args v :=
  ⟨by rw [← frees_ro]; exact hc.1, hc.2.1, ACalls.ro hc.2.2⟩
def rod : AV → AV
  | .tup l => .tup (l.map ro)
  | a => ro a
theorem Rep.rod {g : Gh} {v : Value} {a : AV} (h : Rep g v a) : Rep g v (rod a) := by
  cases h with
  | tup vs l h1 h2 => exact .tup vs _ (fun a ha => by obtain ⟨b, hb, rfl⟩ := List.mem_map.1 ha; exact plain_ro (h1 b hb)) h2.ro
  | lst b off n c f vs l h1 h2 h3 h4 h5 => exact (Rep.lst b off n c f vs l h1 h2 h3 h4 h5).ro
  | lst0 a c f h => exact (Rep.lst0 a c f h).ro
  | itr b s p => exact .itr _ _ _
  | omp b ks vs => exact .omp b ks vs
  | mp b => exact .mp b
  | fmp b obj ks vs h1 h2 => exact .fmp b obj ks vs h1 h2
  | stk a c e o l h1 h2 h3 => exact .stk a c e o l h1 h2 h3
  | raw a n c h1 h2 => exact .raw a n c h1 h2
  | rawp b i n c => exact .rawp b i n c
  | opq v h h' => exact .opq _ h h'
  | frn v Q S W0 h h' h3 h4 => exact .frn _ Q S W0 h h' h3 h4
  | _ => first | exact .bool _ | exact .int _ _ | exact .str _ | exact .nilp | (exact .ptr _ _ _ ‹_›) | (exact .fp _ _ _ _ ‹_› ‹_› ‹_›) | (exact .hs _ _ _ _ ‹_› ‹_›) | (exact .hsc _ _ _ _ ‹_› ‹_›) | (exact .agg _ _ ‹_› ‹_› ‹_›) | (exact .fn _ _ _ ‹_› ‹_›) | (exact .fnb _ _ _ ‹_› ‹_›) | exact .nilf
theorem plain_rod {a : AV} (h : plain a = true) : plain (rod a) = true := by
  cases a with
  | lst f n l => exact plain_ro h
  | _ => first | rfl | exact h
theorem ACalls.weak {P : Program} {f : FuncId} {args : List AV} {h : Hp} {R : AV → Hp → Prop} (hc : ACalls P f args h (fun a h' => R (Go.Proofs.Ytlfnepcglnjogaa.rod a) h')) : ACalls P f args h R :=
  ⟨hc.1, fun g w vargs h1 h2 h3 h4 => (hc.2 g w vargs h1 h2 h3 h4).mono fun _ _ ⟨x, a, h', g', q1, q2, q3, q4, q5, q6, q7⟩ => ⟨x, _, h', g', q1, q2, q3, q4, q5.rod, plain_rod q6, q7⟩⟩
theorem ro_ro (n : Nat) (l : List AV) : ro (.lst .ro n l) = .lst .ro n l := id rfl
end Go.Proofs.Ytlfnepcglnjogaa

namespace Go.Proofs.Ytlfnepcglnjogaa
open Go.RowKit
def J_word_Of_j1 : ACode :=
 .keep [3] (.seq (.ops [⟨some 25, none, .mv (.t 3), none⟩,
 ⟨some 26, none, .b2s (.t 25), none⟩,
 ⟨some 2, none, .mv (.t 26), none⟩])
 (.ret))
def J_word_Of_j2 : ACode :=
 .seq (.ops [⟨some 13, none, .bin .lss (.t 12) (.t 11), none⟩])
 (.keep [3, 10, 11, 12, 13] (.seq (.cond (.t 13)
 (.skip)
 (.exit 0))
 (.keep [3, 10, 11, 12] (.seq (.block 1 (.seq (.ops [⟨some 14, none, .idxa 1 (.t 10) (.t 12), none⟩,
 ⟨some 15, none, .load none (.t 14), none⟩,
 ⟨some 5, none, .mv (.t 15), none⟩])
 (.keep [3, 5, 10, 11, 12] (.ops [⟨some 16, none, .mvo 3, none⟩,
 ⟨some 17, none, .mv (.t 5), none⟩,
 ⟨some 18, none, .bin .shr (.t 17) (.c (.int .u64 8)), none⟩,
 ⟨some 19, none, .conv .u8 (.t 18), none⟩,
 ⟨some 20, none, .mv (.t 5), none⟩,
 ⟨some 21, none, .conv .u8 (.t 20), none⟩,
 ⟨some 22, none, .bsl 5 1 2 [(.int .u8 0), (.int .u8 0)] [(0, 1, (.t 19)), (1, 1, (.t 21))], none⟩,
 ⟨some 23, none, .appo 5 1 1 16 (.t 22), none⟩,
 ⟨some 3, none, .mvo 23, none⟩]))))
 (.keep [3, 10, 11, 12] (.ops [⟨some 24, none, .bin .add (.t 12) (.c (.int .i64 1)), none⟩,
 ⟨some 12, none, .mv (.t 24), none⟩]))))))
def J_word_Of : AFn :=
 ⟨27, [.t 2], .seq (.ops [⟨some 2, none, .mv (.c (.str ⟨#[]⟩)), none⟩])
 (.keep [0] (.seq (.ops [⟨some 6, none, .mv (.t 0), none⟩,
 ⟨some 7, none, .lenl (.t 6), none⟩,
 ⟨some 8, none, .bin .mul (.c (.int .i64 2)) (.t 7), none⟩,
 ⟨some 9, none, .mk0 5 1 1 (.t 8), none⟩,
 ⟨some 3, none, .mvo 9, none⟩])
 (.keep [0, 3] (.seq (.seq (.ops [⟨some 10, none, .mv (.t 0), none⟩,
 ⟨some 11, none, .lenl (.t 10), none⟩,
 ⟨some 12, none, .mv (.c (.int .i64 0)), none⟩])
 (.keep [3, 10, 11, 12] (.block 0 (.loop [3, 10, 11, 12] (J_word_Of_j2)))))
 (J_word_Of_j1)))))⟩
theorem J_word_Of_ok : chkFn Try.prog 39 J_word_Of = true := by kernel_rfl
def J_slices_Contains_int_int : AFn :=
 ⟨9, [.t 4], .seq (.ops [⟨some 4, none, .mv (.c (.bool false)), none⟩])
 (.keep [0, 1] (.seq (.ops [⟨some 5, none, .mv (.t 0), none⟩,
 ⟨some 6, none, .mv (.t 1), none⟩,
 ⟨some 7, none, .call (.f 72) [(.t 5), (.t 6)], none⟩,
 ⟨some 8, none, .bin .geq (.t 7) (.c (.int .i64 0)), none⟩,
 ⟨some 4, none, .mv (.t 8), none⟩])
 (.ret)))⟩
theorem J_slices_Contains_int_int_ok : chkFn Try.prog 64 J_slices_Contains_int_int = true := by kernel_rfl
def J_slices_Index_int_int_j1 : ACode :=
 .keep [] (.seq (.ops [⟨some 4, none, .mv (.c (.int .i64 (-1))), none⟩])
 (.ret))
def J_slices_Index_int_int_j2 : ACode :=
 .seq (.ops [⟨some 9, none, .bin .lss (.t 8) (.t 7), none⟩])
 (.keep [0, 1, 7, 8, 9] (.seq (.cond (.t 9)
 (.skip)
 (.exit 0))
 (.keep [0, 1, 7, 8] (.seq (.block 1 (.seq (.ops [⟨some 10, none, .mv (.t 8), none⟩,
 ⟨some 5, none, .mv (.t 10), none⟩])
 (.keep [0, 1, 5, 7, 8] (.seq (.ops [⟨some 11, none, .mv (.t 1), none⟩,
 ⟨some 12, none, .mv (.t 0), none⟩,
 ⟨some 13, none, .mv (.t 5), none⟩,
 ⟨some 14, none, .idxa 1 (.t 12) (.t 13), none⟩,
 ⟨some 15, none, .load none (.t 14), none⟩,
 ⟨some 16, none, .bin .eql (.t 11) (.t 15), none⟩])
 (.keep [0, 1, 5, 7, 8, 16] (.cond (.t 16)
 (.seq (.ops [⟨some 17, none, .mv (.t 5), none⟩,
 ⟨some 4, none, .mv (.t 17), none⟩])
 (.ret))
 (.skip)))))))
 (.keep [0, 1, 7, 8] (.ops [⟨some 18, none, .bin .add (.t 8) (.c (.int .i64 1)), none⟩,
 ⟨some 8, none, .mv (.t 18), none⟩]))))))
def J_slices_Index_int_int : AFn :=
 ⟨19, [.t 4], .seq (.ops [⟨some 4, none, .mv (.c (.int .i64 0)), none⟩])
 (.keep [0, 1] (.seq (.seq (.ops [⟨some 6, none, .mv (.t 0), none⟩,
 ⟨some 7, none, .lenl (.t 6), none⟩,
 ⟨some 8, none, .mv (.c (.int .i64 0)), none⟩])
 (.keep [0, 1, 7, 8] (.block 0 (.loop [0, 1, 7, 8] (J_slices_Index_int_int_j2)))))
 (J_slices_Index_int_int_j1)))⟩
theorem J_slices_Index_int_int_ok : chkFn Try.prog 72 J_slices_Index_int_int = true := by kernel_rfl
def J_word_Swap : AFn :=
 ⟨42, [.t 8, .t 9], .seq (.ops [⟨some 8, none, .mv (.c (.str ⟨#[]⟩)), none⟩,
 ⟨some 9, none, .mv (.c (.int .i64 0)), none⟩])
 (.keep [0, 1, 2, 3] (.seq (.seq (.ops [⟨some 10, none, .mv (.t 0), none⟩,
 ⟨some 11, none, .call (.f 46) [(.t 10)], none⟩,
 ⟨some 12, none, .mv (.t 11), none⟩,
 ⟨some 13, (some (12, false)), .mv (.t 3), none⟩,
 ⟨some 14, (some (12, false)), .call (.f 46) [(.t 13)], none⟩,
 ⟨some 15, none, .pick (.t 12) (.c (.bool true)) (.t 14), none⟩])
 (.keep [0, 1, 2, 3, 15] (.cond (.t 15)
 (.seq (.ops [⟨some 8, none, .mv (.c (.str ⟨#[]⟩)), none⟩,
 ⟨some 9, none, .mv (.c (.int .i64 2)), none⟩])
 (.ret))
 (.skip))))
 (.keep [0, 1, 2, 3] (.seq (.seq (.ops [⟨some 16, none, .mv (.t 0), none⟩,
 ⟨some 17, none, .mv (.t 1), none⟩,
 ⟨some 18, none, .mv (.t 2), none⟩,
 ⟨some 19, none, .call (.f 76) [(.t 16), (.t 17), (.t 18)], none⟩,
 ⟨some 20, none, .not (.t 19), none⟩])
 (.keep [0, 1, 2, 3, 20] (.cond (.t 20)
 (.seq (.ops [⟨some 8, none, .mv (.c (.str ⟨#[]⟩)), none⟩,
 ⟨some 9, none, .mv (.c (.int .i64 5)), none⟩])
 (.ret))
 (.skip))))
 (.keep [0, 1, 2, 3] (.seq (.seq (.ops [⟨some 21, none, .mv (.t 0), none⟩,
 ⟨some 22, none, .call (.f 47) [(.t 21)], none⟩,
 ⟨some 23, none, .mv (.t 2), none⟩,
 ⟨some 24, none, .bin .sub (.t 22) (.t 23), none⟩,
 ⟨some 25, none, .mv (.t 3), none⟩,
 ⟨some 26, none, .call (.f 47) [(.t 25)], none⟩,
 ⟨some 27, none, .bin .add (.t 24) (.t 26), none⟩,
 ⟨some 28, none, .bin .gtr (.t 27) (.c (.int .i64 8)), none⟩])
 (.keep [0, 1, 2, 3, 28] (.cond (.t 28)
 (.seq (.ops [⟨some 8, none, .mv (.c (.str ⟨#[]⟩)), none⟩,
 ⟨some 9, none, .mv (.c (.int .i64 4)), none⟩])
 (.ret))
 (.skip))))
 (.keep [0, 1, 2, 3] (.seq (.draw [8, 9] [⟨some 29, none, .mv (.t 0), none⟩,
 ⟨some 30, none, .mv (.t 1), none⟩,
 ⟨some 31, none, .bin .mul (.c (.int .i64 2)) (.t 30), none⟩,
 ⟨some 32, none, .slcs (.t 29) none (some (.t 31)), none⟩,
 ⟨some 33, none, .mv (.t 3), none⟩,
 ⟨some 34, none, .bin .add (.t 32) (.t 33), none⟩,
 ⟨some 35, none, .mv (.t 0), none⟩,
 ⟨some 36, none, .mv (.t 1), none⟩,
 ⟨some 37, none, .mv (.t 2), none⟩,
 ⟨some 38, none, .bin .add (.t 36) (.t 37), none⟩,
 ⟨some 39, none, .bin .mul (.c (.int .i64 2)) (.t 38), none⟩,
 ⟨some 40, none, .slcs (.t 35) (some (.t 39)) none, none⟩,
 ⟨some 41, none, .bin .add (.t 34) (.t 40), none⟩,
 ⟨some 8, none, .mv (.t 41), none⟩,
 ⟨some 9, none, .mv (.c (.int .i64 0)), none⟩])
 (.ret)))))))))⟩
theorem J_word_Swap_ok : chkFn Try.prog 73 J_word_Swap = true := by kernel_rfl
def J_set_Same : AFn :=
 ⟨13, [.t 4], .seq (.ops [⟨some 4, none, .mv (.c (.bool false)), none⟩])
 (.keep [0, 1] (.seq (.ops [⟨some 5, none, .mv (.t 0), none⟩,
 ⟨some 6, none, .mv (.t 1), none⟩,
 ⟨some 7, none, .call (.f 82) [(.t 5), (.t 6)], none⟩,
 ⟨some 8, none, .mv (.t 7), none⟩,
 ⟨some 9, (some (8, true)), .mv (.t 1), none⟩,
 ⟨some 10, (some (8, true)), .mv (.t 0), none⟩,
 ⟨some 11, (some (8, true)), .call (.f 82) [(.t 9), (.t 10)], none⟩,
 ⟨some 12, none, .pick (.t 8) (.t 11) (.c (.bool false)), none⟩,
 ⟨some 4, none, .mv (.t 12), none⟩])
 (.ret)))⟩
theorem J_set_Same_ok : chkFn Try.prog 75 J_set_Same = true := by kernel_rfl
def J_word_within : AFn :=
 ⟨27, [.t 6], .seq (.ops [⟨some 6, none, .mv (.c (.bool false)), none⟩])
 (.keep [0, 1, 2] (.seq (.ops [⟨some 7, none, .mv (.t 1), none⟩,
 ⟨some 8, none, .bin .geq (.t 7) (.c (.int .i64 0)), none⟩,
 ⟨some 9, none, .mv (.t 8), none⟩,
 ⟨some 10, (some (9, true)), .mv (.t 2), none⟩,
 ⟨some 11, (some (9, true)), .bin .geq (.t 10) (.c (.int .i64 0)), none⟩,
 ⟨some 12, none, .pick (.t 9) (.t 11) (.c (.bool false)), none⟩,
 ⟨some 13, none, .mv (.t 12), none⟩,
 ⟨some 14, (some (13, true)), .mv (.t 1), none⟩,
 ⟨some 15, (some (13, true)), .mv (.t 0), none⟩,
 ⟨some 16, (some (13, true)), .call (.f 47) [(.t 15)], none⟩,
 ⟨some 17, (some (13, true)), .bin .leq (.t 14) (.t 16), none⟩,
 ⟨some 18, none, .pick (.t 13) (.t 17) (.c (.bool false)), none⟩,
 ⟨some 19, none, .mv (.t 18), none⟩,
 ⟨some 20, (some (19, true)), .mv (.t 2), none⟩,
 ⟨some 21, (some (19, true)), .mv (.t 0), none⟩,
 ⟨some 22, (some (19, true)), .call (.f 47) [(.t 21)], none⟩,
 ⟨some 23, (some (19, true)), .mv (.t 1), none⟩,
 ⟨some 24, (some (19, true)), .bin .sub (.t 22) (.t 23), none⟩,
 ⟨some 25, (some (19, true)), .bin .leq (.t 20) (.t 24), none⟩,
 ⟨some 26, none, .pick (.t 19) (.t 25) (.c (.bool false)), none⟩,
 ⟨some 6, none, .mv (.t 26), none⟩])
 (.ret)))⟩
theorem J_word_within_ok : chkFn Try.prog 76 J_word_within = true := by kernel_rfl
end Go.Proofs.Ytlfnepcglnjogaa

/- What the reference's sets do: words in order, each once. -/
namespace Go.Proofs.Ytlfnepcglnjogaa
set_option linter.unusedSimpArgs false
set_option linter.unusedVariables false
open Go.RowKit Go.Lib

theorem rising_get {r : List ByteArray} (hr : rising r = true) : ∀ {i j : Nat} (hi : i < j) (hj : j < r.length), wless (r[i]'(by omega)) r[j] = true := by
  induction r with
  | nil => intro i j _ hj; simp at hj
  | cons x r ih =>
    obtain ⟨h1, h2⟩ := rising_cons.1 hr
    intro i j hi hj
    cases j with
    | zero => omega
    | succ j =>
      cases i with
      | zero => exact h1 _ (List.getElem_mem _)
      | succ i => exact ih h2 (by omega) (by simpa using hj)
def aft (r : List ByteArray) (k : Nat) (x : ByteArray) : Prop := k = 0 ∨ ∃ h : k - 1 < r.length, wless r[k - 1] x = true
theorem aft_iff {r : List ByteArray} (hr : rising r = true) {k j : Nat} (hk : k ≤ r.length) (hj : j < r.length) : aft r k r[j] ↔ k ≤ j := by
  unfold aft
  constructor
  · rintro (h | ⟨h, hw⟩)
    · omega
    · rcases Nat.lt_or_ge j k with hlt | hge
      · by_cases e : j = k - 1
        · subst e; rw [wless_irrefl] at hw; cases hw
        · have := rising_get hr (i := j) (j := k - 1) (by omega) (by omega)
          rw [wless_asymm this] at hw; cases hw
      · exact hge
  · intro h
    by_cases h0 : k = 0
    · exact .inl h0
    · exact .inr ⟨by omega, rising_get hr (by omega) hj⟩
structure RInv (l : List ByteArray) (k i : Nat) (best : ByteArray) (found : Bool) : Prop where
  no : found = false → ∀ x ∈ l.take i, ¬ aft (nrm l) k x
  mem : found = true → best ∈ l ∧ aft (nrm l) k best
  least : found = true → ∀ x ∈ l.take i, aft (nrm l) k x → wless x best = false
theorem RInv.zero (l : List ByteArray) (k : Nat) : RInv l k 0 ⟨#[]⟩ false := ⟨fun _ x hx => by simp at hx, fun h => (nomatch h), fun h => (nomatch h)⟩
theorem RInv.take {l : List ByteArray} {k i : Nat} {best : ByteArray} {found : Bool} (h : RInv l k i best found) (hi : i < l.length) (ha : aft (nrm l) k l[i]) (hb : found = true → wless l[i] best = true) : RInv l k (i + 1) l[i] true := by
  refine ⟨fun h => (nomatch h), fun _ => ⟨List.getElem_mem hi, ha⟩, fun _ x hx hax => ?_⟩
  rcases (by rw [List.take_succ_eq_append_getElem hi, List.mem_append] at hx; simpa using hx : x ∈ l.take i ∨ x = l[i]) with hx | rfl
  · cases found with
    | false => exact absurd hax (h.no rfl x hx)
    | true =>
      cases hw : wless x l[i] with
      | false => rfl
      | true =>
        have := wless_trans hw (hb rfl)
        rw [h.least rfl x hx hax] at this; cases this
  · exact wless_irrefl _
theorem RInv.skip {l : List ByteArray} {k i : Nat} {best : ByteArray} {found : Bool} (h : RInv l k i best found) (hi : i < l.length) (hs : ¬ aft (nrm l) k l[i] ∨ (found = true ∧ wless l[i] best = false)) : RInv l k (i + 1) best found := by
  have key : ∀ x, x ∈ l.take (i + 1) → x ∈ l.take i ∨ x = l[i] := fun x hx => by rw [List.take_succ_eq_append_getElem hi, List.mem_append] at hx; simpa using hx
  refine ⟨fun hf x hx => ?_, h.mem, fun hf x hx hax => ?_⟩
  · rcases key x hx with hx | rfl
    · exact h.no hf x hx
    · rcases hs with hs | ⟨hs, _⟩
      · exact hs
      · rw [hf] at hs; cases hs
  · rcases key x hx with hx | rfl
    · exact h.least hf x hx hax
    · rcases hs with hs | ⟨_, hs⟩
      · exact absurd hax hs
      · exact hs
theorem RInv.next {l : List ByteArray} {k : Nat} {best : ByteArray} (h : RInv l k l.length best true) (hk : k ≤ (nrm l).length) : ∃ hlt : k < (nrm l).length, best = (nrm l)[k] := by
  obtain ⟨hm, ha⟩ := h.mem rfl
  obtain ⟨j, hj, e⟩ := List.mem_iff_getElem.1 (mem_nrm.2 hm)
  subst e
  have hkj := (aft_iff (rising_nrm l) hk hj).1 ha
  refine ⟨by omega, ?_⟩
  by_cases e : j = k
  · subst e; rfl
  · have hlt : k < (nrm l).length := by omega
    have h1 := h.least rfl (nrm l)[k] (by rw [List.take_length]; exact mem_nrm.1 (List.getElem_mem hlt)) ((aft_iff (rising_nrm l) hk hlt).2 (Nat.le_refl _))
    rw [rising_get (rising_nrm l) (by omega) hj] at h1; cases h1
end Go.Proofs.Ytlfnepcglnjogaa

/- What the reference's sets do: Of, And, Quote, As, For, and what is asked. -/
namespace Go.Proofs.Ytlfnepcglnjogaa
set_option linter.unusedSimpArgs false
set_option linter.unusedVariables false
open Go.RowKit Go.Lib

def vSet (r : List ByteArray × Int) : AV := .tup [.lst .ro r.1.length (r.1.map .str), .int .i64 r.2]
theorem free_vSet (r : List ByteArray × Int) : free (vSet r) = true := by simp [vSet, free, free.frees, frees_str]
def boundE (l : List ByteArray) : List ByteArray × Int := if 1 ≤ l.length ∧ l.length ≤ 16 then (l, 0) else ([], 3)
theorem ofE_may {l : List ByteArray} (h : ∀ x ∈ l, wordMay x = true) : ofE l = boundE (nrm l) := by
  unfold ofE
  rw [if_neg (by rw [List.all_eq_true.2 h]; simp)]; rfl
end Go.Proofs.Ytlfnepcglnjogaa

/- What the reference's sets do: Quote, As, For. -/
namespace Go.Proofs.Ytlfnepcglnjogaa
set_option linter.unusedSimpArgs false
set_option linter.unusedVariables false
open Go.RowKit Go.Lib

theorem wordMay_even {s : ByteArray} (h : wordMay s = true) : s.size % 2 = 0 ∧ s.size ≤ 16 := by have := wordMay_size h; omega
theorem atomBytes_one (r : Nat) : (⟨(atomBytes [r]).toArray⟩ : ByteArray) = atomW r := by
  apply ByteArray.ext; apply Array.ext'; simp [atomBytes, atomW]
theorem ofE_good {l r : List ByteArray} (h : ofE l = (r, 0)) : setMay r = true := by
  unfold ofE at h
  split at h
  · cases h
  · next hall =>
    split at h
    · next hlen =>
      simp only [Prod.mk.injEq, and_true] at h
      subst h
      refine setMay_mk hlen.1 hlen.2 (fun x hx => ?_) (rising_nrm l)
      have : l.all wordMay = true := by simpa using hall
      exact List.all_eq_true.1 this x (mem_nrm.1 hx)
    · cases h
theorem setMay_small {l : List ByteArray} (h : setMay l = true) : l.length ≤ 16 ∧ ∀ x ∈ l, x.size ≤ 16 := ⟨(setMay_words h).1.2, fun x hx => by have := wordMay_size ((setMay_words h).2 x hx); omega⟩
end Go.Proofs.Ytlfnepcglnjogaa

/- What the library's Index, Contains, Equal do with words; Has, Heavy; a word of atoms. -/
namespace Go.Proofs.Ytlfnepcglnjogaa
set_option linter.unusedSimpArgs false
set_option linter.unusedVariables false
open Go.RowKit Go.Lib

theorem take_mem_succ {α : Type} {x : α} {l : List α} {i : Nat} (h : i < l.length) : x ∈ l.take (i + 1) ↔ x ∈ l.take i ∨ x = l[i] := by
  rw [List.take_succ_eq_append_getElem h, List.mem_append]; simp
set_option maxHeartbeats 1000000 in
theorem p_wof (l : List Nat) (hl : l.length ≤ 1000000) (ha : ∀ a ∈ l, a < 65536) : PCalls Try.prog 39 [.lst .ro l.length (u16s l)] (.str ⟨(atomBytes l).toArray⟩) := by
  refine pcalls_of (by first | rfl | simp [free, free.frees, frees_str, frees_u8, frees_u16]) (by first | rfl | simp [free, free.frees, frees_str, frees_u8, frees_u16]) (acalls_of mixed J_word_Of_ok (Nat.le_of_ble_eq_true rfl) ?_); simp only [J_word_Of, wk,if_true,if_false,forall_const,implies_true,ne_eq,eq_self,Nat.reduceEqDiff,Nat.reduceAdd,Nat.reduceMul,Nat.reduceSub,Nat.reduceLeDiff,Nat.reduceLT,Int.reduceEq,Int.reduceLT,Int.reduceLE,Int.reduceAdd,Int.reduceSub,Int.reduceMul,Int.reduceNeg,Int.reduceNe,reduceCtorEq,Int.reduceToNat,↓reduceIte]
  refine ⟨inR_of (by omega) (by omega), ⟨by omega, by omega, by omega⟩, ?_⟩
  refine W_loop (fun n fr h => ∃ i : Nat, i ≤ l.length ∧ n = l.length - i ∧ fr = [(3, .lst (.own 5) (2 * i) (u8s (atomBytes (l.take i)))), (10, .lst .ro l.length (u16s l)), (11, .int .i64 l.length), (12, .int .i64 i)]) l.length ⟨0, by omega, by omega, rfl⟩ ?_
  rintro n fr h ⟨i, hi, rfl, rfl⟩
  simp only [J_word_Of_j2, J_word_Of_j1, wk,if_true,if_false,forall_const,implies_true,ne_eq,eq_self,Nat.reduceEqDiff,Nat.reduceAdd,Nat.reduceMul,Nat.reduceSub,Nat.reduceLeDiff,Nat.reduceLT,Int.reduceEq,Int.reduceLT,Int.reduceLE,Int.reduceAdd,Int.reduceSub,Int.reduceMul,Int.reduceNeg,Int.reduceNe,reduceCtorEq,Int.reduceToNat,↓reduceIte]
  refine ⟨fun hlt => ?_, fun hge => ?_⟩
  · have hil : i < l.length := by omega
    have hx := ha l[i] (List.getElem_mem hil)
    (repeat (refine And.intro (by first | omega | exact inR_of (by omega) (by omega) | exact ⟨by omega, by omega⟩ | exact ⟨by omega, by omega, by omega⟩ | rfl) ?_))
    rw [show (i : Int).toNat = i by omega, u16s_drop hil]
    simp only [wk,if_true,if_false,forall_const,implies_true,ne_eq,eq_self,Nat.reduceEqDiff,Nat.reduceAdd,Nat.reduceMul,Nat.reduceSub,Nat.reduceLeDiff,Nat.reduceLT,Int.reduceEq,Int.reduceLT,Int.reduceLE,Int.reduceAdd,Int.reduceSub,Int.reduceMul,Int.reduceNeg,Int.reduceNe,reduceCtorEq,Int.reduceToNat,↓reduceIte]
    have e1 : IntKind.u8.wrap ((l[i] : Int).fdiv (2 ^ (min 8 IntKind.u16.bits))) = ((UInt8.ofNat (l[i] / 256)).toNat : Int) := by
      rw [show (min 8 IntKind.u16.bits) = 8 by decide, Int.fdiv_eq_ediv_of_nonneg _ (by omega), IntKind.wrap_u8]
      simp only [UInt8.toNat_ofNat']; omega
    have e2 : IntKind.u8.wrap (l[i] : Int) = ((UInt8.ofNat (l[i] % 256)).toNat : Int) := by
      rw [IntKind.wrap_u8]; simp only [UInt8.toNat_ofNat']; omega
    refine ⟨⟨by omega, by omega⟩, inR_of (by omega) (by omega), l.length - (i + 1), by omega, i + 1, by omega, rfl, ?_⟩
    have e3 : atomBytes (l.take (i + 1)) = atomBytes (l.take i) ++ [UInt8.ofNat (l[i] / 256), UInt8.ofNat (l[i] % 256)] := by
      unfold atomBytes; rw [List.take_succ_eq_append_getElem hil, List.flatMap_append]; simp
    rw [e1, e2, e3, ← u8s_app]
    rfl
  · obtain rfl : i = l.length := by omega
    rw [List.take_length]
    refine ⟨atomBytes l, rfl, ?_, rfl⟩
    have : ∀ l : List Nat, (atomBytes l).length = 2 * l.length := by
      intro l
      induction l with
      | nil => rfl
      | cons a l ih => simp only [atomBytes, List.flatMap_cons, List.length_append, List.length_cons, List.length_nil] at ih ⊢; omega
    rw [this]
end Go.Proofs.Ytlfnepcglnjogaa

namespace Go.Proofs.Ytlfnepcglnjogaa
open Go.RowKit
def J_cert_Check_j1 : ACode :=
 .keep [1] (.seq (.seq (.ops [⟨some 60, none, .load (some 7) (.t 1), none⟩,
 ⟨some 61, none, .call (.f 57) [(.t 60)], none⟩,
 ⟨some 62, none, .not (.t 61), none⟩])
 (.keep [62] (.cond (.t 62)
 (.seq (.ops [⟨some 2, none, .mv (.c (.int .i64 13)), none⟩])
 (.ret))
 (.skip))))
 (.keep [] (.seq (.ops [⟨some 2, none, .mv (.c (.int .i64 0)), none⟩])
 (.ret))))
def J_cert_Check_j2 : ACode :=
 .seq (.ops [⟨some 50, none, .bin .lss (.t 49) (.t 48), none⟩])
 (.keep [1, 47, 48, 49, 50] (.seq (.cond (.t 50)
 (.skip)
 (.exit 0))
 (.keep [1, 47, 48, 49] (.seq (.block 1 (.seq (.ops [⟨some 51, none, .idxa 1 (.t 47) (.t 49), none⟩,
 ⟨some 52, none, .load none (.t 51), none⟩,
 ⟨some 4, none, .mv (.t 52), none⟩])
 (.keep [1, 4, 47, 48, 49] (.seq (.ops [⟨some 53, none, .fld 2 (.t 1), none⟩,
 ⟨some 54, none, .load none (.t 53), none⟩,
 ⟨some 55, none, .call (.f 47) [(.t 54)], none⟩,
 ⟨some 56, none, .mv (.t 4), none⟩,
 ⟨some 57, none, .call (.f 47) [(.t 56)], none⟩,
 ⟨some 58, none, .bin .gtr (.t 55) (.t 57), none⟩])
 (.keep [1, 47, 48, 49, 58] (.cond (.t 58)
 (.seq (.ops [⟨some 2, none, .mv (.c (.int .i64 4)), none⟩])
 (.ret))
 (.skip)))))))
 (.keep [1, 47, 48, 49] (.ops [⟨some 59, none, .bin .add (.t 49) (.c (.int .i64 1)), none⟩,
 ⟨some 49, none, .mv (.t 59), none⟩]))))))
def J_cert_Check : AFn :=
 ⟨63, [.t 2], .seq (.ops [⟨some 1, none, .box (.t 0) [], none⟩,
 ⟨some 2, none, .mv (.c (.int .i64 0)), none⟩])
 (.keep [1] (.seq (.seq (.ops [⟨some 5, none, .fld 0 (.t 1), none⟩,
 ⟨some 6, none, .load none (.t 5), none⟩,
 ⟨some 7, none, .bin .lss (.t 6) (.c (.int .i64 1)), none⟩,
 ⟨some 8, none, .mv (.t 7), none⟩,
 ⟨some 9, (some (8, false)), .fld 0 (.t 1), none⟩,
 ⟨some 10, (some (8, false)), .load none (.t 9), none⟩,
 ⟨some 11, (some (8, false)), .bin .gtr (.t 10) (.c (.int .i64 7)), none⟩,
 ⟨some 12, none, .pick (.t 8) (.c (.bool true)) (.t 11), none⟩])
 (.keep [1, 12] (.cond (.t 12)
 (.seq (.ops [⟨some 2, none, .mv (.c (.int .i64 1)), none⟩])
 (.ret))
 (.skip))))
 (.keep [1] (.seq (.seq (.ops [⟨some 13, none, .fld 1 (.t 1), none⟩,
 ⟨some 14, none, .load none (.t 13), none⟩,
 ⟨some 15, none, .bsl 3 1 1 [(.int .i64 0)] [(0, 1, (.c (.int .i64 1)))], none⟩,
 ⟨some 16, none, .call (.f 55) [(.t 14), (.t 15)], none⟩,
 ⟨some 17, none, .not (.t 16), none⟩,
 ⟨some 18, none, .mv (.t 17), none⟩,
 ⟨some 19, (some (18, false)), .fld 2 (.t 1), none⟩,
 ⟨some 20, (some (18, false)), .load none (.t 19), none⟩,
 ⟨some 21, (some (18, false)), .call (.f 24) [(.t 20)], none⟩,
 ⟨some 22, (some (18, false)), .not (.t 21), none⟩,
 ⟨some 23, none, .pick (.t 18) (.c (.bool true)) (.t 22), none⟩,
 ⟨some 24, none, .mv (.t 23), none⟩,
 ⟨some 25, (some (24, false)), .fld 3 (.t 1), none⟩,
 ⟨some 26, (some (24, false)), .load none (.t 25), none⟩,
 ⟨some 27, (some (24, false)), .call (.f 31) [(.t 26)], none⟩,
 ⟨some 28, (some (24, false)), .not (.t 27), none⟩,
 ⟨some 29, none, .pick (.t 24) (.c (.bool true)) (.t 28), none⟩,
 ⟨some 30, none, .mv (.t 29), none⟩,
 ⟨some 31, (some (30, false)), .fld 4 (.t 1), none⟩,
 ⟨some 32, (some (30, false)), .load none (.t 31), none⟩,
 ⟨some 33, (some (30, false)), .fld 5 (.t 1), none⟩,
 ⟨some 34, (some (30, false)), .load none (.t 33), none⟩,
 ⟨some 35, (some (30, false)), .fld 6 (.t 1), none⟩,
 ⟨some 36, (some (30, false)), .load none (.t 35), none⟩,
 ⟨some 37, (some (30, false)), .bsl 2 1 3 [(.int .i64 0), (.int .i64 0), (.int .i64 0)] [(0, 1, (.t 32)), (1, 1, (.t 34)), (2, 1, (.t 36))], none⟩,
 ⟨some 38, (some (30, false)), .call (.f 56) [(.t 37)], none⟩,
 ⟨some 39, (some (30, false)), .not (.t 38), none⟩,
 ⟨some 40, none, .pick (.t 30) (.c (.bool true)) (.t 39), none⟩])
 (.keep [1, 40] (.cond (.t 40)
 (.seq (.ops [⟨some 2, none, .mv (.c (.int .i64 2)), none⟩])
 (.ret))
 (.skip))))
 (.keep [1] (.seq (.seq (.ops [⟨some 41, none, .fld 4 (.t 1), none⟩,
 ⟨some 42, none, .load none (.t 41), none⟩,
 ⟨some 43, none, .fld 5 (.t 1), none⟩,
 ⟨some 44, none, .load none (.t 43), none⟩,
 ⟨some 45, none, .bin .gtr (.t 42) (.t 44), none⟩])
 (.keep [1, 45] (.cond (.t 45)
 (.seq (.ops [⟨some 2, none, .mv (.c (.int .i64 5)), none⟩])
 (.ret))
 (.skip))))
 (.keep [1] (.seq (.seq (.ops [⟨some 46, none, .fld 3 (.t 1), none⟩,
 ⟨some 47, none, .load none (.t 46), none⟩,
 ⟨some 48, none, .lenl (.t 47), none⟩,
 ⟨some 49, none, .mv (.c (.int .i64 0)), none⟩])
 (.keep [1, 47, 48, 49] (.block 0 (.loop [1, 47, 48, 49] (J_cert_Check_j2)))))
 (J_cert_Check_j1)))))))))⟩
theorem J_cert_Check_ok : chkFn Try.prog 38 J_cert_Check = true := by kernel_rfl
def J_cert_Rules_j1 : ACode :=
 .keep [3] (.seq (.ops [⟨some 25, none, .mv (.t 3), none⟩,
 ⟨some 2, none, .mv (.t 25), none⟩])
 (.ret))
def J_cert_Rules_j2 : ACode :=
 .seq (.ops [⟨some 14, none, .bin .lss (.t 13) (.t 12), none⟩])
 (.keep [1, 3, 11, 12, 13, 14] (.seq (.cond (.t 14)
 (.skip)
 (.exit 0))
 (.keep [1, 3, 11, 12, 13] (.seq (.block 1 (.seq (.ops [⟨some 15, none, .idxa 1 (.t 11) (.t 13), none⟩,
 ⟨some 16, none, .load none (.t 15), none⟩,
 ⟨some 5, none, .mv (.t 16), none⟩])
 (.keep [1, 3, 5, 11, 12, 13] (.ops [⟨some 17, none, .mvo 3, none⟩,
 ⟨some 18, none, .mv (.t 5), none⟩,
 ⟨some 19, none, .fld 2 (.t 1), none⟩,
 ⟨some 20, none, .load none (.t 19), none⟩,
 ⟨some 21, none, .build [(.str ⟨#[]⟩), (.str ⟨#[]⟩)] [(0, 1, (.t 18)), (1, 1, (.t 20))], none⟩,
 ⟨some 22, none, .bsl 29 2 1 [(.str ⟨#[]⟩), (.str ⟨#[]⟩)] [(0, 2, (.t 21))], none⟩,
 ⟨some 23, none, .appo 29 2 32 17 (.t 22), none⟩,
 ⟨some 3, none, .mvo 23, none⟩]))))
 (.keep [1, 3, 11, 12, 13] (.ops [⟨some 24, none, .bin .add (.t 13) (.c (.int .i64 1)), none⟩,
 ⟨some 13, none, .mv (.t 24), none⟩]))))))
def J_cert_Rules : AFn :=
 ⟨26, [.t 2], .seq (.ops [⟨some 1, none, .box (.t 0) [], none⟩,
 ⟨some 2, none, .mv (.c (.lst .clip 0 [])), none⟩])
 (.keep [1] (.seq (.ops [⟨some 6, none, .fld 3 (.t 1), none⟩,
 ⟨some 7, none, .load none (.t 6), none⟩,
 ⟨some 8, none, .lenl (.t 7), none⟩,
 ⟨some 9, none, .mk0 29 2 32 (.t 8), none⟩,
 ⟨some 3, none, .mvo 9, none⟩])
 (.keep [1, 3] (.seq (.seq (.ops [⟨some 10, none, .fld 3 (.t 1), none⟩,
 ⟨some 11, none, .load none (.t 10), none⟩,
 ⟨some 12, none, .lenl (.t 11), none⟩,
 ⟨some 13, none, .mv (.c (.int .i64 0)), none⟩])
 (.keep [1, 3, 11, 12, 13] (.block 0 (.loop [1, 3, 11, 12, 13] (J_cert_Rules_j2)))))
 (J_cert_Rules_j1)))))⟩
theorem J_cert_Rules_ok : chkFn Try.prog 40 J_cert_Rules = true := by kernel_rfl
def J_cert_isOf : AFn :=
 ⟨10, [.t 4], .seq (.ops [⟨some 4, none, .mv (.c (.bool false)), none⟩])
 (.keep [0, 1] (.seq (.ops [⟨some 5, none, .mv (.t 1), none⟩,
 ⟨some 6, none, .mv (.t 0), none⟩,
 ⟨some 7, none, .conv .i64 (.t 6), none⟩,
 ⟨some 8, none, .bin .quo (.t 7) (.c (.int .i64 8192)), none⟩,
 ⟨some 9, none, .call (.f 64) [(.t 5), (.t 8)], none⟩,
 ⟨some 4, none, .mv (.t 9), none⟩])
 (.ret)))⟩
theorem J_cert_isOf_ok : chkFn Try.prog 55 J_cert_isOf = true := by kernel_rfl
def J_cert_num_j1 : ACode :=
 .keep [] (.seq (.ops [⟨some 2, none, .mv (.c (.bool true)), none⟩])
 (.ret))
def J_cert_num_j2 : ACode :=
 .seq (.ops [⟨some 8, none, .bin .lss (.t 7) (.t 6), none⟩])
 (.keep [5, 6, 7, 8] (.seq (.cond (.t 8)
 (.skip)
 (.exit 0))
 (.keep [5, 6, 7] (.seq (.block 1 (.seq (.ops [⟨some 9, none, .idxa 1 (.t 5) (.t 7), none⟩,
 ⟨some 10, none, .load none (.t 9), none⟩,
 ⟨some 4, none, .mv (.t 10), none⟩])
 (.keep [4, 5, 6, 7] (.seq (.ops [⟨some 11, none, .mv (.t 4), none⟩,
 ⟨some 12, none, .bin .lss (.t 11) (.c (.int .i64 0)), none⟩,
 ⟨some 13, none, .mv (.t 12), none⟩,
 ⟨some 14, (some (13, false)), .mv (.t 4), none⟩,
 ⟨some 15, (some (13, false)), .bin .gtr (.t 14) (.c (.int .i64 4611686018427387904)), none⟩,
 ⟨some 16, none, .pick (.t 13) (.c (.bool true)) (.t 15), none⟩])
 (.keep [5, 6, 7, 16] (.cond (.t 16)
 (.seq (.ops [⟨some 2, none, .mv (.c (.bool false)), none⟩])
 (.ret))
 (.skip)))))))
 (.keep [5, 6, 7] (.ops [⟨some 17, none, .bin .add (.t 7) (.c (.int .i64 1)), none⟩,
 ⟨some 7, none, .mv (.t 17), none⟩]))))))
def J_cert_num : AFn :=
 ⟨18, [.t 2], .seq (.ops [⟨some 2, none, .mv (.c (.bool false)), none⟩])
 (.keep [0] (.seq (.seq (.ops [⟨some 5, none, .mv (.t 0), none⟩,
 ⟨some 6, none, .lenl (.t 5), none⟩,
 ⟨some 7, none, .mv (.c (.int .i64 0)), none⟩])
 (.keep [5, 6, 7] (.block 0 (.loop [5, 6, 7] (J_cert_num_j2)))))
 (J_cert_num_j1)))⟩
theorem J_cert_num_ok : chkFn Try.prog 56 J_cert_num = true := by kernel_rfl
def J_cert_like : AFn :=
 ⟨96, [.t 2], .seq (.ops [⟨some 1, none, .box (.t 0) [], none⟩,
 ⟨some 2, none, .mv (.c (.bool false)), none⟩])
 (.keep [1] (.seq (.seq (.ops [⟨some 5, none, .fld 0 (.t 1), none⟩,
 ⟨some 6, none, .load none (.t 5), none⟩])
 (.keep [1, 6] (.block 0 (.seq (.ops [⟨some 8, none, .bin .eql (.t 6) (.c (.int .i64 6)), none⟩,
 ⟨some 7, none, .mv (.t 8), none⟩])
 (.keep [1, 6, 7] (.cond (.t 7)
 (.seq (.ops [⟨some 2, none, .mv (.c (.bool true)), none⟩])
 (.ret))
 (.seq (.ops [⟨some 10, none, .bin .eql (.t 6) (.c (.int .i64 7)), none⟩,
 ⟨some 9, none, .mv (.t 10), none⟩])
 (.keep [1, 9] (.cond (.t 9)
 (.seq (.ops [⟨some 11, none, .load (some 7) (.t 1), none⟩,
 ⟨some 12, none, .call (.f 65) [(.t 11)], none⟩,
 ⟨some 2, none, .mv (.t 12), none⟩])
 (.ret))
 (.skip))))))))))
 (.keep [1] (.seq (.seq (.ops [⟨some 13, none, .fld 3 (.t 1), none⟩,
 ⟨some 14, none, .load none (.t 13), none⟩,
 ⟨some 15, none, .lenl (.t 14), none⟩,
 ⟨some 16, none, .bin .neq (.t 15) (.c (.int .i64 1)), none⟩])
 (.keep [1, 16] (.cond (.t 16)
 (.seq (.ops [⟨some 2, none, .mv (.c (.bool false)), none⟩])
 (.ret))
 (.skip))))
 (.keep [1] (.seq (.ops [⟨some 17, none, .fld 3 (.t 1), none⟩,
 ⟨some 18, none, .load none (.t 17), none⟩,
 ⟨some 19, none, .idxa 1 (.t 18) (.c (.int .i64 0)), none⟩,
 ⟨some 20, none, .load none (.t 19), none⟩,
 ⟨some 3, none, .mv (.t 20), none⟩])
 (.keep [1, 3] (.seq (.ops [⟨some 21, none, .mv (.t 3), none⟩,
 ⟨some 22, none, .call (.f 47) [(.t 21)], none⟩,
 ⟨some 4, none, .mv (.t 22), none⟩])
 (.keep [1, 3, 4] (.seq (.seq (.ops [⟨some 23, none, .fld 0 (.t 1), none⟩,
 ⟨some 24, none, .load none (.t 23), none⟩])
 (.keep [1, 3, 4, 24] (.block 1 (.seq (.ops [⟨some 26, none, .bin .eql (.t 24) (.c (.int .i64 1)), none⟩,
 ⟨some 25, none, .mv (.t 26), none⟩])
 (.keep [1, 3, 4, 24, 25] (.cond (.t 25)
 (.seq (.ops [⟨some 27, none, .fld 2 (.t 1), none⟩,
 ⟨some 28, none, .load none (.t 27), none⟩,
 ⟨some 29, none, .bsl 3 1 1 [(.int .i64 0)] [(0, 1, (.c (.int .i64 1)))], none⟩,
 ⟨some 30, none, .call (.f 66) [(.t 28), (.t 29)], none⟩,
 ⟨some 31, none, .mv (.t 30), none⟩,
 ⟨some 32, (some (31, true)), .mv (.t 4), none⟩,
 ⟨some 33, (some (31, true)), .bin .eql (.t 32) (.c (.int .i64 2)), none⟩,
 ⟨some 34, none, .pick (.t 31) (.t 33) (.c (.bool false)), none⟩,
 ⟨some 35, none, .mv (.t 34), none⟩,
 ⟨some 36, (some (35, true)), .mv (.t 3), none⟩,
 ⟨some 37, (some (35, true)), .call (.f 48) [(.t 36), (.c (.int .i64 0))], none⟩,
 ⟨some 38, (some (35, true)), .bsl 3 1 1 [(.int .i64 0)] [(0, 1, (.c (.int .i64 3)))], none⟩,
 ⟨some 39, (some (35, true)), .call (.f 55) [(.t 37), (.t 38)], none⟩,
 ⟨some 40, none, .pick (.t 35) (.t 39) (.c (.bool false)), none⟩,
 ⟨some 41, none, .mv (.t 40), none⟩,
 ⟨some 42, (some (41, true)), .mv (.t 3), none⟩,
 ⟨some 43, (some (41, true)), .call (.f 48) [(.t 42), (.c (.int .i64 1))], none⟩,
 ⟨some 44, (some (41, true)), .bsl 3 1 1 [(.int .i64 0)] [(0, 1, (.c (.int .i64 5)))], none⟩,
 ⟨some 45, (some (41, true)), .call (.f 55) [(.t 43), (.t 44)], none⟩,
 ⟨some 46, none, .pick (.t 41) (.t 45) (.c (.bool false)), none⟩,
 ⟨some 2, none, .mv (.t 46), none⟩])
 (.ret))
 (.seq (.ops [⟨some 48, none, .bin .eql (.t 24) (.c (.int .i64 2)), none⟩,
 ⟨some 47, none, .mv (.t 48), none⟩])
 (.keep [1, 3, 4, 24, 47] (.cond (.t 47)
 (.seq (.ops [⟨some 49, none, .fld 2 (.t 1), none⟩,
 ⟨some 50, none, .load none (.t 49), none⟩,
 ⟨some 51, none, .bsl 3 1 1 [(.int .i64 0)] [(0, 1, (.c (.int .i64 1)))], none⟩,
 ⟨some 52, none, .call (.f 66) [(.t 50), (.t 51)], none⟩,
 ⟨some 53, none, .mv (.t 52), none⟩,
 ⟨some 54, (some (53, true)), .mv (.t 3), none⟩,
 ⟨some 55, (some (53, true)), .fld 1 (.t 1), none⟩,
 ⟨some 56, (some (53, true)), .load none (.t 55), none⟩,
 ⟨some 57, (some (53, true)), .bsl 51 1 1 [(.int .u16 0)] [(0, 1, (.t 56))], none⟩,
 ⟨some 58, (some (53, true)), .call (.f 39) [(.t 57)], none⟩,
 ⟨some 59, (some (53, true)), .bin .eql (.t 54) (.t 58), none⟩,
 ⟨some 60, none, .pick (.t 53) (.t 59) (.c (.bool false)), none⟩,
 ⟨some 2, none, .mv (.t 60), none⟩])
 (.ret))
 (.seq (.ops [⟨some 62, none, .bin .eql (.t 24) (.c (.int .i64 3)), none⟩,
 ⟨some 61, none, .mv (.t 62), none⟩])
 (.keep [1, 3, 4, 24, 61] (.cond (.t 61)
 (.seq (.ops [⟨some 63, none, .fld 2 (.t 1), none⟩,
 ⟨some 64, none, .load none (.t 63), none⟩,
 ⟨some 65, none, .bsl 3 1 1 [(.int .i64 0)] [(0, 1, (.c (.int .i64 2)))], none⟩,
 ⟨some 66, none, .call (.f 66) [(.t 64), (.t 65)], none⟩,
 ⟨some 2, none, .mv (.t 66), none⟩])
 (.ret))
 (.seq (.ops [⟨some 68, none, .bin .eql (.t 24) (.c (.int .i64 4)), none⟩,
 ⟨some 67, none, .mv (.t 68), none⟩])
 (.keep [1, 3, 4, 24, 67] (.cond (.t 67)
 (.seq (.ops [⟨some 69, none, .fld 2 (.t 1), none⟩,
 ⟨some 70, none, .load none (.t 69), none⟩,
 ⟨some 71, none, .bsl 3 1 1 [(.int .i64 0)] [(0, 1, (.c (.int .i64 3)))], none⟩,
 ⟨some 72, none, .call (.f 66) [(.t 70), (.t 71)], none⟩,
 ⟨some 73, none, .mv (.t 72), none⟩,
 ⟨some 74, (some (73, true)), .mv (.t 3), none⟩,
 ⟨some 75, (some (73, true)), .bsl 3 1 1 [(.int .i64 0)] [(0, 1, (.c (.int .i64 4)))], none⟩,
 ⟨some 76, (some (73, true)), .call (.f 66) [(.t 74), (.t 75)], none⟩,
 ⟨some 77, none, .pick (.t 73) (.t 76) (.c (.bool false)), none⟩,
 ⟨some 2, none, .mv (.t 77), none⟩])
 (.ret))
 (.seq (.ops [⟨some 79, none, .bin .eql (.t 24) (.c (.int .i64 5)), none⟩,
 ⟨some 78, none, .mv (.t 79), none⟩])
 (.keep [1, 3, 4, 78] (.cond (.t 78)
 (.seq (.ops [⟨some 80, none, .fld 2 (.t 1), none⟩,
 ⟨some 81, none, .load none (.t 80), none⟩,
 ⟨some 82, none, .bsl 3 1 2 [(.int .i64 0), (.int .i64 0)] [(0, 1, (.c (.int .i64 1))), (1, 1, (.c (.int .i64 2)))], none⟩,
 ⟨some 83, none, .call (.f 66) [(.t 81), (.t 82)], none⟩,
 ⟨some 84, none, .mv (.t 83), none⟩,
 ⟨some 85, (some (84, true)), .mv (.t 4), none⟩,
 ⟨some 86, (some (84, true)), .bin .geq (.t 85) (.c (.int .i64 2)), none⟩,
 ⟨some 87, none, .pick (.t 84) (.t 86) (.c (.bool false)), none⟩,
 ⟨some 88, none, .mv (.t 87), none⟩,
 ⟨some 89, (some (88, true)), .mv (.t 3), none⟩,
 ⟨some 90, (some (88, true)), .mv (.t 4), none⟩,
 ⟨some 91, (some (88, true)), .bin .sub (.t 90) (.c (.int .i64 1)), none⟩,
 ⟨some 92, (some (88, true)), .call (.f 48) [(.t 89), (.t 91)], none⟩,
 ⟨some 93, (some (88, true)), .bsl 3 1 1 [(.int .i64 0)] [(0, 1, (.c (.int .i64 5)))], none⟩,
 ⟨some 94, (some (88, true)), .call (.f 55) [(.t 92), (.t 93)], none⟩,
 ⟨some 95, none, .pick (.t 88) (.t 94) (.c (.bool false)), none⟩,
 ⟨some 2, none, .mv (.t 95), none⟩])
 (.ret))
 (.skip)))))))))))))))))))
 (.keep [] (.seq (.ops [⟨some 2, none, .mv (.c (.bool false)), none⟩])
 (.ret)))))))))))))⟩
theorem J_cert_like_ok : chkFn Try.prog 57 J_cert_like = true := by kernel_rfl
def J_cert_delegate : AFn :=
 ⟨36, [.t 2], .seq (.ops [⟨some 1, none, .box (.t 0) [], none⟩,
 ⟨some 2, none, .mv (.c (.bool false)), none⟩])
 (.keep [1] (.seq (.seq (.ops [⟨some 6, none, .fld 2 (.t 1), none⟩,
 ⟨some 7, none, .load none (.t 6), none⟩,
 ⟨some 8, none, .call (.f 47) [(.t 7)], none⟩,
 ⟨some 9, none, .bin .lss (.t 8) (.c (.int .i64 2)), none⟩])
 (.keep [1, 9] (.cond (.t 9)
 (.seq (.ops [⟨some 2, none, .mv (.c (.bool false)), none⟩])
 (.ret))
 (.skip))))
 (.keep [1] (.seq (.draw [1, 3, 4] [⟨some 11, none, .fld 2 (.t 1), none⟩,
 ⟨some 12, none, .load none (.t 11), none⟩,
 ⟨some 13, none, .bsl 51 1 1 [(.int .u16 0)] [(0, 1, (.c (.int .u16 1)))], none⟩,
 ⟨some 14, none, .call (.f 39) [(.t 13)], none⟩,
 ⟨some 15, none, .call (.f 73) [(.t 12), (.c (.int .i64 0)), (.c (.int .i64 1)), (.t 14)], none⟩,
 ⟨some 10, none, .mv (.t 15), none⟩,
 ⟨some 16, none, .ext 0 (.t 10), none⟩,
 ⟨some 17, none, .ext 1 (.t 10), none⟩,
 ⟨some 3, none, .mv (.t 16), none⟩,
 ⟨some 4, none, .mv (.t 17), none⟩])
 (.keep [1, 3, 4] (.seq (.seq (.ops [⟨some 18, none, .mv (.t 4), none⟩,
 ⟨some 19, none, .bin .neq (.t 18) (.c (.int .i64 0)), none⟩])
 (.keep [1, 3, 19] (.cond (.t 19)
 (.seq (.ops [⟨some 2, none, .mv (.c (.bool false)), none⟩])
 (.ret))
 (.skip))))
 (.keep [1, 3] (.seq (.ops [⟨some 21, none, .fld 2 (.t 1), none⟩,
 ⟨some 22, none, .load none (.t 21), none⟩,
 ⟨some 23, none, .mv (.t 3), none⟩,
 ⟨some 24, none, .bsl 27 1 2 [(.str ⟨#[]⟩), (.str ⟨#[]⟩)] [(0, 1, (.t 22)), (1, 1, (.t 23))], none⟩,
 ⟨some 25, none, .call (.f 74) [(.t 24)], none⟩,
 ⟨some 20, none, .mv (.t 25), none⟩,
 ⟨some 26, none, .ext 0 (.t 20), none⟩,
 ⟨some 27, none, .ext 1 (.t 20), none⟩,
 ⟨some 5, none, .mv (.t 26), none⟩,
 ⟨some 4, none, .mv (.t 27), none⟩])
 (.keep [1, 4, 5] (.seq (.ops [⟨some 28, none, .mv (.t 4), none⟩,
 ⟨some 29, none, .bin .eql (.t 28) (.c (.int .i64 0)), none⟩,
 ⟨some 30, none, .mv (.t 29), none⟩,
 ⟨some 31, (some (30, true)), .fld 3 (.t 1), none⟩,
 ⟨some 32, (some (30, true)), .load none (.t 31), none⟩,
 ⟨some 33, (some (30, true)), .mv (.t 5), none⟩,
 ⟨some 34, (some (30, true)), .call (.f 75) [(.t 32), (.t 33)], none⟩,
 ⟨some 35, none, .pick (.t 30) (.t 34) (.c (.bool false)), none⟩,
 ⟨some 2, none, .mv (.t 35), none⟩])
 (.ret)))))))))))⟩
theorem J_cert_delegate_ok : chkFn Try.prog 65 J_cert_delegate = true := by kernel_rfl
def J_cert_alone : AFn :=
 ⟨14, [.t 4], .seq (.ops [⟨some 4, none, .mv (.c (.bool false)), none⟩])
 (.keep [0, 1] (.seq (.ops [⟨some 5, none, .mv (.t 0), none⟩,
 ⟨some 6, none, .call (.f 47) [(.t 5)], none⟩,
 ⟨some 7, none, .bin .eql (.t 6) (.c (.int .i64 1)), none⟩,
 ⟨some 8, none, .mv (.t 7), none⟩,
 ⟨some 9, (some (8, true)), .mv (.t 0), none⟩,
 ⟨some 10, (some (8, true)), .call (.f 48) [(.t 9), (.c (.int .i64 0))], none⟩,
 ⟨some 11, (some (8, true)), .mv (.t 1), none⟩,
 ⟨some 12, (some (8, true)), .call (.f 55) [(.t 10), (.t 11)], none⟩,
 ⟨some 13, none, .pick (.t 8) (.t 12) (.c (.bool false)), none⟩,
 ⟨some 4, none, .mv (.t 13), none⟩])
 (.ret)))⟩
theorem J_cert_alone_ok : chkFn Try.prog 66 J_cert_alone = true := by kernel_rfl
end Go.Proofs.Ytlfnepcglnjogaa

/- What pack's Out and its reference do, over the abstract code. -/
namespace Go.Proofs.Ytlfnepcglnjogaa
set_option linter.unusedSimpArgs false
set_option linter.unusedVariables false
open Go.RowKit Go.Lib

theorem hset {h : Hp} {id : Nat} {y : Option (Bool × List AV)} (ho : h[id]? = some y) (x : Option (Bool × List AV)) : (h.set id x)[id]? = some x := by
  have : id < h.length := (List.getElem?_eq_some_iff.1 ho).1
  rw [List.getElem?_set_self this]
def eI : Bool → Int
  | true => 2
  | false => 0
def told (s : Bool × List UInt8) : AV := .tup [.str (if s.1 then ⟨#[]⟩ else ⟨s.2.toArray⟩), .int .i64 (eI s.1)]
end Go.Proofs.Ytlfnepcglnjogaa

/- What pack's In does, over the abstract code. -/
namespace Go.Proofs.Ytlfnepcglnjogaa
set_option linter.unusedSimpArgs false
set_option linter.unusedVariables false
open Go.RowKit Go.Lib

end Go.Proofs.Ytlfnepcglnjogaa

/- What pack's In does: counts, texts, words, sets. -/
-- tight
namespace Go.Proofs.Ytlfnepcglnjogaa
set_option linter.unusedSimpArgs false
set_option linter.unusedVariables false
open Go.RowKit Go.Lib

theorem hnew (h : Hp) (x : Option (Bool × List AV)) : (h ++ [x])[h.length]? = some x := by simp
end Go.Proofs.Ytlfnepcglnjogaa

/- The plain law of reading: what is read was written so. -/
namespace Go.Proofs.Ytlfnepcglnjogaa
set_option linter.unusedSimpArgs false
set_option linter.unusedVariables false
open Go.RowKit Go.Lib

end Go.Proofs.Ytlfnepcglnjogaa

/- The plain law of writing: what is written is read. -/
namespace Go.Proofs.Ytlfnepcglnjogaa
set_option linter.unusedSimpArgs false
set_option linter.unusedVariables false
open Go.RowKit Go.Lib

end Go.Proofs.Ytlfnepcglnjogaa

/- The abstract layer: full slices as ones that are only read, however deep; results that are objects as ones that stay. -/
namespace Go.Proofs.Ytlfnepcglnjogaa
set_option linter.unusedSimpArgs false
set_option linter.unusedVariables false
open Go.RowKit Go.Lib

mutual
def rdp : AV → AV
  | .lst .clip n l => .lst .ro n (rdps l)
  | .lst f n l => .lst f n (rdps l)
  | .agg l => .agg (rdps l)
  | .tup l => .tup (rdps l)
  | .fp l => .fp (rdps l)
  | .fn f l => .fn f (rdps l)
  | .fnb f l => .fnb f (rdps l)
  | a => a
def rdps : List AV → List AV
  | [] => []
  | a :: l => rdp a :: rdps l
end
theorem plain_rdp (a : AV) (h : plain a = true) : plain (rdp a) = true := by
  cases a with
  | lst f n l => cases f <;> first | (simp [plain] at h; done) | simp [rdp, plain]
  | itr s p => simp [plain] at h
  | omp b ks vs => simp [plain] at h
  | stk e o l => simp [plain] at h
  | _ => simp [rdp, plain]
theorem plains_rdp : ∀ {l : List AV}, plains l → plains (rdps l)
  | [], _ => by intro a ha; simp [rdps] at ha
  | a :: l, h => by
    intro b hb
    simp only [rdps, List.mem_cons] at hb
    rcases hb with rfl | hb
    · exact plain_rdp a (h a (by simp))
    · exact plains_rdp (fun x hx => h x (by simp [hx])) b hb
mutual
theorem Rep.rdp {g : Gh} : ∀ {v : Value} {a : AV}, Rep g v a → Rep g v (rdp a)
  | _, _, .bool b => by simp only [Go.Proofs.Ytlfnepcglnjogaa.rdp]; exact .bool b
  | _, _, .int k n => by simp only [Go.Proofs.Ytlfnepcglnjogaa.rdp]; exact .int k n
  | _, _, .str s => by simp only [Go.Proofs.Ytlfnepcglnjogaa.rdp]; exact .str s
  | _, _, .nilp => by simp only [Go.Proofs.Ytlfnepcglnjogaa.rdp]; exact .nilp
  | _, _, .ptr id off b h => by simp only [Go.Proofs.Ytlfnepcglnjogaa.rdp]; exact .ptr id off b h
  | _, _, .fp b off vs l h hp hl => by simp only [Go.Proofs.Ytlfnepcglnjogaa.rdp]; exact .fp b off vs _ h (plains_rdp hp) (RepL.rdp hl)
  | _, _, .lst b off n c .clip vs l h hp h1 h2 hl => by simp only [Go.Proofs.Ytlfnepcglnjogaa.rdp]; exact .lst b off n c .ro vs _ h (plains_rdp hp) h1 (fun e => by cases e) (RepL.rdp hl)
  | _, _, .lst b off n c .ro vs l h hp h1 h2 hl => by simp only [Go.Proofs.Ytlfnepcglnjogaa.rdp]; exact .lst b off n c .ro vs _ h (plains_rdp hp) h1 (fun e => by cases e) (RepL.rdp hl)
  | _, _, .lst b off n c (.own e) vs l h hp h1 h2 hl => by simp only [Go.Proofs.Ytlfnepcglnjogaa.rdp]; exact .lst b off n c (.own e) vs _ h (plains_rdp hp) h1 (fun e => by cases e) (RepL.rdp hl)
  | _, _, .lst0 a c .clip h => by simp only [Go.Proofs.Ytlfnepcglnjogaa.rdp, rdps]; exact .lst0 a c .ro (fun e => by cases e)
  | _, _, .lst0 a c .ro h => by simp only [Go.Proofs.Ytlfnepcglnjogaa.rdp, rdps]; exact .lst0 a c .ro (fun e => by cases e)
  | _, _, .lst0 a c (.own e) h => by simp only [Go.Proofs.Ytlfnepcglnjogaa.rdp, rdps]; exact .lst0 a c (.own e) (fun e => by cases e)
  | _, _, .hs id b n c h h1 => by simp only [Go.Proofs.Ytlfnepcglnjogaa.rdp]; exact .hs id b n c h h1
  | _, _, .hsc id b n c h h1 => by simp only [Go.Proofs.Ytlfnepcglnjogaa.rdp]; exact .hsc id b n c h h1
  | _, _, .agg vs l h hp hl => by simp only [Go.Proofs.Ytlfnepcglnjogaa.rdp]; exact .agg vs _ h (plains_rdp hp) (RepL.rdp hl)
  | _, _, .tup vs l hp hl => by simp only [Go.Proofs.Ytlfnepcglnjogaa.rdp]; exact .tup vs _ (plains_rdp hp) (RepL.rdp hl)
  | _, _, .fn f vs l hp hl => by simp only [Go.Proofs.Ytlfnepcglnjogaa.rdp]; exact .fn f vs _ (plains_rdp hp) (RepL.rdp hl)
  | _, _, .fnb f vs l hp hl => by simp only [Go.Proofs.Ytlfnepcglnjogaa.rdp]; exact .fnb f vs _ (plains_rdp hp) (RepL.rdp hl)
  | _, _, .nilf => by simp only [Go.Proofs.Ytlfnepcglnjogaa.rdp]; exact .nilf
  | _, _, .opq v h h' => by simp only [Go.Proofs.Ytlfnepcglnjogaa.rdp]; exact .opq v h h'
  | _, _, .frn v Q S W0 h h' h3 h4 => by simp only [Go.Proofs.Ytlfnepcglnjogaa.rdp]; exact .frn v Q S W0 h h' h3 h4
  | _, _, .itr b s p => by simp only [Go.Proofs.Ytlfnepcglnjogaa.rdp]; exact .itr b s p
  | _, _, .omp b ks vs => by simp only [Go.Proofs.Ytlfnepcglnjogaa.rdp]; exact .omp b ks vs
  | _, _, .mp b => by simp only [Go.Proofs.Ytlfnepcglnjogaa.rdp]; exact .mp b
  | _, _, .fmp b obj ks vs h1 h2 => by simp only [Go.Proofs.Ytlfnepcglnjogaa.rdp]; exact .fmp b obj ks vs h1 h2
  | _, _, .stk a c e o l h1 h2 h3 => by simp only [Go.Proofs.Ytlfnepcglnjogaa.rdp]; exact .stk a c e o l h1 h2 h3
  | _, _, .raw a m c h1 h2 => by simp only [Go.Proofs.Ytlfnepcglnjogaa.rdp]; exact .raw a m c h1 h2
  | _, _, .rawp b i m c => by simp only [Go.Proofs.Ytlfnepcglnjogaa.rdp]; exact .rawp b i m c
theorem RepL.rdp {g : Gh} : ∀ {vs : List Value} {l : List AV}, RepL g vs l → RepL g vs (rdps l)
  | _, _, .nil => by simp only [rdps]; exact .nil
  | _, _, .cons h hl => by simp only [rdps]; exact .cons (Rep.rdp h) (RepL.rdp hl)
end
theorem ACalls.deep {P : Program} {f : FuncId} {args : List AV} {h : Hp} {R : AV → Hp → Prop} (hc : ACalls P f args h (fun a h' => R (rdp a) h')) : ACalls P f args h R :=
  ⟨hc.1, fun g w vargs h1 h2 h3 h4 => (hc.2 g w vargs h1 h2 h3 h4).mono fun _ _ ⟨x, a, h', g', q1, q2, q3, q4, q5, q6, q7⟩ => ⟨x, _, h', g', q1, q2, q3, q4, q5.rdp, plain_rdp _ q6, q7⟩⟩
theorem ACalls.argd {P : Program} {f : FuncId} {args : List AV} {h : Hp} {R : AV → Hp → Prop} (hc : ACalls P f (rdps args) h R) : ACalls P f args h R :=
  ⟨hc.1, fun g w vargs h1 h2 h3 h4 => hc.2 g w vargs h1 h2 h3.rdp (plains_rdp h4)⟩
mutual
theorem free_rdp : ∀ a : AV, free (rdp a) = free a
  | .lst .clip n l => by simp only [rdp, free, frees_rdp l]
  | .lst .ro n l => by simp only [rdp, free, frees_rdp l]
  | .lst (.own e) n l => by simp only [rdp, free, frees_rdp l]
  | .agg l => by simp only [rdp, free, frees_rdp l]
  | .tup l => by simp only [rdp, free, frees_rdp l]
  | .fp l => by simp only [rdp, free, frees_rdp l]
  | .fn f l => by simp only [rdp, free, frees_rdp l]
  | .fnb f l => by simp only [rdp, free, frees_rdp l]
  | .bool _ => by simp only [rdp]
  | .int _ _ => by simp only [rdp]
  | .str _ => by simp only [rdp]
  | .nilp => by simp only [rdp]
  | .ptr _ _ => by simp only [rdp]
  | .hs _ _ => by simp only [rdp]
  | .hsc _ _ _ => by simp only [rdp]
  | .nilf => by simp only [rdp]
  | .opq => by simp only [rdp]
  | .frn _ => by simp only [rdp]
  | .itr _ _ => by simp only [rdp]
  | .omp _ _ _ => by simp only [rdp]
  | .mp _ => by simp only [rdp]
  | .fmp _ _ => by simp only [rdp]
  | .stk _ _ _ => by simp only [rdp]
  | .raw _ _ => by simp only [rdp]
  | .rawp _ _ => by simp only [rdp]
theorem frees_rdp : ∀ l : List AV, free.frees (rdps l) = free.frees l
  | [] => rfl
  | a :: l => by simp only [rdps, free.frees, free_rdp a, frees_rdp l]
end
theorem PCalls.argd {P : Program} {f : FuncId} {args : List AV} {v : AV} (hc : PCalls P f (rdps args) v) : PCalls P f args v :=
  ⟨by rw [← frees_rdp]; exact hc.1, hc.2.1, ACalls.argd hc.2.2⟩
theorem rdps_nil : rdps [] = [] := by simp only [rdps]
theorem rdps_cons (a : AV) (l : List AV) : rdps (a :: l) = rdp a :: rdps l := by simp only [rdps]
theorem rdp_bool (b : Bool) : rdp (.bool b) = .bool b := by simp only [rdp]
theorem rdp_int (k : IntKind) (n : Int) : rdp (.int k n) = .int k n := by simp only [rdp]
theorem rdp_str (s : ByteArray) : rdp (.str s) = .str s := by simp only [rdp]
theorem rdp_nilp : rdp .nilp = .nilp := by simp only [rdp]
theorem rdp_hs (i n : Nat) : rdp (.hs i n) = .hs i n := by simp only [rdp]
theorem rdp_hsc (i n c : Nat) : rdp (.hsc i n c) = .hsc i n c := by simp only [rdp]
theorem rdp_ptr (i n : Nat) : rdp (.ptr i n) = .ptr i n := by simp only [rdp]
theorem rdp_ro (n : Nat) (l : List AV) : rdp (.lst .ro n l) = .lst .ro n (rdps l) := by simp only [rdp]
theorem rdp_clip (n : Nat) (l : List AV) : rdp (.lst .clip n l) = .lst .ro n (rdps l) := by simp only [rdp]
theorem rdp_agg (l : List AV) : rdp (.agg l) = .agg (rdps l) := by simp only [rdp]
theorem rdp_tup (l : List AV) : rdp (.tup l) = .tup (rdps l) := by simp only [rdp]
theorem rdps_str : ∀ l : List ByteArray, rdps (l.map .str) = l.map .str
  | [] => rdps_nil
  | a :: l => by simp only [List.map_cons, rdps_cons, rdp_str, rdps_str l]
theorem rdpw : type_of% (And.intro @rdps_nil (And.intro @rdps_cons (And.intro @rdp_bool (And.intro @rdp_int (And.intro @rdp_str (And.intro @rdp_nilp (And.intro @rdp_hs (And.intro @rdp_hsc (And.intro @rdp_ptr (And.intro @rdp_ro (And.intro @rdp_clip (And.intro @rdp_agg (And.intro @rdp_tup @rdps_str))))))))))))) :=
  And.intro @rdps_nil (And.intro @rdps_cons (And.intro @rdp_bool (And.intro @rdp_int (And.intro @rdp_str (And.intro @rdp_nilp (And.intro @rdp_hs (And.intro @rdp_hsc (And.intro @rdp_ptr (And.intro @rdp_ro (And.intro @rdp_clip (And.intro @rdp_agg (And.intro @rdp_tup @rdps_str))))))))))))
end Go.Proofs.Ytlfnepcglnjogaa

/- Models: relations as bits: plain. -/
namespace Go.Proofs.Ytlfnepcglnjogaa
set_option linter.unusedSimpArgs false
set_option linter.unusedVariables false
open Go.RowKit Go.Lib

def bt (a : UInt8) (j : Nat) : Bool := a.toBitVec.getLsbD j
def bitR (r : Rl) (i j : Nat) : Bool := bt (r.getD i 0) j
theorem bt_test (a : UInt8) (j : Nat) : a.toNat.testBit j = bt a j := rfl
theorem bt_or (a b : UInt8) (j : Nat) : bt (a ||| b) j = (bt a j || bt b j) := by simp [bt]
theorem bt_zero (j : Nat) : bt 0 j = false := by simp [bt]
theorem bt_sub (a b : UInt8) : (a &&& ~~~b = 0) ↔ ∀ j, bt a j = true → bt b j = true := by
  constructor
  · intro h j ha
    have := congrArg (fun x : UInt8 => bt x j) h
    simp only [bt_zero] at this
    have hj : j < 8 := by
      rcases Nat.lt_or_ge j 8 with h | h
      · exact h
      · simp only [bt] at ha; rw [BitVec.getLsbD_of_ge _ _ h] at ha; cases ha
    simp only [bt, UInt8.toBitVec_and, UInt8.toBitVec_not, BitVec.getLsbD_and, BitVec.getLsbD_not, hj, decide_true, Bool.true_and] at this ha ⊢
    rw [ha] at this
    simpa using this
  · intro h
    apply UInt8.toBitVec_inj.1
    apply BitVec.eq_of_getLsbD_eq
    intro j hj
    simp only [UInt8.toBitVec_and, UInt8.toBitVec_not, BitVec.getLsbD_and, BitVec.getLsbD_not, hj, decide_true, Bool.true_and]
    have := h j
    simp only [bt] at this
    cases ha : a.toBitVec.getLsbD j with
    | false => simp
    | true => rw [this ha]; simp
theorem within_iff (r s : Rl) : withinR r s = true ↔ ∀ i, i < 8 → ∀ j, bitR r i j = true → bitR s i j = true := by
  simp only [withinR, List.all_eq_true, List.mem_range, decide_eq_true_eq, bt_sub, bitR]
theorem bit_orR {r s : Rl} (hr : r.length = 8) (hs : s.length = 8) {i : Nat} (hi : i < 8) (j : Nat) : bitR (orR r s) i j = (bitR r i j || bitR s i j) := by
  have : (orR r s).getD i 0 = r.getD i 0 ||| s.getD i 0 := by
    simp only [List.getD_eq_getElem?_getD, orR]
    rw [List.getElem?_eq_getElem (by simp [hr, hs]; omega), List.getElem?_eq_getElem (by omega : i < r.length), List.getElem?_eq_getElem (by omega : i < s.length)]
    simp
  simp only [bitR, this, bt_or]
theorem bit_thenB (b : UInt8) (s : Rl) (k : Nat) : ∀ n, bt (thenB b s n) k = true ↔ ∃ j, j < n ∧ bt b j = true ∧ bitR s j k = true
  | 0 => by simp [thenB, bt_zero]
  | n + 1 => by
    rw [thenB_succ, bt_test]
    have ih := bit_thenB b s k n
    constructor
    · intro h
      by_cases hb : bt b n = true
      · rw [if_pos hb, bt_or, Bool.or_eq_true] at h
        rcases h with h | h
        · obtain ⟨j, h1, h2⟩ := ih.1 h; exact ⟨j, by omega, h2⟩
        · exact ⟨n, by omega, hb, h⟩
      · rw [if_neg hb] at h
        obtain ⟨j, h1, h2⟩ := ih.1 h; exact ⟨j, by omega, h2⟩
    · rintro ⟨j, h1, h2, h3⟩
      rcases Nat.lt_succ_iff_lt_or_eq.1 h1 with h | rfl
      · have := ih.2 ⟨j, h, h2, h3⟩
        split
        · rw [bt_or, this]; rfl
        · exact this
      · rw [if_pos h2, bt_or, Bool.or_eq_true]; exact .inr h3
theorem bit_thenR {r : Rl} (hr : r.length = 8) (s : Rl) {i : Nat} (hi : i < 8) (k : Nat) : bitR (thenR r s) i k = true ↔ ∃ j, j < 8 ∧ bitR r i j = true ∧ bitR s j k = true := by
  have : (thenR r s).getD i 0 = thenB (r.getD i 0) s 8 := by
    simp only [List.getD_eq_getElem?_getD, thenR, List.getElem?_map]
    rw [List.getElem?_eq_getElem (by omega : i < r.length)]
    rfl
  simp only [bitR, this]
  exact bit_thenB _ _ _ _
theorem rl_ext {r s : Rl} (hr : r.length = 8) (hs : s.length = 8) (h : ∀ i, i < 8 → ∀ j, bitR r i j = bitR s i j) : r = s := by
  apply List.ext_getElem (by omega)
  intro i h1 h2
  apply UInt8.toBitVec_inj.1
  apply BitVec.eq_of_getLsbD_eq
  intro j hj
  have := h i (by omega) j
  simp only [bitR, bt, List.getD_eq_getElem?_getD, List.getElem?_eq_getElem h1, List.getElem?_eq_getElem h2, Option.getD_some] at this
  exact this
end Go.Proofs.Ytlfnepcglnjogaa

/- Models: a word behind a word leads where one leads behind the other: plain. -/
namespace Go.Proofs.Ytlfnepcglnjogaa
set_option linter.unusedSimpArgs false
set_option linter.unusedVariables false
open Go.RowKit Go.Lib

theorem thenR_length (r s : Rl) : (thenR r s).length = r.length := by simp [thenR]
theorem thenR_assoc {r s : Rl} (t : Rl) (hr : r.length = 8) (hs : s.length = 8) : thenR (thenR r s) t = thenR r (thenR s t) := by
  have h1 : (thenR r s).length = 8 := by rw [thenR_length, hr]
  refine rl_ext (by rw [thenR_length, h1]) (by rw [thenR_length, hr]) fun i hi k => ?_
  rw [Bool.eq_iff_iff, bit_thenR h1 t hi, bit_thenR hr _ hi]
  constructor
  · rintro ⟨j, hj, h2, h3⟩
    obtain ⟨q, hq, h4, h5⟩ := (bit_thenR hr s hi j).1 h2
    exact ⟨q, hq, h4, (bit_thenR hs t hq k).2 ⟨j, hj, h5, h3⟩⟩
  · rintro ⟨q, hq, h4, h5⟩
    obtain ⟨j, hj, h6, h3⟩ := (bit_thenR hs t hq k).1 h5
    exact ⟨j, hj, (bit_thenR hr s hi j).2 ⟨q, hq, h4, h6⟩, h3⟩
end Go.Proofs.Ytlfnepcglnjogaa

/- The document's relations: eight by eight truth values, over the abstract code: bit, Within, bytes. -/
-- fast
namespace Go.Proofs.Ytlfnepcglnjogaa
set_option linter.unusedSimpArgs false
set_option linter.unusedVariables false
open Go.RowKit Go.Lib

def tb (f : Nat → Nat → Bool) : List AV := (List.range 64).map fun i => .bool (f (i / 8) (i % 8))
theorem tb_len (f : Nat → Nat → Bool) : (tb f).length = 64 := by simp [tb]
theorem tb_deg (f : Nat → Nat → Bool) : (tb f).map deg = tb f := by simp [tb, deg]
theorem tb_take (f : Nat → Nat → Bool) : (tb f).take 64 = tb f := List.take_of_length_le (by simp [tb_len])
theorem tb_splice (f g : Nat → Nat → Bool) : splice (tb f) 0 (tb g) = tb g := splice_all _ _ (by simp [tb_len])
theorem tb_drop (f : Nat → Nat → Bool) {x y : Nat} (hx : x < 8) (hy : y < 8) : (tb f).drop (x * 8 + y) = .bool (f x y) :: (tb f).drop (x * 8 + y + 1) := by
  rw [List.drop_eq_getElem_cons (by rw [tb_len]; omega)]
  congr 1
  simp only [tb, List.getElem_map, List.getElem_range]
  rw [show (x * 8 + y) / 8 = x by omega, show (x * 8 + y) % 8 = y by omega]
def upd (f : Nat → Nat → Bool) (x y : Nat) (b : Bool) : Nat → Nat → Bool := fun i j => if i = x ∧ j = y then b else f i j
theorem tb_set (f : Nat → Nat → Bool) {x y : Nat} (hx : x < 8) (hy : y < 8) (b : Bool) : (tb f).set (x * 8 + y) (.bool b) = tb (upd f x y b) := by
  apply List.ext_getElem (by simp [tb_len])
  intro n h1 h2
  have hn : n < 64 := by rw [tb_len] at h2; exact h2
  rw [List.getElem_set]
  simp only [tb, List.getElem_map, List.getElem_range, upd]
  by_cases h : x * 8 + y = n
  · rw [if_pos h, if_pos (by omega)]
  · rw [if_neg h, if_neg (by omega)]
theorem tb_congr {f g : Nat → Nat → Bool} (h : ∀ x, x < 8 → ∀ y, y < 8 → f x y = g x y) : tb f = tb g := by
  simp only [tb]
  apply List.map_congr_left
  intro n hn
  have hn : n < 64 := by simpa using hn
  rw [h (n / 8) (by omega) (n % 8) (by omega)]
theorem frees_tb (f : Nat → Nat → Bool) : free.frees (tb f) = true := by
  have key : ∀ l : List Nat, free.frees (l.map fun i => AV.bool (f (i / 8) (i % 8))) = true := by
    intro l
    induction l with
    | nil => rfl
    | cons a l ih => simp only [List.map_cons, free.frees, free, Bool.true_and]; exact ih
  exact key _
def zB : Nat → Nat → Bool := fun _ _ => false
theorem tb_lit : [AV.bool false, .bool false, .bool false, .bool false, .bool false, .bool false, .bool false, .bool false, .bool false, .bool false, .bool false, .bool false, .bool false, .bool false, .bool false, .bool false, .bool false, .bool false, .bool false, .bool false, .bool false, .bool false, .bool false, .bool false, .bool false, .bool false, .bool false, .bool false, .bool false, .bool false, .bool false, .bool false, .bool false, .bool false, .bool false, .bool false, .bool false, .bool false, .bool false, .bool false, .bool false, .bool false, .bool false, .bool false, .bool false, .bool false, .bool false, .bool false, .bool false, .bool false, .bool false, .bool false, .bool false, .bool false, .bool false, .bool false, .bool false, .bool false, .bool false, .bool false, .bool false, .bool false, .bool false, .bool false] = tb zB := rfl
def rbV (r : Rl) : AV := .agg (tb (bitR r))
theorem free_rbV (r : Rl) : free (rbV r) = true := by simp [rbV, free, frees_tb]
theorem bt_big (b : UInt8) {j : Nat} (h : 8 ≤ j) : bt b j = false := by
  simp only [bt]; exact BitVec.getLsbD_of_ge _ _ h
theorem half_eq (n : Nat) : ((n : Int).tdiv 2) = ((n / 2 : Nat) : Int) := by
  rw [Int.tdiv_eq_ediv_of_nonneg (by omega)]; omega
theorem odd_eq (n : Nat) : ((n : Int).tmod 2) = ((n % 2 : Nat) : Int) := by
  rw [Int.tmod_eq_emod_of_nonneg (by omega)]; omega
set_option maxRecDepth 100000 in
set_option maxHeartbeats 4000000 in
theorem p_bit14 (b : UInt8) (j : Nat) (hj : j ≤ 8) : PCalls Try.prog 23 [u8 b, .int .i64 j] (.bool (bt b j)) := by
  have hb := b.toNat_lt
  refine pcalls_of (by simp [free.frees, free, u8]) rfl (acalls_of mixed J_ref14_bit_ok (Nat.le_of_ble_eq_true rfl) ?_); simp only [J_ref14_bit, u8, wk,if_true,if_false,forall_const,implies_true,ne_eq,eq_self,Nat.reduceEqDiff,Nat.reduceAdd,Nat.reduceMul,Nat.reduceSub,Nat.reduceLeDiff,Nat.reduceLT,Int.reduceEq,Int.reduceLT,Int.reduceLE,Int.reduceAdd,Int.reduceSub,Int.reduceMul,Int.reduceNeg,Int.reduceNe,reduceCtorEq,Int.reduceToNat,↓reduceIte]
  refine W_loop (fun n fr h => ∃ i q : Nat, i ≤ j ∧ n = j - i ∧ q = b.toNat / 2 ^ i ∧ fr = [(1, .int .i64 j), (5, .int .i64 q), (6, .int .i64 i)]) j ⟨0, b.toNat, by omega, by omega, by simp, ?_⟩ ?_
  · have : IntKind.i64.wrap (b.toNat : Int) = b.toNat := by
      simp only [IntKind.wrap, IntKind.bits, IntKind.signed]
      have : (b.toNat : Int) < 256 := by omega
      simp
      omega
    simp only [this]
    rfl
  rintro n fr h' ⟨i, q, hi, rfl, hq, rfl⟩
  simp only [J_ref14_bit_j2, wk,if_true,if_false,forall_const,implies_true,ne_eq,eq_self,Nat.reduceEqDiff,Nat.reduceAdd,Nat.reduceMul,Nat.reduceSub,Nat.reduceLeDiff,Nat.reduceLT,Int.reduceEq,Int.reduceLT,Int.reduceLE,Int.reduceAdd,Int.reduceSub,Int.reduceMul,Int.reduceNeg,Int.reduceNe,reduceCtorEq,Int.reduceToNat,↓reduceIte]
  have hd : q ≤ b.toNat := by rw [hq]; exact Nat.div_le_self _ _
  refine ⟨fun hlt => ?_, fun hge => ?_⟩
  · have e : b.toNat / 2 ^ (i + 1) = b.toNat / 2 ^ i / 2 := by rw [Nat.pow_succ, Nat.div_div_eq_div_mul]
    simp only [half_eq, wk,if_true,if_false,forall_const,implies_true,ne_eq,eq_self,Nat.reduceEqDiff,Nat.reduceAdd,Nat.reduceMul,Nat.reduceSub,Nat.reduceLeDiff,Nat.reduceLT,Int.reduceEq,Int.reduceLT,Int.reduceLE,Int.reduceAdd,Int.reduceSub,Int.reduceMul,Int.reduceNeg,Int.reduceNe,reduceCtorEq,Int.reduceToNat,↓reduceIte]
    exact ⟨inR_of (by omega) (by omega), inR_of (by omega) (by omega), j - (i + 1), by omega, i + 1, q / 2, by omega, rfl, by rw [e, hq], by simp⟩
  · obtain rfl : i = j := by omega
    simp only [J_ref14_bit_j1, odd_eq, wk,if_true,if_false,forall_const,implies_true,ne_eq,eq_self,Nat.reduceEqDiff,Nat.reduceAdd,Nat.reduceMul,Nat.reduceSub,Nat.reduceLeDiff,Nat.reduceLT,Int.reduceEq,Int.reduceLT,Int.reduceLE,Int.reduceAdd,Int.reduceSub,Int.reduceMul,Int.reduceNeg,Int.reduceNe,reduceCtorEq,Int.reduceToNat,↓reduceIte]
    refine boolE ?_
    rw [← bt_test, Nat.testBit_eq_decide_div_mod_eq, ← hq]
    rw [Bool.eq_iff_iff]; simp only [decide_eq_true_eq]; omega
theorem subB_no {f g : Nat → Nat → Bool} {x y : Nat} (hx : x < 8) (hy : y < 8) (h1 : f x y = true) (h2 : g x y = false) : (List.range 8).all (fun i => (List.range 8).all fun j => !f i j || g i j) = false := by
  rw [List.all_eq_false]
  refine ⟨x, by simpa using hx, ?_⟩
  rw [Bool.not_eq_true, List.all_eq_false]
  exact ⟨y, by simpa using hy, by simp [h1, h2]⟩
def subB (f g : Nat → Nat → Bool) : Bool := (List.range 8).all fun i => (List.range 8).all fun j => !f i j || g i j
theorem subB_iff {f g : Nat → Nat → Bool} : subB f g = true ↔ ∀ i, i < 8 → ∀ j, j < 8 → f i j = true → g i j = true := by
  simp only [subB, List.all_eq_true, List.mem_range, Bool.or_eq_true, Bool.not_eq_true']
  constructor
  · intro h i hi j hj hf
    rcases h i hi j hj with h | h
    · rw [hf] at h; cases h
    · exact h
  · intro h i hi j hj
    cases hf : f i j
    · exact .inl rfl
    · exact .inr (h i hi j hj hf)
theorem subB_within (r s : Rl) : subB (bitR r) (bitR s) = withinR r s := by
  rw [Bool.eq_iff_iff, subB_iff, within_iff]
  constructor
  · intro h i hi j hb
    rcases Nat.lt_or_ge j 8 with hj | hj
    · exact h i hi j hj hb
    · rw [show bitR r i j = false from bt_big _ hj] at hb; cases hb
  · exact fun h i hi j _ => h i hi j
set_option maxRecDepth 100000 in
set_option maxHeartbeats 8000000 in
theorem p_within14 (r s : Rl) : PCalls Try.prog 36 [rbV r, rbV s] (.bool (withinR r s)) := by
  rw [← subB_within]
  generalize hf : bitR r = f
  generalize hg : bitR s = g
  refine pcalls_of (by simp [free.frees, free_rbV]) rfl (acalls_of mixed J_ref14_Within_ok (Nat.le_of_ble_eq_true rfl) ?_); simp only [J_ref14_Within, rbV, hf, hg, tb_len, wk,if_true,if_false,forall_const,implies_true,ne_eq,eq_self,Nat.reduceEqDiff,Nat.reduceAdd,Nat.reduceMul,Nat.reduceSub,Nat.reduceLeDiff,Nat.reduceLT,Int.reduceEq,Int.reduceLT,Int.reduceLE,Int.reduceAdd,Int.reduceSub,Int.reduceMul,Int.reduceNeg,Int.reduceNe,reduceCtorEq,Int.reduceToNat,↓reduceIte]
  clear hf hg
  refine W_loop (fun n fr h => ∃ x : Nat, x ≤ 8 ∧ n = 8 - x ∧ (∀ i, i < x → ∀ j, j < 8 → f i j = true → g i j = true) ∧ fr = [(2, .ptr 0 0), (3, .ptr 1 0), (5, .int .i64 x)] ∧ h = [some (false, tb f), some (false, tb g)]) 8 ⟨0, by omega, by omega, by simp, rfl, rfl⟩ ?_
  rintro n fr h' ⟨x, hx, rfl, hall, rfl, rfl⟩
  simp only [J_ref14_Within_j4, wk,if_true,if_false,forall_const,implies_true,ne_eq,eq_self,Nat.reduceEqDiff,Nat.reduceAdd,Nat.reduceMul,Nat.reduceSub,Nat.reduceLeDiff,Nat.reduceLT,Int.reduceEq,Int.reduceLT,Int.reduceLE,Int.reduceAdd,Int.reduceSub,Int.reduceMul,Int.reduceNeg,Int.reduceNe,reduceCtorEq,Int.reduceToNat,↓reduceIte]
  refine ⟨fun hlt => ?_, fun hge => ?_⟩
  · have hxl : x < 8 := by omega
    refine W_loop (fun n fr h => ∃ y : Nat, y ≤ 8 ∧ n = 8 - y ∧ (∀ j, j < y → f x j = true → g x j = true) ∧ fr = [(2, .ptr 0 0), (3, .ptr 1 0), (5, .int .i64 x), (6, .int .i64 y)] ∧ h = [some (false, tb f), some (false, tb g)]) 8 ⟨0, by omega, by omega, by simp, rfl, rfl⟩ ?_
    rintro n fr h' ⟨y, hy, rfl, hally, rfl, rfl⟩
    simp only [J_ref14_Within_j3, wk,if_true,if_false,forall_const,implies_true,ne_eq,eq_self,Nat.reduceEqDiff,Nat.reduceAdd,Nat.reduceMul,Nat.reduceSub,Nat.reduceLeDiff,Nat.reduceLT,Int.reduceEq,Int.reduceLT,Int.reduceLE,Int.reduceAdd,Int.reduceSub,Int.reduceMul,Int.reduceNeg,Int.reduceNe,reduceCtorEq,Int.reduceToNat,↓reduceIte]
    refine ⟨fun hlt => ?_, fun hge => ?_⟩
    · have hyl : y < 8 := by omega
      have hxn : ((0 ≤ (x : Int)) ∧ (x : Int) < ((8 : Nat) : Int)) = True := by simp; omega
      have hyn : ((0 ≤ (y : Int)) ∧ (y : Int) < ((8 : Nat) : Int)) = True := by simp; omega
      have hd1 := tb_drop f hxl hyl
      have hd2 := tb_drop g hxl hyl
      cases h1 : f x y with
      | false =>
        rw [h1] at hd1
        simp only [idpF, hxn, hyn, Int.toNat_natCast, hd1, hd2, wk,if_true,if_false,forall_const,implies_true,ne_eq,eq_self,Nat.reduceEqDiff,Nat.reduceAdd,Nat.reduceMul,Nat.reduceSub,Nat.reduceLeDiff,Nat.reduceLT,Int.reduceEq,Int.reduceLT,Int.reduceLE,Int.reduceAdd,Int.reduceSub,Int.reduceMul,Int.reduceNeg,Int.reduceNe,reduceCtorEq,Int.reduceToNat,↓reduceIte]
        refine ⟨inR_of (by omega) (by omega), 8 - (y + 1), by omega, y + 1, by omega, rfl, fun j hj => ?_, by simp⟩
        rcases Nat.lt_succ_iff_lt_or_eq.1 hj with h | rfl
        · exact hally j h
        · intro h; rw [h1] at h; cases h
      | true =>
        cases h2 : g x y with
        | false =>
          rw [h1] at hd1
          rw [h2] at hd2
          simp only [idpF, hxn, hyn, Int.toNat_natCast, hd1, hd2, wk,if_true,if_false,forall_const,implies_true,ne_eq,eq_self,Nat.reduceEqDiff,Nat.reduceAdd,Nat.reduceMul,Nat.reduceSub,Nat.reduceLeDiff,Nat.reduceLT,Int.reduceEq,Int.reduceLT,Int.reduceLE,Int.reduceAdd,Int.reduceSub,Int.reduceMul,Int.reduceNeg,Int.reduceNe,reduceCtorEq,Int.reduceToNat,↓reduceIte]
          exact boolE (subB_no hxl hyl h1 h2).symm
        | true =>
          rw [h1] at hd1
          rw [h2] at hd2
          simp only [idpF, hxn, hyn, Int.toNat_natCast, hd1, hd2, wk,if_true,if_false,forall_const,implies_true,ne_eq,eq_self,Nat.reduceEqDiff,Nat.reduceAdd,Nat.reduceMul,Nat.reduceSub,Nat.reduceLeDiff,Nat.reduceLT,Int.reduceEq,Int.reduceLT,Int.reduceLE,Int.reduceAdd,Int.reduceSub,Int.reduceMul,Int.reduceNeg,Int.reduceNe,reduceCtorEq,Int.reduceToNat,↓reduceIte]
          refine ⟨inR_of (by omega) (by omega), 8 - (y + 1), by omega, y + 1, by omega, rfl, fun j hj => ?_, by simp⟩
          rcases Nat.lt_succ_iff_lt_or_eq.1 hj with h | rfl
          · exact hally j h
          · intro _; exact h2
    · obtain rfl : y = 8 := by omega
      simp only [J_ref14_Within_j2, wk,if_true,if_false,forall_const,implies_true,ne_eq,eq_self,Nat.reduceEqDiff,Nat.reduceAdd,Nat.reduceMul,Nat.reduceSub,Nat.reduceLeDiff,Nat.reduceLT,Int.reduceEq,Int.reduceLT,Int.reduceLE,Int.reduceAdd,Int.reduceSub,Int.reduceMul,Int.reduceNeg,Int.reduceNe,reduceCtorEq,Int.reduceToNat,↓reduceIte]
      refine ⟨inR_of (by omega) (by omega), 8 - (x + 1), by omega, x + 1, by omega, rfl, fun i hi => ?_, by simp⟩
      rcases Nat.lt_succ_iff_lt_or_eq.1 hi with h | rfl
      · exact hall i h
      · exact hally
  · obtain rfl : x = 8 := by omega
    simp only [J_ref14_Within_j1, wk,if_true,if_false,forall_const,implies_true,ne_eq,eq_self,Nat.reduceEqDiff,Nat.reduceAdd,Nat.reduceMul,Nat.reduceSub,Nat.reduceLeDiff,Nat.reduceLT,Int.reduceEq,Int.reduceLT,Int.reduceLE,Int.reduceAdd,Int.reduceSub,Int.reduceMul,Int.reduceNeg,Int.reduceNe,reduceCtorEq,Int.reduceToNat,↓reduceIte]
    exact boolE (subB_iff.2 hall).symm
end Go.Proofs.Ytlfnepcglnjogaa

/- The document's May, Atom and bytes, over the abstract code. -/
-- fast
namespace Go.Proofs.Ytlfnepcglnjogaa
set_option linter.unusedSimpArgs false
set_option linter.unusedVariables false
open Go.RowKit Go.Lib

theorem high_bits (b : UInt8) (n : Nat) : b.toNat / 2 ^ n = 0 ↔ ∀ j, n ≤ j → j < 8 → bt b j = false := by
  rw [Nat.div_eq_zero_iff_lt (Nat.pos_of_ne_zero (by simp))]
  constructor
  · intro h j hj _
    rw [← bt_test]
    exact Nat.testBit_lt_two_pow (Nat.lt_of_lt_of_le h (Nat.pow_le_pow_right (by omega) hj))
  · intro h
    apply Nat.lt_pow_two_of_testBit
    intro j hj
    rw [bt_test]
    rcases Nat.lt_or_ge j 8 with h8 | h8
    · exact h j hj h8
    · exact bt_big b h8
theorem mdMay_row {m : Mdl} (h : mdMay m = true) : ∀ x ∈ m.rows, (x.to.length : Int) = m.n ∧ ∀ b ∈ x.to, b.toNat / 2 ^ m.n.toNat = 0 := by
  simp only [mdMay, Bool.and_eq_true, decide_eq_true_eq, List.all_eq_true] at h
  exact h.2
set_option maxRecDepth 100000 in
set_option maxHeartbeats 8000000 in
theorem p_may14 (m : Mdl) (hl : m.rows.length ≤ 1000) (hs : ∀ x ∈ m.rows, smallW x) : PCalls Try.prog 9 [mdV m] (.bool (mdMay m)) := by
  refine pcalls_of (by simp [free.frees, free_mdV]) rfl (acalls_of mixed J_ref14_May_ok (Nat.le_of_ble_eq_true rfl) ?_); simp only [J_ref14_May, mdV, wk,if_true,if_false,forall_const,implies_true,ne_eq,eq_self,Nat.reduceEqDiff,Nat.reduceAdd,Nat.reduceMul,Nat.reduceSub,Nat.reduceLeDiff,Nat.reduceLT,Int.reduceEq,Int.reduceLT,Int.reduceLE,Int.reduceAdd,Int.reduceSub,Int.reduceMul,Int.reduceNeg,Int.reduceNe,reduceCtorEq,Int.reduceToNat,↓reduceIte]
  have bad : ¬ (1 ≤ m.n ∧ m.n ≤ 8) → mdMay m = false := fun h => by simp [mdMay, h]
  have badx : ∀ x ∈ m.rows, (¬ ((x.to.length : Int) = m.n ∧ ∀ b ∈ x.to, b.toNat / 2 ^ m.n.toNat = 0)) → mdMay m = false := fun x hmem h => by
    cases hb : mdMay m with
    | false => rfl
    | true => exact absurd (mdMay_row hb x hmem) h
  refine ⟨fun h1 => ⟨fun h2 => boolE (bad (by omega)).symm, fun h2 => ?_⟩, fun h1 => boolE (bad (by omega)).symm⟩
  refine W_loop (fun n fr h => ∃ i : Nat, i ≤ m.rows.length ∧ n = m.rows.length - i ∧ (∀ x ∈ m.rows.take i, (x.to.length : Int) = m.n ∧ ∀ b ∈ x.to, b.toNat / 2 ^ m.n.toNat = 0) ∧ fr = [(1, .ptr 0 0), (3, .int .i64 i)] ∧ h = [some (false, [.int .i64 m.n, .lst .ro m.rows.length (rowsC m.rows)])]) m.rows.length ⟨0, by omega, by omega, by simp, rfl, rfl⟩ ?_
  rintro n fr h' ⟨i, hi, rfl, hall, rfl, rfl⟩
  simp only [J_ref14_May_j6, wk,if_true,if_false,forall_const,implies_true,ne_eq,eq_self,Nat.reduceEqDiff,Nat.reduceAdd,Nat.reduceMul,Nat.reduceSub,Nat.reduceLeDiff,Nat.reduceLT,Int.reduceEq,Int.reduceLT,Int.reduceLE,Int.reduceAdd,Int.reduceSub,Int.reduceMul,Int.reduceNeg,Int.reduceNe,reduceCtorEq,Int.reduceToNat,↓reduceIte]
  refine ⟨fun hlt => ?_, fun hge => ?_⟩
  · have hil : i < m.rows.length := by omega
    have hin : ((0 ≤ (i : Int)) ∧ (i : Int) < (m.rows.length : Int)) = True := by simp; omega
    have hd := rowsC_at hil
    have hmem := List.getElem_mem hil
    generalize hx : m.rows[i] = x at hmem hd
    simp only [rowC, kA, List.cons_append, List.nil_append] at hd
    simp only [hin, Int.toNat_natCast, hd, wk,if_true,if_false,forall_const,implies_true,ne_eq,eq_self,Nat.reduceEqDiff,Nat.reduceAdd,Nat.reduceMul,Nat.reduceSub,Nat.reduceLeDiff,Nat.reduceLT,Int.reduceEq,Int.reduceLT,Int.reduceLE,Int.reduceAdd,Int.reduceSub,Int.reduceMul,Int.reduceNeg,Int.reduceNe,reduceCtorEq,Int.reduceToNat,↓reduceIte]
    refine ⟨fun hne => boolE (badx x hmem (fun h => hne h.1)).symm, fun he => ?_⟩
    refine W_loop (fun n fr h => ∃ k : Nat, k ≤ x.to.length ∧ n = x.to.length - k ∧ (∀ b ∈ x.to.take k, b.toNat / 2 ^ m.n.toNat = 0) ∧ fr = [(1, .ptr 0 0), (3, .int .i64 i), (4, .int .i64 k)] ∧ h = [some (false, [.int .i64 m.n, .lst .ro m.rows.length (rowsC m.rows)])]) x.to.length ⟨0, by omega, by omega, by simp, rfl, rfl⟩ ?_
    rintro n fr h' ⟨k, hk, rfl, hallk, rfl, rfl⟩
    simp only [J_ref14_May_j5, wk,if_true,if_false,forall_const,implies_true,ne_eq,eq_self,Nat.reduceEqDiff,Nat.reduceAdd,Nat.reduceMul,Nat.reduceSub,Nat.reduceLeDiff,Nat.reduceLT,Int.reduceEq,Int.reduceLT,Int.reduceLE,Int.reduceAdd,Int.reduceSub,Int.reduceMul,Int.reduceNeg,Int.reduceNe,reduceCtorEq,Int.reduceToNat,↓reduceIte]
    refine ⟨fun hlt => ?_, fun hge => ?_⟩
    · have hkl : k < x.to.length := by omega
      have hkn : ((0 ≤ (k : Int)) ∧ (k : Int) < (x.to.length : Int)) = True := by simp; omega
      have hd2 := rlC_drop hkl
      refine W_loop (fun n fr h => ∃ j : Nat, m.n.toNat ≤ j ∧ j ≤ 8 ∧ n = 8 - j ∧ (∀ q, m.n.toNat ≤ q → q < j → bt x.to[k] q = false) ∧ fr = [(1, .ptr 0 0), (3, .int .i64 i), (4, .int .i64 k), (5, .int .i64 j)] ∧ h = [some (false, [.int .i64 m.n, .lst .ro m.rows.length (rowsC m.rows)])]) (8 - m.n.toNat) ⟨m.n.toNat, by omega, by omega, by omega, fun q h1 h2 => by omega, by rw [show ((m.n.toNat : Nat) : Int) = m.n by omega]; rfl, rfl⟩ ?_
      rintro n fr h' ⟨j, hj0, hj, rfl, hallj, rfl, rfl⟩
      simp only [J_ref14_May_j4, wk,if_true,if_false,forall_const,implies_true,ne_eq,eq_self,Nat.reduceEqDiff,Nat.reduceAdd,Nat.reduceMul,Nat.reduceSub,Nat.reduceLeDiff,Nat.reduceLT,Int.reduceEq,Int.reduceLT,Int.reduceLE,Int.reduceAdd,Int.reduceSub,Int.reduceMul,Int.reduceNeg,Int.reduceNe,reduceCtorEq,Int.reduceToNat,↓reduceIte]
      refine ⟨fun hlt => ?_, fun hge => ?_⟩
      · have qb := p_bit14 x.to[k] j (by omega)
        have hjl : j < 8 := by omega
        simp only [u8] at hd2 qb
        simp only [hin, hkn, Int.toNat_natCast, hd, hd2, wk,if_true,if_false,forall_const,implies_true,ne_eq,eq_self,Nat.reduceEqDiff,Nat.reduceAdd,Nat.reduceMul,Nat.reduceSub,Nat.reduceLeDiff,Nat.reduceLT,Int.reduceEq,Int.reduceLT,Int.reduceLE,Int.reduceAdd,Int.reduceSub,Int.reduceMul,Int.reduceNeg,Int.reduceNe,reduceCtorEq,Int.reduceToNat,↓reduceIte]
        refine PCalls.use qb ?_
        cases hb : bt x.to[k] j with
        | true =>
          simp only [wk,if_true,if_false,forall_const,implies_true,ne_eq,eq_self,Nat.reduceEqDiff,Nat.reduceAdd,Nat.reduceMul,Nat.reduceSub,Nat.reduceLeDiff,Nat.reduceLT,Int.reduceEq,Int.reduceLT,Int.reduceLE,Int.reduceAdd,Int.reduceSub,Int.reduceMul,Int.reduceNeg,Int.reduceNe,reduceCtorEq,Int.reduceToNat,↓reduceIte]
          refine boolE (badx x hmem (fun h => ?_)).symm
          have := (high_bits _ _).1 (h.2 _ (List.getElem_mem hkl)) j hj0 hjl
          rw [hb] at this; cases this
        | false =>
          simp only [wk,if_true,if_false,forall_const,implies_true,ne_eq,eq_self,Nat.reduceEqDiff,Nat.reduceAdd,Nat.reduceMul,Nat.reduceSub,Nat.reduceLeDiff,Nat.reduceLT,Int.reduceEq,Int.reduceLT,Int.reduceLE,Int.reduceAdd,Int.reduceSub,Int.reduceMul,Int.reduceNeg,Int.reduceNe,reduceCtorEq,Int.reduceToNat,↓reduceIte]
          refine ⟨inR_of (by omega) (by omega), 8 - (j + 1), by omega, j + 1, by omega, by omega, rfl, fun q h1 h2 => ?_, by simp⟩
          rcases Nat.lt_succ_iff_lt_or_eq.1 h2 with h | rfl
          · exact hallj q h1 h
          · exact hb
      · obtain rfl : j = 8 := by omega
        simp only [J_ref14_May_j3, wk,if_true,if_false,forall_const,implies_true,ne_eq,eq_self,Nat.reduceEqDiff,Nat.reduceAdd,Nat.reduceMul,Nat.reduceSub,Nat.reduceLeDiff,Nat.reduceLT,Int.reduceEq,Int.reduceLT,Int.reduceLE,Int.reduceAdd,Int.reduceSub,Int.reduceMul,Int.reduceNeg,Int.reduceNe,reduceCtorEq,Int.reduceToNat,↓reduceIte]
        refine ⟨inR_of (by omega) (by omega), x.to.length - (k + 1), by omega, k + 1, by omega, rfl, fun b hb => ?_, by simp⟩
        rw [List.take_succ_eq_append_getElem hkl, List.mem_append, List.mem_singleton] at hb
        rcases hb with hb | rfl
        · exact hallk b hb
        · exact (high_bits _ _).2 hallj
    · obtain rfl : k = x.to.length := by omega
      rw [List.take_of_length_le (Nat.le_refl _)] at hallk
      simp only [J_ref14_May_j2, wk,if_true,if_false,forall_const,implies_true,ne_eq,eq_self,Nat.reduceEqDiff,Nat.reduceAdd,Nat.reduceMul,Nat.reduceSub,Nat.reduceLeDiff,Nat.reduceLT,Int.reduceEq,Int.reduceLT,Int.reduceLE,Int.reduceAdd,Int.reduceSub,Int.reduceMul,Int.reduceNeg,Int.reduceNe,reduceCtorEq,Int.reduceToNat,↓reduceIte]
      refine ⟨inR_of (by omega) (by omega), m.rows.length - (i + 1), by omega, i + 1, by omega, rfl, fun y hy => ?_, by simp⟩
      rw [List.take_succ_eq_append_getElem hil, List.mem_append, List.mem_singleton] at hy
      rcases hy with hy | rfl
      · exact hall y hy
      · rw [hx]; exact ⟨by omega, hallk⟩
  · obtain rfl : i = m.rows.length := by omega
    rw [List.take_of_length_le (Nat.le_refl _)] at hall
    simp only [J_ref14_May_j1, wk,if_true,if_false,forall_const,implies_true,ne_eq,eq_self,Nat.reduceEqDiff,Nat.reduceAdd,Nat.reduceMul,Nat.reduceSub,Nat.reduceLeDiff,Nat.reduceLT,Int.reduceEq,Int.reduceLT,Int.reduceLE,Int.reduceAdd,Int.reduceSub,Int.reduceMul,Int.reduceNeg,Int.reduceNe,reduceCtorEq,Int.reduceToNat,↓reduceIte]
    refine boolE ?_
    symm
    simp only [mdMay, Bool.and_eq_true, decide_eq_true_eq, List.all_eq_true]
    exact ⟨by omega, fun x hx => hall x hx⟩
theorem pad_get {to : Rl} {i : Nat} (hi : i < to.length) (h8 : to.length ≤ 8) : (pad to).getD i 0 = to[i] := by
  simp only [pad, List.getD_eq_getElem?_getD]
  rw [List.take_of_length_le h8, List.getElem?_append_left hi, List.getElem?_eq_getElem hi]
  rfl
theorem pad_zero {to : Rl} {i : Nat} (hi : to.length ≤ i) (h8 : to.length ≤ 8) : (pad to).getD i 0 = 0 := by
  simp only [pad, List.getD_eq_getElem?_getD]
  rw [List.take_of_length_le h8, List.getElem?_append_right hi, List.getElem?_replicate]
  split <;> rfl
theorem relA_take {l : List Row} {i : Nat} (h : i < l.length) (a : Nat) : relA (l.take (i + 1)) a = if a = l[i].atom then pad l[i].to else relA (l.take i) a := by
  rw [relA_eq, relA_eq, List.take_succ_eq_append_getElem h, List.foldl_append]
  rfl
theorem upd_at {f g : Nat → Nat → Bool} {x y : Nat} {b : Bool} {Q : Nat → Nat → Prop} (h0 : ∀ i j, Q i j → (i = x ∧ j = y → b = g i j) ∧ (¬ (i = x ∧ j = y) → f i j = g i j)) : ∀ i j, Q i j → upd f x y b i j = g i j := by
  intro i j hq
  obtain ⟨h1, h2⟩ := h0 i j hq
  simp only [upd]
  split
  · next h => exact h1 h
  · next h => exact h2 h
set_option maxRecDepth 100000 in
set_option maxHeartbeats 8000000 in
theorem p_atom14 (m : Mdl) (a : Nat) (hmm : mdMay m = true) (hl : m.rows.length ≤ 1000) : PCalls Try.prog 51 [mdV m, .int .u16 a] (rbV (relA m.rows a)) := by
  have hn := mdMay_n hmm
  refine pcalls_of (by simp [free.frees, free, free_mdV]) (free_rbV _) (acalls_of mixed J_ref14_Atom_ok (Nat.le_of_ble_eq_true rfl) ?_); simp only [J_ref14_Atom, mdV, tb_lit, tb_len, tb_splice, wk,if_true,if_false,forall_const,implies_true,ne_eq,eq_self,Nat.reduceEqDiff,Nat.reduceAdd,Nat.reduceMul,Nat.reduceSub,Nat.reduceLeDiff,Nat.reduceLT,Int.reduceEq,Int.reduceLT,Int.reduceLE,Int.reduceAdd,Int.reduceSub,Int.reduceMul,Int.reduceNeg,Int.reduceNe,reduceCtorEq,Int.reduceToNat,↓reduceIte]
  have hz : tb zB = tb (bitR (relA [] a)) := tb_congr fun x hx y hy => by
    have : relA [] a = zR := rfl
    rw [this]
    have hz : zR = List.replicate 8 0 := rfl
    simp only [zB, bitR, hz, List.getD_eq_getElem?_getD, List.getElem?_replicate, hx, if_true, Option.getD_some, bt_zero]
  refine W_loop (fun n fr h => ∃ i : Nat, i ≤ m.rows.length ∧ n = m.rows.length - i ∧ fr = [(1, .int .u16 a), (2, .ptr 0 0), (4, .ptr 1 0), (5, .ptr 2 0), (6, .int .i64 i)] ∧ h = [some (false, [.int .i64 m.n, .lst .ro m.rows.length (rowsC m.rows)]), some (false, tb zB), some (false, tb (bitR (relA (m.rows.take i) a)))]) m.rows.length ⟨0, by omega, by omega, rfl, by rw [List.take_zero, ← hz]⟩ ?_
  rintro n fr h' ⟨i, hi, rfl, rfl, rfl⟩
  simp only [J_ref14_Atom_j6, tb_lit, tb_len, tb_splice, wk,if_true,if_false,forall_const,implies_true,ne_eq,eq_self,Nat.reduceEqDiff,Nat.reduceAdd,Nat.reduceMul,Nat.reduceSub,Nat.reduceLeDiff,Nat.reduceLT,Int.reduceEq,Int.reduceLT,Int.reduceLE,Int.reduceAdd,Int.reduceSub,Int.reduceMul,Int.reduceNeg,Int.reduceNe,reduceCtorEq,Int.reduceToNat,↓reduceIte]
  refine ⟨fun hlt => ?_, fun hge => ?_⟩
  · have hil : i < m.rows.length := by omega
    have hin : ((0 ≤ (i : Int)) ∧ (i : Int) < (m.rows.length : Int)) = True := by simp; omega
    have hd := rowsC_at hil
    have hmem := List.getElem_mem hil
    have hrow := mdMay_row hmm _ hmem
    have ht := relA_take hil a
    generalize hx : m.rows[i] = x at hmem hd hrow ht
    simp only [rowC, kA, List.cons_append, List.nil_append] at hd
    simp only [hin, Int.toNat_natCast, hd, tb_lit, tb_len, tb_splice, wk,if_true,if_false,forall_const,implies_true,ne_eq,eq_self,Nat.reduceEqDiff,Nat.reduceAdd,Nat.reduceMul,Nat.reduceSub,Nat.reduceLeDiff,Nat.reduceLT,Int.reduceEq,Int.reduceLT,Int.reduceLE,Int.reduceAdd,Int.reduceSub,Int.reduceMul,Int.reduceNeg,Int.reduceNe,reduceCtorEq,Int.reduceToNat,↓reduceIte]
    refine ⟨fun hne => ?_, fun he => ?_⟩
    · rw [if_neg (by omega)] at ht
      simp only [J_ref14_Atom_j2, wk,if_true,if_false,forall_const,implies_true,ne_eq,eq_self,Nat.reduceEqDiff,Nat.reduceAdd,Nat.reduceMul,Nat.reduceSub,Nat.reduceLeDiff,Nat.reduceLT,Int.reduceEq,Int.reduceLT,Int.reduceLE,Int.reduceAdd,Int.reduceSub,Int.reduceMul,Int.reduceNeg,Int.reduceNe,reduceCtorEq,Int.reduceToNat,↓reduceIte]
      exact ⟨inR_of (by omega) (by omega), m.rows.length - (i + 1), by omega, i + 1, by omega, rfl, by simp, by rw [ht]⟩
    · rw [if_pos (by omega)] at ht
      have h8 : x.to.length ≤ 8 := by omega
      have hlow : ∀ k, (hk : k < x.to.length) → ∀ j, x.to.length ≤ j → j < 8 → bt x.to[k] j = false := fun k hk j h1 h2 => (high_bits _ _).1 (hrow.2 _ (List.getElem_mem hk)) j (by omega) h2
      refine W_loop (fun n fr h => ∃ (k : Nat) (g : Nat → Nat → Bool), k ≤ x.to.length ∧ n = x.to.length - k ∧ (∀ p q, p < 8 ∧ q < 8 → g p q = if p < k then bitR (pad x.to) p q else false) ∧ fr = [(1, .int .u16 a), (2, .ptr 0 0), (4, .ptr 1 0), (5, .ptr 2 0), (6, .int .i64 i), (7, .int .i64 k)] ∧ h = [some (false, [.int .i64 m.n, .lst .ro m.rows.length (rowsC m.rows)]), some (false, tb zB), some (false, tb g)]) x.to.length ⟨0, zB, by omega, by omega, fun p q _ => rfl, by rfl, by rfl⟩ ?_
      rintro n fr h' ⟨k, g, hk, rfl, hg, rfl, rfl⟩
      simp only [J_ref14_Atom_j5, wk,if_true,if_false,forall_const,implies_true,ne_eq,eq_self,Nat.reduceEqDiff,Nat.reduceAdd,Nat.reduceMul,Nat.reduceSub,Nat.reduceLeDiff,Nat.reduceLT,Int.reduceEq,Int.reduceLT,Int.reduceLE,Int.reduceAdd,Int.reduceSub,Int.reduceMul,Int.reduceNeg,Int.reduceNe,reduceCtorEq,Int.reduceToNat,↓reduceIte]
      refine ⟨fun hlt => ?_, fun hge => ?_⟩
      · have hkl : k < x.to.length := by omega
        have hkn : ((0 ≤ (k : Int)) ∧ (k : Int) < (x.to.length : Int)) = True := by simp; omega
        have hk8 : ((0 ≤ (k : Int)) ∧ (k : Int) < ((8 : Nat) : Int)) = True := by simp; omega
        have hd2 := rlC_drop hkl
        simp only [u8] at hd2
        refine W_loop (fun n fr h => ∃ (j : Nat) (g : Nat → Nat → Bool), j ≤ x.to.length ∧ n = x.to.length - j ∧ (∀ p q, p < 8 ∧ q < 8 → g p q = if p < k ∨ (p = k ∧ q < j) then bitR (pad x.to) p q else false) ∧ fr = [(1, .int .u16 a), (2, .ptr 0 0), (4, .ptr 1 0), (5, .ptr 2 0), (6, .int .i64 i), (7, .int .i64 k), (8, .int .i64 j)] ∧ h = [some (false, [.int .i64 m.n, .lst .ro m.rows.length (rowsC m.rows)]), some (false, tb zB), some (false, tb g)]) x.to.length ⟨0, g, by omega, by omega, fun p q hpq => by rw [hg p q hpq]; simp, by rfl, by rfl⟩ ?_
        rintro n fr h' ⟨j, g, hj, rfl, hg, rfl, rfl⟩
        simp only [J_ref14_Atom_j4, wk,if_true,if_false,forall_const,implies_true,ne_eq,eq_self,Nat.reduceEqDiff,Nat.reduceAdd,Nat.reduceMul,Nat.reduceSub,Nat.reduceLeDiff,Nat.reduceLT,Int.reduceEq,Int.reduceLT,Int.reduceLE,Int.reduceAdd,Int.reduceSub,Int.reduceMul,Int.reduceNeg,Int.reduceNe,reduceCtorEq,Int.reduceToNat,↓reduceIte]
        refine ⟨fun hlt => ?_, fun hge => ?_⟩
        · have hjl : j < x.to.length := by omega
          have hj8 : ((0 ≤ (j : Int)) ∧ (j : Int) < ((8 : Nat) : Int)) = True := by simp; omega
          have qb := p_bit14 x.to[k] j (by omega)
          have hset := tb_set g (x := k) (y := j) (by omega) (by omega) (bt x.to[k] j)
          have hle : k * 8 + j < 64 := by omega
          simp only [u8] at qb
          simp only [idpF, hin, hkn, hk8, hj8, Int.toNat_natCast, hd, hd2, wk,if_true,if_false,forall_const,implies_true,ne_eq,eq_self,Nat.reduceEqDiff,Nat.reduceAdd,Nat.reduceMul,Nat.reduceSub,Nat.reduceLeDiff,Nat.reduceLT,Int.reduceEq,Int.reduceLT,Int.reduceLE,Int.reduceAdd,Int.reduceSub,Int.reduceMul,Int.reduceNeg,Int.reduceNe,reduceCtorEq,Int.reduceToNat,↓reduceIte]
          refine ⟨_, qb, ?_⟩
          simp only [tb_len, wk,if_true,if_false,forall_const,implies_true,ne_eq,eq_self,Nat.reduceEqDiff,Nat.reduceAdd,Nat.reduceMul,Nat.reduceSub,Nat.reduceLeDiff,Nat.reduceLT,Int.reduceEq,Int.reduceLT,Int.reduceLE,Int.reduceAdd,Int.reduceSub,Int.reduceMul,Int.reduceNeg,Int.reduceNe,reduceCtorEq,Int.reduceToNat,↓reduceIte]
          refine ⟨by omega, inR_of (by omega) (by omega), x.to.length - (j + 1), by omega, j + 1, upd g k j (bt x.to[k] j), by omega, rfl, upd_at (Q := fun p q => p < 8 ∧ q < 8) fun p q hpq => ⟨?_, fun hne => ?_⟩, by simp, by rw [hset]⟩
          · rintro ⟨rfl, rfl⟩
            rw [if_pos (.inr ⟨rfl, by omega⟩), bitR, pad_get hkl h8]
          · rw [hg p q hpq]
            by_cases h1 : p < k ∨ (p = k ∧ q < j)
            · rw [if_pos h1, if_pos (by omega)]
            · rw [if_neg h1, if_neg (by omega)]
        · obtain rfl : j = x.to.length := by omega
          simp only [J_ref14_Atom_j3, wk,if_true,if_false,forall_const,implies_true,ne_eq,eq_self,Nat.reduceEqDiff,Nat.reduceAdd,Nat.reduceMul,Nat.reduceSub,Nat.reduceLeDiff,Nat.reduceLT,Int.reduceEq,Int.reduceLT,Int.reduceLE,Int.reduceAdd,Int.reduceSub,Int.reduceMul,Int.reduceNeg,Int.reduceNe,reduceCtorEq,Int.reduceToNat,↓reduceIte]
          refine ⟨inR_of (by omega) (by omega), x.to.length - (k + 1), by omega, k + 1, g, by omega, rfl, fun p q hpq => ?_, by simp, rfl⟩
          rw [hg p q hpq]
          by_cases h1 : p < k ∨ (p = k ∧ q < x.to.length)
          · rw [if_pos h1, if_pos (by omega)]
          · rw [if_neg h1]
            split
            · have : p = k := by omega
              subst this
              rw [bitR, pad_get hkl h8, hlow p hkl q (by omega) hpq.2]
            · rfl
      · obtain rfl : k = x.to.length := by omega
        simp only [J_ref14_Atom_j2, wk,if_true,if_false,forall_const,implies_true,ne_eq,eq_self,Nat.reduceEqDiff,Nat.reduceAdd,Nat.reduceMul,Nat.reduceSub,Nat.reduceLeDiff,Nat.reduceLT,Int.reduceEq,Int.reduceLT,Int.reduceLE,Int.reduceAdd,Int.reduceSub,Int.reduceMul,Int.reduceNeg,Int.reduceNe,reduceCtorEq,Int.reduceToNat,↓reduceIte]
        refine ⟨inR_of (by omega) (by omega), m.rows.length - (i + 1), by omega, i + 1, by omega, rfl, by simp, ?_⟩
        rw [ht]
        have : tb g = tb (bitR (pad x.to)) := tb_congr fun p hp q hq => by
          rw [hg p q ⟨hp, hq⟩]
          split
          · rfl
          · rw [bitR, pad_zero (by omega) h8, bt_zero]
        rw [this]
  · obtain rfl : i = m.rows.length := by omega
    rw [List.take_of_length_le (Nat.le_refl _)]
    simp only [J_ref14_Atom_j1, tb_len, tb_take, tb_deg, tb_splice, rbV, wk,if_true,if_false,forall_const,implies_true,ne_eq,eq_self,Nat.reduceEqDiff,Nat.reduceAdd,Nat.reduceMul,Nat.reduceSub,Nat.reduceLeDiff,Nat.reduceLT,Int.reduceEq,Int.reduceLT,Int.reduceLE,Int.reduceAdd,Int.reduceSub,Int.reduceMul,Int.reduceNeg,Int.reduceNe,reduceCtorEq,Int.reduceToNat,↓reduceIte]
    simp only [val, ev, lk, tb_len, tb_take, tb_deg, wk,if_true,if_false,forall_const,implies_true,ne_eq,eq_self,Nat.reduceEqDiff,Nat.reduceAdd,Nat.reduceMul,Nat.reduceSub,Nat.reduceLeDiff,Nat.reduceLT,Int.reduceEq,Int.reduceLT,Int.reduceLE,Int.reduceAdd,Int.reduceSub,Int.reduceMul,Int.reduceNeg,Int.reduceNe,reduceCtorEq,Int.reduceToNat,↓reduceIte]
end Go.Proofs.Ytlfnepcglnjogaa

/- The document's relations of words and sets, over the abstract code. -/
-- fast
namespace Go.Proofs.Ytlfnepcglnjogaa
set_option linter.unusedSimpArgs false
set_option linter.unusedVariables false
open Go.RowKit Go.Lib

def ofS (l : List Row) (w : ByteArray) : Nat → Nat → Rl
  | k, 0 => relA l (atomAt w k)
  | k, n + 1 => thenR (relA l (atomAt w k)) (ofS l w (k + 1) n)
def lftS (l : List Row) (w : ByteArray) (k : Nat) : Nat → Rl
  | 0 => relA l (atomAt w k)
  | n + 1 => thenR (lftS l w k n) (relA l (atomAt w (k + n + 1)))
theorem lftS_len (l : List Row) (w : ByteArray) (k : Nat) : ∀ n, (lftS l w k n).length = 8
  | 0 => relA_length _ _
  | n + 1 => by simp only [lftS, thenR, List.length_map]; exact lftS_len l w k n
theorem lftS_cons (l : List Row) (w : ByteArray) (k : Nat) : ∀ n, lftS l w k (n + 1) = thenR (relA l (atomAt w k)) (lftS l w (k + 1) n)
  | 0 => rfl
  | n + 1 => by
    rw [lftS, lftS_cons l w k n, thenR_assoc _ (relA_length _ _) (lftS_len _ _ _ _)]
    simp only [lftS]
    rw [show k + (n + 1) + 1 = k + 1 + n + 1 by omega]
theorem ofS_eq (l : List Row) (w : ByteArray) : ∀ n k, ofS l w k n = lftS l w k n
  | 0, k => rfl
  | n + 1, k => by rw [lftS_cons, ofS, ofS_eq l w n (k + 1)]
theorem lftS_word (l : List Row) (w : ByteArray) : ∀ n, lftS l w 0 n = wordN l w n
  | 0 => rfl
  | n + 1 => by rw [lftS, wordN, lftS_word l w n, Nat.zero_add]
theorem ofS_word (l : List Row) (w : ByteArray) : ofS l w 0 (w.size / 2 - 1) = wordR l w := by rw [ofS_eq, lftS_word]; rfl
def cpB (a o : Nat → Nat → Bool) (i k : Nat) : Nat → Bool
  | 0 => false
  | y + 1 => cpB a o i k y || (a i y && o y k)
theorem cpB_iff (a o : Nat → Nat → Bool) (i k : Nat) : ∀ n, cpB a o i k n = true ↔ ∃ j, j < n ∧ a i j = true ∧ o j k = true
  | 0 => by simp [cpB]
  | n + 1 => by
    simp only [cpB, Bool.or_eq_true, Bool.and_eq_true, cpB_iff a o i k n]
    constructor
    · rintro (⟨j, h1, h2⟩ | h)
      · exact ⟨j, by omega, h2⟩
      · exact ⟨n, by omega, h⟩
    · rintro ⟨j, h1, h2⟩
      rcases Nat.lt_succ_iff_lt_or_eq.1 h1 with h | rfl
      · exact .inl ⟨j, h, h2⟩
      · exact .inr h2
theorem cpB_then {r : Rl} (hr : r.length = 8) (s : Rl) {i k : Nat} (hi : i < 8) : cpB (bitR r) (bitR s) i k 8 = bitR (thenR r s) i k := by
  rw [Bool.eq_iff_iff, cpB_iff, bit_thenR hr s hi]
section
variable {α : Type} (h : List α) (x y z : α)
theorem hp_len1 : (h ++ [x]).length = h.length + 1 := by simp
theorem hp_get1 : (h ++ [x, y])[h.length]? = some x := by
  rw [List.getElem?_append_right (Nat.le_refl _), Nat.sub_self]; rfl
theorem hp_get2 : (h ++ [x, y])[h.length + 1]? = some y := by
  rw [List.getElem?_append_right (by omega), show h.length + 1 - h.length = 1 by omega]; rfl
theorem hp_set2 : (h ++ [x, y]).set (h.length + 1) z = h ++ [x, z] := by
  rw [List.set_append_right _ _ (by omega), show h.length + 1 - h.length = 1 by omega]; rfl
theorem hp_two : (h ++ [x]) ++ [y] = h ++ [x, y] := by simp
end
set_option maxRecDepth 100000 in
set_option maxHeartbeats 16000000 in
theorem p_of14 (m : Mdl) (w : ByteArray) (hmm : mdMay m = true) (hl : m.rows.length ≤ 1000) (hw : wordMay w = true) (hs : w.size ≤ 1000) : PCalls Try.prog 30 [mdV m, .str w] (rbV (wordR m.rows w)) := by
  have hm := hw
  simp only [wordMay, Bool.and_eq_true, decide_eq_true_eq] at hm
  have qa := p_ratoms w (by omega)
  have qt : ∀ a, PCalls Try.prog 51 [.agg [.int .i64 m.n, .lst .ro m.rows.length (rowsC m.rows)], .int .u16 (a : Nat)] (.agg (tb (bitR (relA m.rows a)))) := fun a => p_atom14 m a hmm hl
  refine pcalls_of (by simp [free.frees, free, free_mdV]) (free_rbV _) (acalls_of mixed J_ref14_Of_ok (Nat.le_of_ble_eq_true rfl) ?_); simp only [J_ref14_Of, mdV, tb_lit, tb_len, tb_splice, wk,if_true,if_false,forall_const,implies_true,ne_eq,eq_self,Nat.reduceEqDiff,Nat.reduceAdd,Nat.reduceMul,Nat.reduceSub,Nat.reduceLeDiff,Nat.reduceLT,Int.reduceEq,Int.reduceLT,Int.reduceLE,Int.reduceAdd,Int.reduceSub,Int.reduceMul,Int.reduceNeg,Int.reduceNe,reduceCtorEq,Int.reduceToNat,↓reduceIte]
  refine PCalls.use (qa) ?_; simp only [wk,if_true,if_false,forall_const,implies_true,ne_eq,eq_self,Nat.reduceEqDiff,Nat.reduceAdd,Nat.reduceMul,Nat.reduceSub,Nat.reduceLeDiff,Nat.reduceLT,Int.reduceEq,Int.reduceLT,Int.reduceLE,Int.reduceAdd,Int.reduceSub,Int.reduceMul,Int.reduceNeg,Int.reduceNe,reduceCtorEq,Int.reduceToNat,↓reduceIte]
  generalize hz : w.size / 2 = z at *
  have hin : ((0 ≤ (z : Int) - 1) ∧ ((z : Int) - 1) < (z : Int)) = True := by simp; omega
  have hd := atomsL_drop (s := w) (k := z) (i := z - 1) (by omega)
  have hnz : ((z : Int) - 1).toNat = z - 1 := by omega
  simp only [hin, hnz, hd, wk,if_true,if_false,forall_const,implies_true,ne_eq,eq_self,Nat.reduceEqDiff,Nat.reduceAdd,Nat.reduceMul,Nat.reduceSub,Nat.reduceLeDiff,Nat.reduceLT,Int.reduceEq,Int.reduceLT,Int.reduceLE,Int.reduceAdd,Int.reduceSub,Int.reduceMul,Int.reduceNeg,Int.reduceNe,reduceCtorEq,Int.reduceToNat,↓reduceIte]
  refine ⟨inR_of (by omega) (by omega), _, qt _, ?_⟩
  simp only [tb_len, tb_splice, wk,if_true,if_false,forall_const,implies_true,ne_eq,eq_self,Nat.reduceEqDiff,Nat.reduceAdd,Nat.reduceMul,Nat.reduceSub,Nat.reduceLeDiff,Nat.reduceLT,Int.reduceEq,Int.reduceLT,Int.reduceLE,Int.reduceAdd,Int.reduceSub,Int.reduceMul,Int.reduceNeg,Int.reduceNe,reduceCtorEq,Int.reduceToNat,↓reduceIte]
  refine ⟨inR_of (by omega) (by omega), ?_⟩
  refine W_loop (fun n fr h => ∃ (k : Nat) (ex : Hp), k + 1 ≤ z ∧ n = k ∧ fr = [(2, .ptr 0 0), (4, .ptr 1 0), (5, .lst .ro z (atomsL w z)), (6, .ptr 2 0), (7, .int .i64 ((k : Int) - 1))] ∧ h = some (false, [.int .i64 m.n, .lst .ro m.rows.length (rowsC m.rows)]) :: some (false, tb zB) :: some (false, tb (bitR (ofS m.rows w k (z - 1 - k)))) :: ex) (z - 1) ⟨z - 1, [], by omega, rfl, by rw [show ((z - 1 : Nat) : Int) - 1 = (z : Int) - 2 by omega]; rfl, by rw [Nat.sub_self]; rfl⟩ ?_
  rintro k fr h' ⟨k', ex, hk, rfl, rfl, rfl⟩
  simp only [J_ref14_Of_j9, tb_lit, tb_len, tb_splice, wk,if_true,if_false,forall_const,implies_true,ne_eq,eq_self,Nat.reduceEqDiff,Nat.reduceAdd,Nat.reduceMul,Nat.reduceSub,Nat.reduceLeDiff,Nat.reduceLT,Int.reduceEq,Int.reduceLT,Int.reduceLE,Int.reduceAdd,Int.reduceSub,Int.reduceMul,Int.reduceNeg,Int.reduceNe,reduceCtorEq,Int.reduceToNat,↓reduceIte]
  refine ⟨fun hge => ?_, fun hlt => ?_⟩
  · have hk1 : 1 ≤ k := by omega
    obtain ⟨q, rfl⟩ : ∃ q, k = q + 1 := ⟨k - 1, by omega⟩
    have hki : (((q + 1 : Nat) : Int) - 1) = (q : Int) := by omega
    have hin2 : ((0 ≤ (q : Int)) ∧ (q : Int) < (z : Int)) = True := by simp; omega
    have hd2 := atomsL_drop (s := w) (k := z) (i := q) (by omega)
    simp only [hki, hin2, Int.toNat_natCast, hd2, wk,if_true,if_false,forall_const,implies_true,ne_eq,eq_self,Nat.reduceEqDiff,Nat.reduceAdd,Nat.reduceMul,Nat.reduceSub,Nat.reduceLeDiff,Nat.reduceLT,Int.reduceEq,Int.reduceLT,Int.reduceLE,Int.reduceAdd,Int.reduceSub,Int.reduceMul,Int.reduceNeg,Int.reduceNe,reduceCtorEq,Int.reduceToNat,↓reduceIte]
    refine ⟨_, qt _, ?_⟩
    simp only [tb_len, tb_splice, hp_len1, hp_get1, hp_get2, hp_set2, hp_two, end_get, end_set, wk,if_true,if_false,forall_const,implies_true,ne_eq,eq_self,Nat.reduceEqDiff,Nat.reduceAdd,Nat.reduceMul,Nat.reduceSub,Nat.reduceLeDiff,Nat.reduceLT,Int.reduceEq,Int.reduceLT,Int.reduceLE,Int.reduceAdd,Int.reduceSub,Int.reduceMul,Int.reduceNeg,Int.reduceNe,reduceCtorEq,Int.reduceToNat,↓reduceIte]
    have hrest : ofS m.rows w q (z - 1 - q) = thenR (relA m.rows (atomAt w q)) (ofS m.rows w (q + 1) (z - 1 - (q + 1))) := by
      rw [show z - 1 - q = (z - 1 - (q + 1)) + 1 by omega]; rfl
    have hfin : tb (bitR (ofS m.rows w q (z - 1 - q))) = tb (fun i k => cpB (bitR (relA m.rows (atomAt w q))) (bitR (ofS m.rows w (q + 1) (z - 1 - (q + 1)))) i k 8) := by
      rw [hrest]
      exact tb_congr fun x hx y hy => (cpB_then (relA_length _ _) _ hx).symm
    generalize bitR (ofS m.rows w (q + 1) (z - 1 - (q + 1))) = fo at hfin ⊢
    generalize bitR (relA m.rows (atomAt w q)) = fa at hfin ⊢
    refine W_loop (fun n fr h => ∃ (x : Nat) (g : Nat → Nat → Bool), x ≤ 8 ∧ n = 8 - x ∧ (∀ i k, i < 8 ∧ k < 8 → g i k = cpB fa fo i k (if i < x then 8 else 0)) ∧ fr = [(2, .ptr 0 0), (4, .ptr 1 0), (5, .lst .ro z (atomsL w z)), (6, .ptr 2 0), (7, .int .i64 q), (8, .ptr (ex.length + 1 + 1 + 1) 0), (9, .ptr (ex.length + 1 + 1 + 1 + 1) 0), (10, .int .i64 x)] ∧ h = some (false, [.int .i64 m.n, .lst .ro m.rows.length (rowsC m.rows)]) :: some (false, tb zB) :: some (false, tb fo) :: (ex ++ [some (false, tb fa), some (false, tb g)])) 8 ⟨0, zB, by omega, by omega, fun i k _ => rfl, by rfl, by rfl⟩ ?_
    rintro n fr h' ⟨x, g, hx, rfl, hg, rfl, rfl⟩
    simp only [J_ref14_Of_j8, wk,if_true,if_false,forall_const,implies_true,ne_eq,eq_self,Nat.reduceEqDiff,Nat.reduceAdd,Nat.reduceMul,Nat.reduceSub,Nat.reduceLeDiff,Nat.reduceLT,Int.reduceEq,Int.reduceLT,Int.reduceLE,Int.reduceAdd,Int.reduceSub,Int.reduceMul,Int.reduceNeg,Int.reduceNe,reduceCtorEq,Int.reduceToNat,↓reduceIte]
    refine ⟨fun hlt => ?_, fun hge => ?_⟩
    · have hxl : x < 8 := by omega
      have hxn : ((0 ≤ (x : Int)) ∧ (x : Int) < ((8 : Nat) : Int)) = True := by simp; omega
      refine W_loop (fun n fr h => ∃ (y : Nat) (g : Nat → Nat → Bool), y ≤ 8 ∧ n = 8 - y ∧ (∀ i k, i < 8 ∧ k < 8 → g i k = cpB fa fo i k (if i < x then 8 else if i = x then y else 0)) ∧ fr = [(2, .ptr 0 0), (4, .ptr 1 0), (5, .lst .ro z (atomsL w z)), (6, .ptr 2 0), (7, .int .i64 q), (8, .ptr (ex.length + 1 + 1 + 1) 0), (9, .ptr (ex.length + 1 + 1 + 1 + 1) 0), (10, .int .i64 x), (11, .int .i64 y)] ∧ h = some (false, [.int .i64 m.n, .lst .ro m.rows.length (rowsC m.rows)]) :: some (false, tb zB) :: some (false, tb fo) :: (ex ++ [some (false, tb fa), some (false, tb g)])) 8 ⟨0, g, by omega, by omega, fun i k h => by rw [hg i k h]; simp, by rfl, by rfl⟩ ?_
      rintro n fr h' ⟨y, g, hy, rfl, hg, rfl, rfl⟩
      simp only [J_ref14_Of_j7, wk,if_true,if_false,forall_const,implies_true,ne_eq,eq_self,Nat.reduceEqDiff,Nat.reduceAdd,Nat.reduceMul,Nat.reduceSub,Nat.reduceLeDiff,Nat.reduceLT,Int.reduceEq,Int.reduceLT,Int.reduceLE,Int.reduceAdd,Int.reduceSub,Int.reduceMul,Int.reduceNeg,Int.reduceNe,reduceCtorEq,Int.reduceToNat,↓reduceIte]
      refine ⟨fun hlt => ?_, fun hge => ?_⟩
      · have hyl : y < 8 := by omega
        have hyn : ((0 ≤ (y : Int)) ∧ (y : Int) < ((8 : Nat) : Int)) = True := by simp; omega
        refine W_loop (fun n fr h => ∃ (c : Nat) (g : Nat → Nat → Bool), c ≤ 8 ∧ n = 8 - c ∧ (∀ i k, i < 8 ∧ k < 8 → g i k = cpB fa fo i k (if i < x then 8 else if i = x then (if k < c then y + 1 else y) else 0)) ∧ fr = [(2, .ptr 0 0), (4, .ptr 1 0), (5, .lst .ro z (atomsL w z)), (6, .ptr 2 0), (7, .int .i64 q), (8, .ptr (ex.length + 1 + 1 + 1) 0), (9, .ptr (ex.length + 1 + 1 + 1 + 1) 0), (10, .int .i64 x), (11, .int .i64 y), (12, .int .i64 c)] ∧ h = some (false, [.int .i64 m.n, .lst .ro m.rows.length (rowsC m.rows)]) :: some (false, tb zB) :: some (false, tb fo) :: (ex ++ [some (false, tb fa), some (false, tb g)])) 8 ⟨0, g, by omega, by omega, fun i k h => by rw [hg i k h]; simp, by rfl, by rfl⟩ ?_
        rintro n fr h' ⟨c, g, hc, rfl, hg, rfl, rfl⟩
        simp only [J_ref14_Of_j6, wk,if_true,if_false,forall_const,implies_true,ne_eq,eq_self,Nat.reduceEqDiff,Nat.reduceAdd,Nat.reduceMul,Nat.reduceSub,Nat.reduceLeDiff,Nat.reduceLT,Int.reduceEq,Int.reduceLT,Int.reduceLE,Int.reduceAdd,Int.reduceSub,Int.reduceMul,Int.reduceNeg,Int.reduceNe,reduceCtorEq,Int.reduceToNat,↓reduceIte]
        refine ⟨fun hlt => ?_, fun hge => ?_⟩
        · have hcl : c < 8 := by omega
          have hcn : ((0 ≤ (c : Int)) ∧ (c : Int) < ((8 : Nat) : Int)) = True := by simp; omega
          have hle : x * 8 + c + 1 ≤ 64 := by omega
          have hd1 := tb_drop g hxl hcl
          have hd2 := tb_drop fa hxl hyl
          have hd3 := tb_drop fo hyl hcl
          have hg0 := hg x c ⟨hxl, hcl⟩
          rw [if_neg (by omega), if_pos rfl, if_neg (by omega)] at hg0
          have hnew : ∀ b, b = (g x c || (fa x y && fo y c)) → ∀ i k, i < 8 ∧ k < 8 → upd g x c b i k = cpB fa fo i k (if i < x then 8 else if i = x then (if k < c + 1 then y + 1 else y) else 0) := fun b hb => upd_at (Q := fun i k => i < 8 ∧ k < 8) fun i k hik => ⟨by
            rintro ⟨rfl, rfl⟩
            rw [if_neg (by omega), if_pos rfl, if_pos (by omega), hb, hg0]; rfl, fun hne => by
            rw [hg i k hik]
            by_cases h1 : i = x
            · have : ¬ k = c := fun e => hne ⟨h1, e⟩
              have : (k < c + 1) = (k < c) := by rw [eq_iff_iff]; omega
              simp only [this]
            · simp only [h1, if_false]⟩
          cases h1 : g x c <;> cases h2 : fa x y <;> cases h3 : fo y c <;> rw [h1] at hd1 <;> rw [h2] at hd2 <;> rw [h3] at hd3
          all_goals
            simp only [idpF, hxn, hyn, hcn, Int.toNat_natCast, hd1, hd2, hd3, hp_get1, hp_get2, hp_set2, tb_len, wk,if_true,if_false,forall_const,implies_true,ne_eq,eq_self,Nat.reduceEqDiff,Nat.reduceAdd,Nat.reduceMul,Nat.reduceSub,Nat.reduceLeDiff,Nat.reduceLT,Int.reduceEq,Int.reduceLT,Int.reduceLE,Int.reduceAdd,Int.reduceSub,Int.reduceMul,Int.reduceNeg,Int.reduceNe,reduceCtorEq,Int.reduceToNat,↓reduceIte]
            exact ⟨by omega, inR_of (by omega) (by omega), 8 - (c + 1), by omega, c + 1, _, by omega, rfl, hnew _ (by simp only [h1, h2, h3]; rfl), by simp, by rw [tb_set g hxl hcl] <;> rfl⟩
        · obtain rfl : c = 8 := by omega
          simp only [J_ref14_Of_j5, wk,if_true,if_false,forall_const,implies_true,ne_eq,eq_self,Nat.reduceEqDiff,Nat.reduceAdd,Nat.reduceMul,Nat.reduceSub,Nat.reduceLeDiff,Nat.reduceLT,Int.reduceEq,Int.reduceLT,Int.reduceLE,Int.reduceAdd,Int.reduceSub,Int.reduceMul,Int.reduceNeg,Int.reduceNe,reduceCtorEq,Int.reduceToNat,↓reduceIte]
          refine ⟨inR_of (by omega) (by omega), 8 - (y + 1), by omega, y + 1, g, by omega, rfl, fun i k hik => ?_, by simp, rfl⟩
          rw [hg i k hik, if_pos hik.2]
      · obtain rfl : y = 8 := by omega
        simp only [J_ref14_Of_j4, wk,if_true,if_false,forall_const,implies_true,ne_eq,eq_self,Nat.reduceEqDiff,Nat.reduceAdd,Nat.reduceMul,Nat.reduceSub,Nat.reduceLeDiff,Nat.reduceLT,Int.reduceEq,Int.reduceLT,Int.reduceLE,Int.reduceAdd,Int.reduceSub,Int.reduceMul,Int.reduceNeg,Int.reduceNe,reduceCtorEq,Int.reduceToNat,↓reduceIte]
        refine ⟨inR_of (by omega) (by omega), 8 - (x + 1), by omega, x + 1, g, by omega, rfl, fun i k hik => ?_, by simp, rfl⟩
        rw [hg i k hik]
        congr 1
        split
        · rw [if_pos (by omega)]
        · split
          · rw [if_pos (by omega)]
          · rw [if_neg (by omega)]
    · obtain rfl : x = 8 := by omega
      have hgf : tb g = tb (bitR (ofS m.rows w q (z - 1 - q))) := by
        rw [hfin]
        exact tb_congr fun i hi k hk => by rw [hg i k ⟨hi, hk⟩, if_pos hi]
      simp only [J_ref14_Of_j3, J_ref14_Of_j2, hp_get1, hp_get2, hp_set2, tb_len, tb_take, tb_deg, tb_splice, wk,if_true,if_false,forall_const,implies_true,ne_eq,eq_self,Nat.reduceEqDiff,Nat.reduceAdd,Nat.reduceMul,Nat.reduceSub,Nat.reduceLeDiff,Nat.reduceLT,Int.reduceEq,Int.reduceLT,Int.reduceLE,Int.reduceAdd,Int.reduceSub,Int.reduceMul,Int.reduceNeg,Int.reduceNe,reduceCtorEq,Int.reduceToNat,↓reduceIte]
      refine ⟨inR_of (by omega) (by omega), q, by omega, q, _, by omega, rfl, rfl, by rw [hgf]⟩
  · have hk0 : k = 0 := by omega
    subst hk0
    have he : bitR (ofS m.rows w 0 (z - 1 - 0)) = bitR (wordR m.rows w) := by rw [← hz]; rw [← ofS_word]; rfl
    rw [he]
    simp only [J_ref14_Of_j1, tb_len, tb_take, tb_deg, tb_splice, rbV, wk,if_true,if_false,forall_const,implies_true,ne_eq,eq_self,Nat.reduceEqDiff,Nat.reduceAdd,Nat.reduceMul,Nat.reduceSub,Nat.reduceLeDiff,Nat.reduceLT,Int.reduceEq,Int.reduceLT,Int.reduceLE,Int.reduceAdd,Int.reduceSub,Int.reduceMul,Int.reduceNeg,Int.reduceNe,reduceCtorEq,Int.reduceToNat,↓reduceIte]
    simp only [val, ev, lk, tb_len, tb_take, tb_deg, wk,if_true,if_false,forall_const,implies_true,ne_eq,eq_self,Nat.reduceEqDiff,Nat.reduceAdd,Nat.reduceMul,Nat.reduceSub,Nat.reduceLeDiff,Nat.reduceLT,Int.reduceEq,Int.reduceLT,Int.reduceLE,Int.reduceAdd,Int.reduceSub,Int.reduceMul,Int.reduceNeg,Int.reduceNe,reduceCtorEq,Int.reduceToNat,↓reduceIte]
end Go.Proofs.Ytlfnepcglnjogaa

/- The document's relation of a set, its bytes, the law's own copy of a model, over the abstract code. -/
-- fast
namespace Go.Proofs.Ytlfnepcglnjogaa
set_option linter.unusedSimpArgs false
set_option linter.unusedVariables false
open Go.RowKit Go.Lib

theorem setN_take {l : List Row} {s : List ByteArray} {i : Nat} (h : i < s.length) : setN l (s.take (i + 1)) = orR (setN l (s.take i)) (wordR l s[i]) := by
  unfold setN
  rw [List.take_succ_eq_append_getElem h, List.foldl_append]; rfl
theorem zB_eq (l : List Row) : tb zB = tb (bitR (setN l [])) := tb_congr fun x hx y hy => by
  have : setN l [] = List.replicate 8 0 := rfl
  simp only [zB, bitR, this, List.getD_eq_getElem?_getD, List.getElem?_replicate, hx, if_true, Option.getD_some, bt_zero]
set_option maxRecDepth 100000 in
set_option maxHeartbeats 16000000 in
theorem p_all14 (m : Mdl) (s : List ByteArray) (hmm : mdMay m = true) (hl : m.rows.length ≤ 1000) (hn : s.length ≤ 1000) (hw : ∀ w ∈ s, wordMay w = true ∧ w.size ≤ 1000) : PCalls Try.prog 34 [mdV m, .lst .ro s.length (s.map .str)] (rbV (setN m.rows s)) := by
  have qo : ∀ w ∈ s, PCalls Try.prog 30 [.agg [.int .i64 m.n, .lst .ro m.rows.length (rowsC m.rows)], .str w] (.agg (tb (bitR (wordR m.rows w)))) := fun w h => p_of14 m w hmm hl (hw w h).1 (hw w h).2
  refine pcalls_of (by simp [free.frees, free, free_mdV, frees_strs]) (free_rbV _) (acalls_of mixed J_ref14_All_ok (Nat.le_of_ble_eq_true rfl) ?_); simp only [J_ref14_All, mdV, tb_lit, tb_len, tb_splice, wk,if_true,if_false,forall_const,implies_true,ne_eq,eq_self,Nat.reduceEqDiff,Nat.reduceAdd,Nat.reduceMul,Nat.reduceSub,Nat.reduceLeDiff,Nat.reduceLT,Int.reduceEq,Int.reduceLT,Int.reduceLE,Int.reduceAdd,Int.reduceSub,Int.reduceMul,Int.reduceNeg,Int.reduceNe,reduceCtorEq,Int.reduceToNat,↓reduceIte]
  refine W_loop (fun n fr h => ∃ (i : Nat) (ex : Hp), i ≤ s.length ∧ n = s.length - i ∧ fr = [(1, .lst .ro s.length (s.map .str)), (2, .ptr 0 0), (4, .ptr 1 0), (5, .ptr 2 0), (6, .int .i64 i)] ∧ h = some (false, [.int .i64 m.n, .lst .ro m.rows.length (rowsC m.rows)]) :: some (false, tb zB) :: some (false, tb (bitR (setN m.rows (s.take i)))) :: ex) s.length ⟨0, [], by omega, by omega, by rfl, by rw [List.take_zero, ← zB_eq]⟩ ?_
  rintro n fr h' ⟨i, ex, hi, rfl, rfl, rfl⟩
  simp only [J_ref14_All_j6, tb_lit, tb_len, tb_splice, wk,if_true,if_false,forall_const,implies_true,ne_eq,eq_self,Nat.reduceEqDiff,Nat.reduceAdd,Nat.reduceMul,Nat.reduceSub,Nat.reduceLeDiff,Nat.reduceLT,Int.reduceEq,Int.reduceLT,Int.reduceLE,Int.reduceAdd,Int.reduceSub,Int.reduceMul,Int.reduceNeg,Int.reduceNe,reduceCtorEq,Int.reduceToNat,↓reduceIte]
  refine ⟨fun hlt => ?_, fun hge => ?_⟩
  · have hil : i < s.length := by omega
    have hin : ((0 ≤ (i : Int)) ∧ (i : Int) < (s.length : Int)) = True := by simp; omega
    have hd : (s.map AV.str).drop i = .str s[i] :: (s.map AV.str).drop (i + 1) := by
      rw [List.drop_eq_getElem_cons (by simpa using hil)]; simp
    simp only [hin, Int.toNat_natCast, hd, wk,if_true,if_false,forall_const,implies_true,ne_eq,eq_self,Nat.reduceEqDiff,Nat.reduceAdd,Nat.reduceMul,Nat.reduceSub,Nat.reduceLeDiff,Nat.reduceLT,Int.reduceEq,Int.reduceLT,Int.reduceLE,Int.reduceAdd,Int.reduceSub,Int.reduceMul,Int.reduceNeg,Int.reduceNe,reduceCtorEq,Int.reduceToNat,↓reduceIte]
    refine ⟨_, qo _ (List.getElem_mem hil), ?_⟩
    simp only [tb_len, tb_splice, hp_len1, hp_get1, hp_get2, hp_set2, hp_two, end_get, end_set, wk,if_true,if_false,forall_const,implies_true,ne_eq,eq_self,Nat.reduceEqDiff,Nat.reduceAdd,Nat.reduceMul,Nat.reduceSub,Nat.reduceLeDiff,Nat.reduceLT,Int.reduceEq,Int.reduceLT,Int.reduceLE,Int.reduceAdd,Int.reduceSub,Int.reduceMul,Int.reduceNeg,Int.reduceNe,reduceCtorEq,Int.reduceToNat,↓reduceIte]
    have hfin : tb (bitR (setN m.rows (s.take (i + 1)))) = tb (fun x y => bitR (setN m.rows (s.take i)) x y || bitR (wordR m.rows s[i]) x y) := by
      rw [setN_take hil]
      exact tb_congr fun x hx y hy => bit_orR (setN_length _ _) (wordR_length _ _) hx y
    generalize bitR (setN m.rows (s.take i)) = f at hfin ⊢
    generalize bitR (wordR m.rows s[i]) = r at hfin ⊢
    refine W_loop (fun n fr h => ∃ (x : Nat) (g : Nat → Nat → Bool), x ≤ 8 ∧ n = 8 - x ∧ (∀ i k, i < 8 ∧ k < 8 → g i k = if i < x then f i k || r i k else f i k) ∧ fr = [(1, .lst .ro s.length (s.map .str)), (2, .ptr 0 0), (4, .ptr 1 0), (5, .ptr 2 0), (6, .int .i64 i), (7, .ptr (ex.length + 1 + 1 + 1) 0), (8, .int .i64 x)] ∧ h = some (false, [.int .i64 m.n, .lst .ro m.rows.length (rowsC m.rows)]) :: some (false, tb zB) :: some (false, tb g) :: (ex ++ [some (false, tb r)])) 8 ⟨0, f, by omega, by omega, fun i k _ => rfl, by rfl, by rfl⟩ ?_
    rintro n fr h' ⟨x, g, hx, rfl, hg, rfl, rfl⟩
    simp only [J_ref14_All_j5, wk,if_true,if_false,forall_const,implies_true,ne_eq,eq_self,Nat.reduceEqDiff,Nat.reduceAdd,Nat.reduceMul,Nat.reduceSub,Nat.reduceLeDiff,Nat.reduceLT,Int.reduceEq,Int.reduceLT,Int.reduceLE,Int.reduceAdd,Int.reduceSub,Int.reduceMul,Int.reduceNeg,Int.reduceNe,reduceCtorEq,Int.reduceToNat,↓reduceIte]
    refine ⟨fun hlt => ?_, fun hge => ?_⟩
    · have hxl : x < 8 := by omega
      have hxn : ((0 ≤ (x : Int)) ∧ (x : Int) < ((8 : Nat) : Int)) = True := by simp; omega
      refine W_loop (fun n fr h => ∃ (y : Nat) (g : Nat → Nat → Bool), y ≤ 8 ∧ n = 8 - y ∧ (∀ i k, i < 8 ∧ k < 8 → g i k = if i < x ∨ (i = x ∧ k < y) then f i k || r i k else f i k) ∧ fr = [(1, .lst .ro s.length (s.map .str)), (2, .ptr 0 0), (4, .ptr 1 0), (5, .ptr 2 0), (6, .int .i64 i), (7, .ptr (ex.length + 1 + 1 + 1) 0), (8, .int .i64 x), (9, .int .i64 y)] ∧ h = some (false, [.int .i64 m.n, .lst .ro m.rows.length (rowsC m.rows)]) :: some (false, tb zB) :: some (false, tb g) :: (ex ++ [some (false, tb r)])) 8 ⟨0, g, by omega, by omega, fun i k h => by rw [hg i k h]; simp, by rfl, by rfl⟩ ?_
      rintro n fr h' ⟨y, g, hy, rfl, hg, rfl, rfl⟩
      simp only [J_ref14_All_j4, wk,if_true,if_false,forall_const,implies_true,ne_eq,eq_self,Nat.reduceEqDiff,Nat.reduceAdd,Nat.reduceMul,Nat.reduceSub,Nat.reduceLeDiff,Nat.reduceLT,Int.reduceEq,Int.reduceLT,Int.reduceLE,Int.reduceAdd,Int.reduceSub,Int.reduceMul,Int.reduceNeg,Int.reduceNe,reduceCtorEq,Int.reduceToNat,↓reduceIte]
      refine ⟨fun hlt => ?_, fun hge => ?_⟩
      · have hyl : y < 8 := by omega
        have hyn : ((0 ≤ (y : Int)) ∧ (y : Int) < ((8 : Nat) : Int)) = True := by simp; omega
        have hle : x * 8 + y + 1 ≤ 64 := by omega
        have hd1 := tb_drop g hxl hyl
        have hd2 := tb_drop r hxl hyl
        have hg0 := hg x y ⟨hxl, hyl⟩
        rw [if_neg (by omega)] at hg0
        have hnew : ∀ b, b = (g x y || r x y) → ∀ i k, i < 8 ∧ k < 8 → upd g x y b i k = if i < x ∨ (i = x ∧ k < y + 1) then f i k || r i k else f i k := fun b hb => upd_at (Q := fun i k => i < 8 ∧ k < 8) fun i k hik => ⟨by
          rintro ⟨rfl, rfl⟩
          rw [if_pos (.inr ⟨rfl, by omega⟩), hb, hg0], fun hne => by
          rw [hg i k hik]
          by_cases h1 : i < x ∨ (i = x ∧ k < y)
          · rw [if_pos h1, if_pos (by omega)]
          · rw [if_neg h1, if_neg (by omega)]⟩
        cases h1 : g x y <;> cases h2 : r x y <;> rw [h1] at hd1 <;> rw [h2] at hd2
        all_goals
          simp only [idpF, hxn, hyn, Int.toNat_natCast, hd1, hd2, hp_get1, end_get, tb_len, wk,if_true,if_false,forall_const,implies_true,ne_eq,eq_self,Nat.reduceEqDiff,Nat.reduceAdd,Nat.reduceMul,Nat.reduceSub,Nat.reduceLeDiff,Nat.reduceLT,Int.reduceEq,Int.reduceLT,Int.reduceLE,Int.reduceAdd,Int.reduceSub,Int.reduceMul,Int.reduceNeg,Int.reduceNe,reduceCtorEq,Int.reduceToNat,↓reduceIte]
          exact ⟨by omega, inR_of (by omega) (by omega), 8 - (y + 1), by omega, y + 1, _, by omega, rfl, hnew _ (by simp only [h1, h2]; rfl), by simp, by rw [tb_set g hxl hyl] <;> rfl⟩
      · obtain rfl : y = 8 := by omega
        simp only [J_ref14_All_j3, wk,if_true,if_false,forall_const,implies_true,ne_eq,eq_self,Nat.reduceEqDiff,Nat.reduceAdd,Nat.reduceMul,Nat.reduceSub,Nat.reduceLeDiff,Nat.reduceLT,Int.reduceEq,Int.reduceLT,Int.reduceLE,Int.reduceAdd,Int.reduceSub,Int.reduceMul,Int.reduceNeg,Int.reduceNe,reduceCtorEq,Int.reduceToNat,↓reduceIte]
        refine ⟨inR_of (by omega) (by omega), 8 - (x + 1), by omega, x + 1, g, by omega, rfl, fun i k hik => ?_, by simp, rfl⟩
        rw [hg i k hik]
        by_cases h1 : i < x ∨ (i = x ∧ k < 8)
        · rw [if_pos h1, if_pos (by omega)]
        · rw [if_neg h1, if_neg (by omega)]
    · obtain rfl : x = 8 := by omega
      have hgf : tb g = tb (bitR (setN m.rows (s.take (i + 1)))) := by
        rw [hfin]
        exact tb_congr fun i hi k hk => by rw [hg i k ⟨hi, hk⟩, if_pos hi]
      simp only [J_ref14_All_j2, wk,if_true,if_false,forall_const,implies_true,ne_eq,eq_self,Nat.reduceEqDiff,Nat.reduceAdd,Nat.reduceMul,Nat.reduceSub,Nat.reduceLeDiff,Nat.reduceLT,Int.reduceEq,Int.reduceLT,Int.reduceLE,Int.reduceAdd,Int.reduceSub,Int.reduceMul,Int.reduceNeg,Int.reduceNe,reduceCtorEq,Int.reduceToNat,↓reduceIte]
      exact ⟨inR_of (by omega) (by omega), s.length - (i + 1), by omega, i + 1, _, by omega, rfl, by simp, by rw [hgf]⟩
  · obtain rfl : i = s.length := by omega
    rw [List.take_of_length_le (Nat.le_refl _)]
    simp only [J_ref14_All_j1, tb_len, tb_take, tb_deg, tb_splice, rbV, wk,if_true,if_false,forall_const,implies_true,ne_eq,eq_self,Nat.reduceEqDiff,Nat.reduceAdd,Nat.reduceMul,Nat.reduceSub,Nat.reduceLeDiff,Nat.reduceLT,Int.reduceEq,Int.reduceLT,Int.reduceLE,Int.reduceAdd,Int.reduceSub,Int.reduceMul,Int.reduceNeg,Int.reduceNe,reduceCtorEq,Int.reduceToNat,↓reduceIte]
    simp only [val, ev, lk, tb_len, tb_take, tb_deg, wk,if_true,if_false,forall_const,implies_true,ne_eq,eq_self,Nat.reduceEqDiff,Nat.reduceAdd,Nat.reduceMul,Nat.reduceSub,Nat.reduceLeDiff,Nat.reduceLT,Int.reduceEq,Int.reduceLT,Int.reduceLE,Int.reduceAdd,Int.reduceSub,Int.reduceMul,Int.reduceNeg,Int.reduceNe,reduceCtorEq,Int.reduceToNat,↓reduceIte]
theorem bt_nat (b : UInt8) (j : Nat) : b.toNat / 2 ^ j % 2 = if bt b j then 1 else 0 := by
  rw [← bt_test, Nat.testBit_eq_decide_div_mod_eq]
  have : b.toNat / 2 ^ j % 2 < 2 := Nat.mod_lt _ (by omega)
  split
  · next h => simpa using h
  · next h => simp at h; omega
set_option maxRecDepth 100000 in
set_option maxHeartbeats 16000000 in
theorem p_bytes14 (r : Rl) (n : Nat) (hr : r.length = 8) (hn : n ≤ 8) : PCalls Try.prog 29 [rbV r, .int .i64 n] (.lst .ro n (rlC (r.take n))) := by
  refine pcalls_of (by simp [free.frees, free, free_rbV]) (by simp [free, frees_rlC]) (acalls_of mixed J_ref14_bytes_ok (Nat.le_of_ble_eq_true rfl) ?_); simp only [J_ref14_bytes, rbV, tb_len, wk,if_true,if_false,forall_const,implies_true,ne_eq,eq_self,Nat.reduceEqDiff,Nat.reduceAdd,Nat.reduceMul,Nat.reduceSub,Nat.reduceLeDiff,Nat.reduceLT,Int.reduceEq,Int.reduceLT,Int.reduceLE,Int.reduceAdd,Int.reduceSub,Int.reduceMul,Int.reduceNeg,Int.reduceNe,reduceCtorEq,Int.reduceToNat,↓reduceIte]
  refine W_loop (fun q fr h => ∃ x : Nat, x ≤ n ∧ q = n - x ∧ fr = [(1, .int .i64 n), (2, .ptr 0 0), (5, .lst (.own 5) x (rlC (r.take x))), (6, .int .i64 x)] ∧ h = [some (false, tb (bitR r))]) n ⟨0, by omega, by omega, rfl, rfl⟩ ?_
  rintro q fr h' ⟨x, hx, rfl, rfl, rfl⟩
  simp only [J_ref14_bytes_j6, wk,if_true,if_false,forall_const,implies_true,ne_eq,eq_self,Nat.reduceEqDiff,Nat.reduceAdd,Nat.reduceMul,Nat.reduceSub,Nat.reduceLeDiff,Nat.reduceLT,Int.reduceEq,Int.reduceLT,Int.reduceLE,Int.reduceAdd,Int.reduceSub,Int.reduceMul,Int.reduceNeg,Int.reduceNe,reduceCtorEq,Int.reduceToNat,↓reduceIte]
  refine ⟨fun hlt => ?_, fun hge => ?_⟩
  · have hxl : x < 8 := by omega
    have hxn : ((0 ≤ (x : Int)) ∧ (x : Int) < ((8 : Nat) : Int)) = True := by simp; omega
    have hb8 := (r[x]'(by omega)).toNat_lt
    have hrx : ∀ y, bitR r x y = bt (r[x]'(by omega)) y := fun y => by
      simp only [bitR, List.getD_eq_getElem?_getD, List.getElem?_eq_getElem (by omega : x < r.length), Option.getD_some]
    refine W_loop (fun q fr h => ∃ k b : Nat, k ≤ 8 ∧ q = k ∧ b = (r[x]'(by omega)).toNat / 2 ^ k ∧ fr = [(1, .int .i64 n), (2, .ptr 0 0), (5, .lst (.own 5) x (rlC (r.take x))), (6, .int .i64 x), (7, .int .i64 b), (8, .int .i64 ((k : Int) - 1))] ∧ h = [some (false, tb (bitR r))]) 8 ⟨8, 0, by omega, rfl, by rw [Nat.div_eq_of_lt (by omega)], by rfl, by rfl⟩ ?_
    rintro k fr h' ⟨k', b, hk, rfl, hb, rfl, rfl⟩
    simp only [J_ref14_bytes_j5, wk,if_true,if_false,forall_const,implies_true,ne_eq,eq_self,Nat.reduceEqDiff,Nat.reduceAdd,Nat.reduceMul,Nat.reduceSub,Nat.reduceLeDiff,Nat.reduceLT,Int.reduceEq,Int.reduceLT,Int.reduceLE,Int.reduceAdd,Int.reduceSub,Int.reduceMul,Int.reduceNeg,Int.reduceNe,reduceCtorEq,Int.reduceToNat,↓reduceIte]
    refine ⟨fun hge => ?_, fun hlt => ?_⟩
    · obtain ⟨y, rfl⟩ : ∃ q, k = q + 1 := ⟨k - 1, by omega⟩
      have hyl : y < 8 := by omega
      have hyi : (((y + 1 : Nat) : Int) - 1) = (y : Int) := by omega
      have hyn : ((0 ≤ (y : Int)) ∧ (y : Int) < ((8 : Nat) : Int)) = True := by simp; omega
      have hd := tb_drop (bitR r) hxl hyl
      rw [hrx] at hd
      have hbb : b ≤ 255 := by rw [hb]; exact Nat.le_trans (Nat.div_le_self _ _) (by omega)
      have hstep : (r[x]'(by omega)).toNat / 2 ^ y = b * 2 + (if bt (r[x]'(by omega)) y then 1 else 0) := by
        rw [hb, ← bt_nat, Nat.pow_succ, ← Nat.div_div_eq_div_mul]; omega
      cases h1 : bt (r[x]'(by omega)) y <;> rw [h1] at hd hstep
      all_goals
        simp only [idpF, hxn, hyn, hyi, Int.toNat_natCast, hd, J_ref14_bytes_j4, wk,if_true,if_false,forall_const,implies_true,ne_eq,eq_self,Nat.reduceEqDiff,Nat.reduceAdd,Nat.reduceMul,Nat.reduceSub,Nat.reduceLeDiff,Nat.reduceLT,Int.reduceEq,Int.reduceLT,Int.reduceLE,Int.reduceAdd,Int.reduceSub,Int.reduceMul,Int.reduceNeg,Int.reduceNe,reduceCtorEq,Int.reduceToNat,↓reduceIte]
      · exact ⟨inR_of (by omega) (by omega), inR_of (by omega) (by omega), y, by omega, y, b * 2, by omega, rfl, by rw [hstep]; rfl, by simp⟩
      · exact ⟨inR_of (by omega) (by omega), inR_of (by omega) (by omega), inR_of (by omega) (by omega), y, by omega, y, b * 2 + 1, by omega, rfl, by rw [hstep]; rfl, by simp⟩
    · obtain rfl : k = 0 := by omega
      have hb0 : b = (r[x]'(by omega)).toNat := by rw [hb]; simp
      have hwr : IntKind.u8.wrap (b : Int) = (b : Int) := by
        rw [hb0]
        have := wrap8 (r[x]'(by omega)).toBitVec
        simpa using this
      simp only [J_ref14_bytes_j3, J_ref14_bytes_j2, hwr, wk,if_true,if_false,forall_const,implies_true,ne_eq,eq_self,Nat.reduceEqDiff,Nat.reduceAdd,Nat.reduceMul,Nat.reduceSub,Nat.reduceLeDiff,Nat.reduceLT,Int.reduceEq,Int.reduceLT,Int.reduceLE,Int.reduceAdd,Int.reduceSub,Int.reduceMul,Int.reduceNeg,Int.reduceNe,reduceCtorEq,Int.reduceToNat,↓reduceIte]
      refine ⟨⟨by omega, by omega⟩, inR_of (by omega) (by omega), n - (x + 1), by omega, x + 1, by omega, rfl, ?_⟩
      have e : rlC (r.take (x + 1)) = rlC (r.take x) ++ [.int .u8 b] := by
        rw [List.take_succ_eq_append_getElem (by omega : x < r.length), hb0]
        simp only [rlC, List.map_append, List.map_cons, List.map_nil, u8]
      rw [e]
      simp
  · obtain rfl : x = n := by omega
    simp only [J_ref14_bytes_j1, wk,if_true,if_false,forall_const,implies_true,ne_eq,eq_self,Nat.reduceEqDiff,Nat.reduceAdd,Nat.reduceMul,Nat.reduceSub,Nat.reduceLeDiff,Nat.reduceLT,Int.reduceEq,Int.reduceLT,Int.reduceLE,Int.reduceAdd,Int.reduceSub,Int.reduceMul,Int.reduceNeg,Int.reduceNe,reduceCtorEq,Int.reduceToNat,↓reduceIte]
end Go.Proofs.Ytlfnepcglnjogaa

/- The abstract layer: objects that nobody asks for any more are forgotten; objects that are handed out are only read from then on. -/
namespace Go.Proofs.Ytlfnepcglnjogaa
set_option linter.unusedSimpArgs false
set_option linter.unusedVariables false
open Go.RowKit Go.Lib

def low (n : Nat) : AV → Bool
  | .ptr i _ => decide (i < n)
  | .hs i _ => decide (i < n)
  | .hsc i _ _ => decide (i < n)
  | .fp l | .lst _ _ l | .agg l | .tup l | .fn _ l | .fnb _ l => lows l
  | _ => true
where lows : List AV → Bool
  | [] => true
  | a :: l => low n a && lows l
def Gh.cut (g : Gh) (n : Nat) : Gh := { g with io := fun i => if i < n then g.io i else none }
theorem io_cut {g : Gh} {n i b : Nat} (h : g.io i = some b) (hi : i < n) : (g.cut n).io i = some b := by
  simp only [Gh.cut, if_pos hi]; exact h
mutual
theorem Rep.cut {g : Gh} (n : Nat) : ∀ {v : Value} {a : AV}, Rep g v a → low n a = true → Rep (g.cut n) v a
  | _, _, .bool b, _ => .bool b
  | _, _, .int k m, _ => .int k m
  | _, _, .str s, _ => .str s
  | _, _, .nilp, _ => .nilp
  | _, _, .ptr id off b h, hl => .ptr id off b (io_cut h (by simpa [low] using hl))
  | _, _, .fp b off vs l h hp hr, hl => .fp b off vs l h hp (RepL.cut n hr (by simpa [low] using hl))
  | _, _, .lst b off m c f vs l h hp h1 h2 hr, hl => .lst b off m c f vs l h hp h1 h2 (RepL.cut n hr (by simpa [low] using hl))
  | _, _, .lst0 a c f h, _ => .lst0 a c f h
  | _, _, .hs id b m c h h1, hl => .hs id b m c (io_cut h (by simpa [low] using hl)) h1
  | _, _, .hsc id b m c h h1, hl => .hsc id b m c (io_cut h (by simpa [low] using hl)) h1
  | _, _, .agg vs l h hp hr, hl => .agg vs l h hp (RepL.cut n hr (by simpa [low] using hl))
  | _, _, .tup vs l hp hr, hl => .tup vs l hp (RepL.cut n hr (by simpa [low] using hl))
  | _, _, .fn f vs l hp hr, hl => .fn f vs l hp (RepL.cut n hr (by simpa [low] using hl))
  | _, _, .fnb f vs l hp hr, hl => .fnb f vs l hp (RepL.cut n hr (by simpa [low] using hl))
  | _, _, .nilf, _ => .nilf
  | _, _, .opq v h h', _ => .opq v h h'
  | _, _, .itr b s p, _ => .itr b s p
  | _, _, .omp b ks vs, _ => .omp b ks vs
  | _, _, .mp b, _ => .mp b
  | _, _, .fmp b obj ks vs h1 h2, _ => .fmp b obj ks vs h1 h2
  | _, _, .stk a c e o l h1 h2 h3, _ => .stk a c e o l h1 h2 h3
  | _, _, .raw a m c h1 h2, _ => .raw a m c h1 h2
  | _, _, .rawp b i m c, _ => .rawp b i m c
  | _, _, .frn v Q S W0 h1 h2 h3 h4, _ => .frn v Q S W0 h1 h2 h3 h4
theorem RepL.cut {g : Gh} (n : Nat) : ∀ {vs : List Value} {l : List AV}, RepL g vs l → low.lows n l = true → RepL (g.cut n) vs l
  | _, _, .nil, _ => .nil
  | _, _, .cons h hr, hl => by
    simp only [low.lows, Bool.and_eq_true] at hl
    exact .cons (Rep.cut n h hl.1) (RepL.cut n hr hl.2)
end
mutual
theorem Rep.low {g : Gh} {n : Nat} (hd : ∀ i b, g.io i = some b → i < n) : ∀ {v : Value} {a : AV}, Rep g v a → low n a = true
  | _, _, .bool b => by simp [Go.Proofs.Ytlfnepcglnjogaa.low]
  | _, _, .int k m => by simp [Go.Proofs.Ytlfnepcglnjogaa.low]
  | _, _, .str s => by simp [Go.Proofs.Ytlfnepcglnjogaa.low]
  | _, _, .nilp => by simp [Go.Proofs.Ytlfnepcglnjogaa.low]
  | _, _, .ptr id off b h => by simpa [Go.Proofs.Ytlfnepcglnjogaa.low] using hd id b h
  | _, _, .fp b off vs l h hp hr => by simpa [Go.Proofs.Ytlfnepcglnjogaa.low] using RepL.low hd hr
  | _, _, .lst b off m c f vs l h hp h1 h2 hr => by simpa [Go.Proofs.Ytlfnepcglnjogaa.low] using RepL.low hd hr
  | _, _, .lst0 a c f h => by simp [Go.Proofs.Ytlfnepcglnjogaa.low, low.lows]
  | _, _, .hs id b m c h h1 => by simpa [Go.Proofs.Ytlfnepcglnjogaa.low] using hd id b h
  | _, _, .hsc id b m c h h1 => by simpa [Go.Proofs.Ytlfnepcglnjogaa.low] using hd id b h
  | _, _, .agg vs l h hp hr => by simpa [Go.Proofs.Ytlfnepcglnjogaa.low] using RepL.low hd hr
  | _, _, .tup vs l hp hr => by simpa [Go.Proofs.Ytlfnepcglnjogaa.low] using RepL.low hd hr
  | _, _, .fn f vs l hp hr => by simpa [Go.Proofs.Ytlfnepcglnjogaa.low] using RepL.low hd hr
  | _, _, .fnb f vs l hp hr => by simpa [Go.Proofs.Ytlfnepcglnjogaa.low] using RepL.low hd hr
  | _, _, .nilf => by simp [Go.Proofs.Ytlfnepcglnjogaa.low]
  | _, _, .opq v h h' => by simp [Go.Proofs.Ytlfnepcglnjogaa.low]
  | _, _, .itr b s p => by simp [Go.Proofs.Ytlfnepcglnjogaa.low]
  | _, _, .omp b ks vs => by simp [Go.Proofs.Ytlfnepcglnjogaa.low]
  | _, _, .mp b => by simp [Go.Proofs.Ytlfnepcglnjogaa.low]
  | _, _, .fmp b obj ks vs h1 h2 => by simp [Go.Proofs.Ytlfnepcglnjogaa.low]
  | _, _, .stk a c e o l h1 h2 h3 => by simp [Go.Proofs.Ytlfnepcglnjogaa.low]
  | _, _, .raw a m c h1 h2 => by simp [Go.Proofs.Ytlfnepcglnjogaa.low]
  | _, _, .rawp b i m c => by simp [Go.Proofs.Ytlfnepcglnjogaa.low]
  | _, _, .frn _ _ _ _ _ _ _ _ => by simp [Go.Proofs.Ytlfnepcglnjogaa.low]
theorem RepL.low {g : Gh} {n : Nat} (hd : ∀ i b, g.io i = some b → i < n) : ∀ {vs : List Value} {l : List AV}, RepL g vs l → low.lows n l = true
  | _, _, .nil => by simp [low.lows]
  | _, _, .cons h hr => by simp [low.lows, Rep.low hd h, RepL.low hd hr]
end
mutual
theorem low_free {n : Nat} : ∀ {a : AV}, free a = true → low n a = true
  | .bool _, _ => by simp [low]
  | .int _ _, _ => by simp [low]
  | .str _, _ => by simp [low]
  | .nilp, _ => by simp [low]
  | .nilf, _ => by simp [low]
  | .opq, _ => by simp [low]
  | .itr _ _, _ => by simp [low]
  | .omp _ _ _, _ => by simp [low]
  | .mp _, _ => by simp [low]
  | .fmp _ _, _ => by simp [low]
  | .stk _ _ _, _ => by simp [low]
  | .raw _ _, _ => by simp [low]
  | .rawp _ _, _ => by simp [low]
  | .frn _, _ => by simp [low]
  | .ptr _ _, h => by simp [free] at h
  | .hs _ _, h => by simp [free] at h
  | .hsc _ _ _, h => by simp [free] at h
  | .fp l, h => by simpa [low] using lows_free (l := l) (by simpa [free] using h)
  | .lst _ _ l, h => by simpa [low] using lows_free (l := l) (by simpa [free] using h)
  | .agg l, h => by simpa [low] using lows_free (l := l) (by simpa [free] using h)
  | .tup l, h => by simpa [low] using lows_free (l := l) (by simpa [free] using h)
  | .fn _ l, h => by simpa [low] using lows_free (l := l) (by simpa [free] using h)
  | .fnb _ l, h => by simpa [low] using lows_free (l := l) (by simpa [free] using h)
theorem lows_free {n : Nat} : ∀ {l : List AV}, free.frees l = true → low.lows n l = true
  | [], _ => by simp [low.lows]
  | a :: l, h => by
    simp only [free.frees, Bool.and_eq_true] at h
    simp [low.lows, low_free (n := n) h.1, lows_free (n := n) h.2]
end
mutual
def fz (h : Hp) : AV → AV
  | .hs id n => match h[id]? with
    | some (some (_, l)) => .lst .ro n (l.map deg)
    | _ => .hs id n
  | .hsc id n c => match h[id]? with
    | some (some (_, l)) => .lst .ro n (l.map deg)
    | _ => .hsc id n c
  | .agg l => .agg (fzs h l)
  | .tup l => .tup (fzs h l)
  | a => a
def fzs (h : Hp) : List AV → List AV
  | [] => []
  | a :: l => fz h a :: fzs h l
end
theorem plain_fz {h : Hp} (a : AV) (hp : plain a = true) : plain (fz h a) = true := by
  cases a with
  | hs id n =>
    simp only [fz]
    split <;> rfl
  | hsc id n c =>
    simp only [fz]
    split <;> rfl
  | lst f n l => simp only [fz]; exact hp
  | itr s p => simp [plain] at hp
  | omp b ks vs => simp [plain] at hp
  | stk e o l => simp [plain] at hp
  | _ => simp [fz, plain]
theorem plains_fz {h : Hp} : ∀ {l : List AV}, plains l → plains (fzs h l)
  | [], _ => by intro a ha; simp [fzs] at ha
  | a :: l, hp => by
    intro b hb
    simp only [fzs, List.mem_cons] at hb
    rcases hb with rfl | hb
    · exact plain_fz a (hp a (by simp))
    · exact plains_fz (fun x hx => hp x (by simp [hx])) b hb
open Classical in
noncomputable def Gh.ice (g : Gh) (h : Hp) (w : World) : Gh :=
  { g with io := fun _ => none, C := fun b o => match g.C b o with
    | some v => some v
    | none => if ∃ id s l, g.io id = some b ∧ h[id]? = some (some (s, l)) then (w.cell? ⟨b, o, none⟩).filter (fun v => v.oneCell') else none }
theorem ice_le {g : Gh} {h : Hp} {w : World} {b o : Nat} {v : Value} (hc : g.C b o = some v) : (g.ice h w).C b o = some v := by simp only [Gh.ice, hc]
theorem ice_obj {P : Program} {g : Gh} {h : Hp} {w : World} {id : Nat} {s : Bool} {l : List AV} (hs : Sim P g h w) (hl : h[id]? = some (some (s, l))) :
    ∃ b arr, g.io id = some b ∧ CellsAt (g.ice h w) b 0 arr ∧ RepL g arr l := by
  obtain ⟨b, arr, e, p1, p2, p3, p4, p5, p6, p7, p8, p9⟩ := hs.obj id s l hl
  refine ⟨b, arr.toList, p1, fun i v hv => ?_, p3⟩
  cases hC : g.C b (0 + i) with
  | some u =>
    have h1 := (hs.prot _ _ _ hC).1
    rw [Nat.zero_add, cell_of_row w b i arr e (0, 0) p2] at h1
    have : v = u := by
      rw [Array.getElem?_toList] at hv
      rw [hv] at h1
      simpa using h1
    subst this
    exact ice_le hC
  | none =>
    simp only [Gh.ice, hC]
    rw [if_pos ⟨id, s, l, p1, hl⟩]
    simp only [Option.filter_eq_some_iff]
    refine ⟨?_, p4 v (List.mem_of_getElem? hv)⟩
    rw [Nat.zero_add, cell_of_row w b i arr e (0, 0) p2]
    simpa using hv
mutual
theorem Rep.ice {P : Program} {g : Gh} {h : Hp} {w : World} (hs : Sim P g h w) : ∀ {v : Value} {a : AV}, Rep g v a → free (fz h a) = true → Rep (g.ice h w) v (fz h a)
  | _, _, .bool b, _ => by simp only [fz]; exact .bool b
  | _, _, .int k m, _ => by simp only [fz]; exact .int k m
  | _, _, .str s, _ => by simp only [fz]; exact .str s
  | _, _, .nilp, _ => by simp only [fz]; exact .nilp
  | _, _, .ptr id off b hb, hf => by simp [fz, free] at hf
  | _, _, .fp b off vs l hc hp hr, hf => by
    simp only [fz] at hf ⊢
    exact Rep.free (g := g) (fun _ _ _ hc => ice_le hc) (fun _ _ h => h) (.fp b off vs l hc hp hr) hf
  | _, _, .lst b off m c f vs l hc hp h1 h2 hr, hf => by
    simp only [fz] at hf ⊢
    exact Rep.free (g := g) (fun _ _ _ hc => ice_le hc) (fun _ _ h => h) (.lst b off m c f vs l hc hp h1 h2 hr) hf
  | _, _, .lst0 a c f hc, _ => by simp only [fz]; exact .lst0 a c f hc
  | _, _, .hs id b m c hb h1, hf => by
    simp only [fz] at hf ⊢
    split at hf
    · next s l hl =>
      obtain ⟨b', arr, q1, q2, q3⟩ := ice_obj hs hl
      obtain rfl : b = b' := by rw [hb] at q1; simpa using q1
      simp only [free] at hf
      refine .lst b 0 m c .ro arr _ q2 (fun a ha => ?_) h1 (fun e => by cases e) (RepL.free (g := g) (fun _ _ _ hc => ice_le hc) (fun _ _ h => h) q3.deg hf)
      obtain ⟨a', _, rfl⟩ := List.mem_map.1 ha
      exact plain_deg a'
    · simp [free] at hf
  | _, _, .hsc id b m c hb h1, hf => by
    simp only [fz] at hf ⊢
    split at hf
    · next s l hl =>
      obtain ⟨b', arr, q1, q2, q3⟩ := ice_obj hs hl
      obtain rfl : b = b' := by rw [hb] at q1; simpa using q1
      simp only [free] at hf
      refine .lst b 0 m c .ro arr _ q2 (fun a ha => ?_) h1 (fun e => by cases e) (RepL.free (g := g) (fun _ _ _ hc => ice_le hc) (fun _ _ h => h) q3.deg hf)
      obtain ⟨a', _, rfl⟩ := List.mem_map.1 ha
      exact plain_deg a'
    · simp [free] at hf
  | _, _, .agg vs l h1 hp hr, hf => by
    simp only [fz, free] at hf ⊢
    exact .agg vs _ h1 (plains_fz hp) (RepL.ice hs hr hf)
  | _, _, .tup vs l hp hr, hf => by
    simp only [fz, free] at hf ⊢
    exact .tup vs _ (plains_fz hp) (RepL.ice hs hr hf)
  | _, _, .fn f vs l hp hr, hf => by
    simp only [fz] at hf ⊢
    exact Rep.free (g := g) (fun _ _ _ hc => ice_le hc) (fun _ _ h => h) (.fn f vs l hp hr) hf
  | _, _, .fnb f vs l hp hr, hf => by
    simp only [fz] at hf ⊢
    exact Rep.free (g := g) (fun _ _ _ hc => ice_le hc) (fun _ _ h => h) (.fnb f vs l hp hr) hf
  | _, _, .nilf, _ => by simp only [fz]; exact .nilf
  | _, _, .opq v h h', _ => by simp only [fz]; exact .opq v h h'
  | _, _, .itr b s p, _ => by simp only [fz]; exact .itr b s p
  | _, _, .omp b ks vs, _ => by simp only [fz]; exact .omp b ks vs
  | _, _, .mp b, _ => by simp only [fz]; exact .mp b
  | _, _, .fmp b obj ks vs h1 h2, _ => by simp only [fz]; exact .fmp b obj ks vs h1 h2
  | _, _, .stk a c e o l h1 h2 h3, _ => by simp only [fz]; exact .stk a c e o l h1 h2 h3
  | _, _, .raw a m c h1 h2, _ => by simp only [fz]; exact .raw a m c h1 h2
  | _, _, .rawp b i m c, _ => by simp only [fz]; exact .rawp b i m c
  | _, _, .frn v Q S W0 h1 h2 h3 h4, _ => by simp only [fz]; exact .frn v Q S W0 h1 h2 h3 h4
theorem RepL.ice {P : Program} {g : Gh} {h : Hp} {w : World} (hs : Sim P g h w) : ∀ {vs : List Value} {l : List AV}, RepL g vs l → free.frees (fzs h l) = true → RepL (g.ice h w) vs (fzs h l)
  | _, _, .nil, _ => by simp only [fzs]; exact .nil
  | _, _, .cons h0 hr, hf => by
    simp only [fzs, free.frees, Bool.and_eq_true] at hf ⊢
    exact .cons (Rep.ice hs h0 hf.1) (RepL.ice hs hr hf.2)
end
end Go.Proofs.Ytlfnepcglnjogaa

/- The abstract layer: what a call does where there are no objects, it does wherever it is called; its objects come behind. -/
namespace Go.Proofs.Ytlfnepcglnjogaa
set_option linter.unusedSimpArgs false
set_option linter.unusedVariables false
open Go.RowKit Go.Lib

mutual
def sh (n : Nat) : AV → AV
  | .ptr i o => .ptr (i + n) o
  | .hs i m => .hs (i + n) m
  | .hsc i m c => .hsc (i + n) m c
  | .fp l => .fp (shs n l)
  | .lst f m l => .lst f m (shs n l)
  | .agg l => .agg (shs n l)
  | .tup l => .tup (shs n l)
  | .fn f l => .fn f (shs n l)
  | .fnb f l => .fnb f (shs n l)
  | a => a
def shs (n : Nat) : List AV → List AV
  | [] => []
  | a :: l => sh n a :: shs n l
end
theorem plain_sh {n : Nat} (a : AV) (h : plain a = true) : plain (sh n a) = true := by
  cases a with
  | lst f m l => cases f <;> first | (simp [plain] at h; done) | simp [sh, plain]
  | itr s p => simp [plain] at h
  | omp b ks vs => simp [plain] at h
  | stk e o l => simp [plain] at h
  | _ => simp [sh, plain]
theorem plains_sh {n : Nat} : ∀ {l : List AV}, plains l → plains (shs n l)
  | [], _ => by intro a ha; simp [shs] at ha
  | a :: l, h => by
    intro b hb
    simp only [shs, List.mem_cons] at hb
    rcases hb with rfl | hb
    · exact plain_sh a (h a (by simp))
    · exact plains_sh (fun x hx => h x (by simp [hx])) b hb
theorem shs_len {n : Nat} : ∀ l : List AV, (shs n l).length = l.length
  | [] => by simp [shs]
  | a :: l => by simp [shs, shs_len l]
theorem shs_get {n : Nat} : ∀ (l : List AV) (i : Nat), (shs n l)[i]? = (l[i]?).map (sh n)
  | [], i => by simp [shs]
  | a :: l, 0 => by simp [shs]
  | a :: l, i + 1 => by simp [shs, shs_get l i]
def Gh.join (g g1 : Gh) (n : Nat) : Gh :=
  { C := g1.C, X := g1.X, io := fun i => if i < n then g.io i else g1.io (i - n), F := g.F,
    own := fun b => match g.own b with
      | some x => some x
      | none => match g1.own b with
        | some (.cell id i) => some (.cell (id + n) i)
        | x => x }
mutual
theorem Rep.sh {g g1 : Gh} {n : Nat} : ∀ {v : Value} {a : AV}, Rep g1 v a → Rep (g.join g1 n) v (sh n a)
  | _, _, .bool b => by simp only [Go.Proofs.Ytlfnepcglnjogaa.sh]; exact .bool b
  | _, _, .int k m => by simp only [Go.Proofs.Ytlfnepcglnjogaa.sh]; exact .int k m
  | _, _, .str s => by simp only [Go.Proofs.Ytlfnepcglnjogaa.sh]; exact .str s
  | _, _, .nilp => by simp only [Go.Proofs.Ytlfnepcglnjogaa.sh]; exact .nilp
  | _, _, .ptr id off b h => by simp only [Go.Proofs.Ytlfnepcglnjogaa.sh]; exact .ptr _ off b (by simp only [Gh.join]; rw [if_neg (by omega), Nat.add_sub_cancel]; exact h)
  | _, _, .fp b off vs l h hp hr => by simp only [Go.Proofs.Ytlfnepcglnjogaa.sh]; exact .fp b off vs _ h (plains_sh hp) (RepL.sh hr)
  | _, _, .lst b off m c f vs l h hp h1 h2 hr => by simp only [Go.Proofs.Ytlfnepcglnjogaa.sh]; exact .lst b off m c f vs _ h (plains_sh hp) h1 h2 (RepL.sh hr)
  | _, _, .lst0 a c f h => by simp only [Go.Proofs.Ytlfnepcglnjogaa.sh, shs]; exact .lst0 a c f h
  | _, _, .hs id b m c h h1 => by simp only [Go.Proofs.Ytlfnepcglnjogaa.sh]; exact .hs _ b m c (by simp only [Gh.join]; rw [if_neg (by omega), Nat.add_sub_cancel]; exact h) h1
  | _, _, .hsc id b m c h h1 => by simp only [Go.Proofs.Ytlfnepcglnjogaa.sh]; exact .hsc _ b m c (by simp only [Gh.join]; rw [if_neg (by omega), Nat.add_sub_cancel]; exact h) h1
  | _, _, .agg vs l h hp hr => by simp only [Go.Proofs.Ytlfnepcglnjogaa.sh]; exact .agg vs _ h (plains_sh hp) (RepL.sh hr)
  | _, _, .tup vs l hp hr => by simp only [Go.Proofs.Ytlfnepcglnjogaa.sh]; exact .tup vs _ (plains_sh hp) (RepL.sh hr)
  | _, _, .fn f vs l hp hr => by simp only [Go.Proofs.Ytlfnepcglnjogaa.sh]; exact .fn f vs _ (plains_sh hp) (RepL.sh hr)
  | _, _, .fnb f vs l hp hr => by simp only [Go.Proofs.Ytlfnepcglnjogaa.sh]; exact .fnb f vs _ (plains_sh hp) (RepL.sh hr)
  | _, _, .nilf => by simp only [Go.Proofs.Ytlfnepcglnjogaa.sh]; exact .nilf
  | _, _, .opq v h h' => by simp only [Go.Proofs.Ytlfnepcglnjogaa.sh]; exact .opq v h h'
  | _, _, .itr b s p => by simp only [Go.Proofs.Ytlfnepcglnjogaa.sh]; exact .itr b s p
  | _, _, .omp b ks vs => by simp only [Go.Proofs.Ytlfnepcglnjogaa.sh]; exact .omp b ks vs
  | _, _, .mp b => by simp only [Go.Proofs.Ytlfnepcglnjogaa.sh]; exact .mp b
  | _, _, .fmp b obj ks vs h1 h2 => by simp only [Go.Proofs.Ytlfnepcglnjogaa.sh]; exact .fmp b obj ks vs h1 h2
  | _, _, .stk a c e o l h1 h2 h3 => by simp only [Go.Proofs.Ytlfnepcglnjogaa.sh]; exact .stk a c e o l h1 h2 h3
  | _, _, .raw a m c h1 h2 => by simp only [Go.Proofs.Ytlfnepcglnjogaa.sh]; exact .raw a m c h1 h2
  | _, _, .rawp b i m c => by simp only [Go.Proofs.Ytlfnepcglnjogaa.sh]; exact .rawp b i m c
  | _, _, .frn v Q S W0 h1 h2 h3 h4 => by simp only [Go.Proofs.Ytlfnepcglnjogaa.sh]; exact .frn v Q S W0 h1 h2 h3 h4
theorem RepL.sh {g g1 : Gh} {n : Nat} : ∀ {vs : List Value} {l : List AV}, RepL g1 vs l → RepL (g.join g1 n) vs (shs n l)
  | _, _, .nil => by simp only [shs]; exact .nil
  | _, _, .cons h hr => by simp only [shs]; exact .cons (Rep.sh h) (RepL.sh hr)
end
def shH (n : Nat) (h : Hp) : Hp := h.map fun o => o.map fun x => (x.1, shs n x.2)
theorem Sim.join {P : Program} {g g1 : Gh} {h h1 : Hp} {w w1 : World} (hs : Sim P g h w) (hev : Ev g.bare w g1 w1) (hs1 : Sim P g1 h1 w1) : Sim P (g.join g1 h.length) (h ++ shH h.length h1) w1 ∧ Ev g w (g.join g1 h.length) w1 := by
  have hFF : ∀ b, (g.F b ∨ (∃ i, g.io i = some b) ∨ (∃ x, g.own b = some x)) → g1.F b := fun b hb => (hev.F b).2 hb
  have hle : GLe g (g.join g1 h.length) := ⟨fun b o v hc => hev.le.C b o v hc, fun i b hi => by have := (hs.dom i b hi).1; simp only [Gh.join, if_pos this]; exact hi, fun b o hx => hev.le.X b o hx⟩
  have hfar : ∀ k b, g1.io k = some b → ¬ (g.F b ∨ (∃ i, g.io i = some b) ∨ (∃ x, g.own b = some x)) := fun k b hk hb => by
    have := (hev.Fb b hb).2.2.2 k hk
    cases this
  have hown : ∀ b, ¬ g1.F b → g.own b = none := fun b hb => by
    cases ho : g.own b with
    | none => rfl
    | some x => exact absurd (hFF b (.inr (.inr ⟨x, ho⟩))) hb
  have hfro : ∀ b o, (g.join g1 h.length).X b = some o → w1.heap[b]? = some o ∧ (g.join g1 h.length).own b = none ∧ ∀ i, (g.join g1 h.length).io i ≠ some b := fun b o hx => by
    obtain ⟨q1, q2, q3⟩ := hs1.fro b o hx
    have hbk : (∃ i, g.io i = some b) ∨ (∃ x, g.own b = some x) → g.X b = some o := fun hh => by
      have := hev.Fx b (.inr hh)
      rw [show g.bare.X b = g.X b from rfl] at this
      rw [← this]; exact hx
    refine ⟨q1, ?_, fun i hi => ?_⟩
    · cases ho : g.own b with
      | none => simp only [Gh.join, ho, q2]
      | some x => exact absurd (hs.fro b o (hbk (.inr ⟨x, ho⟩))).2.1 (by rw [ho]; simp)
    · simp only [Gh.join] at hi
      split at hi
      · exact (hs.fro b o (hbk (.inl ⟨i, hi⟩))).2.2 i hi
      · exact q3 _ hi
  refine ⟨⟨hs1.prot, ?_, ?_, ?_, ?_, ?_, ?_, hfro⟩, ⟨hle, fun _ => .rfl, fun b hb => ?_, hev.os, hev.tape, hev.output, hev.size, fun b hb => hev.Fx b (.inl hb)⟩⟩
  · intro id s l hl
    by_cases hid : id < h.length
    · rw [List.getElem?_append_left hid] at hl
      refine (hs.obj id s l hl).keep hle (fun b hb h8 h9 => ?_) (fun b i o1 o3 o4 => ?_)
      · have hbF : g.F b ∨ (∃ i, g.io i = some b) ∨ (∃ x, g.own b = some x) := .inr (.inl ⟨id, hb⟩)
        obtain ⟨q1, q2, q3, _⟩ := hev.Fb b hbF
        refine ⟨q1, q2, h8, ?_⟩
        simp only [Gh.join, h9]
        rw [q3]
        rfl
      · obtain ⟨q1, q2, q3, q4⟩ := hev.Fb b (.inr (.inr ⟨_, o1⟩))
        refine ⟨q1, by simp only [Gh.join, o1], q2, o3, fun j hj => ?_⟩
        simp only [Gh.join] at hj
        split at hj
        · exact o4 j hj
        · have := q4 _ hj; cases this
    · rw [List.getElem?_append_right (by omega), shH, List.getElem?_map] at hl
      cases hl1 : h1[id - h.length]? with
      | none => rw [hl1] at hl; cases hl
      | some o =>
        rw [hl1] at hl
        simp only [Option.map_some, Option.some.injEq] at hl
        cases o with
        | none => cases hl
        | some x =>
          obtain ⟨s', l'⟩ := x
          simp only [Option.map_some, Option.some.injEq, Prod.mk.injEq] at hl
          obtain ⟨rfl, rfl⟩ := hl
          obtain ⟨b, arr, e, p1, p2, p3, p4, p5, p6, p7, p8, p9⟩ := hs1.obj _ s' l' hl1
          refine ⟨b, arr, e, by simp only [Gh.join, if_neg hid]; exact p1, p2, p3.sh, p4, fun i v a hv ha => ?_, p6, p7, fun hf => p8 (hFF b (.inl hf)), by simp only [Gh.join, hown b p8, p9]⟩
          rw [shs_get] at ha
          cases hla : l'[i]? with
          | none => rw [hla] at ha; cases ha
          | some a' =>
            rw [hla] at ha
            simp only [Option.map_some, Option.some.injEq] at ha
            subst ha
            have ho := p5 i v a' hv hla
            cases a' with
            | lst f m c =>
              cases f with
              | own e' =>
                simp only [sh]
                obtain ⟨sz, r1, r2, ⟨vs, r3, r4⟩ | r3⟩ := ho
                · refine ⟨sz, r1, by rw [shs_len]; exact r2, .inl ⟨vs, r3, fun b' hb' => ?_⟩⟩
                  obtain ⟨k1, k2, k3, k4⟩ := r4 b' hb'
                  refine ⟨?_, fun o ho => k2 o (by rw [shs_len] at ho; exact ho), fun hf => k3 (hFF b' (.inl hf)), fun j hj => ?_⟩
                  · simp only [Gh.join, hown b' k3, k1]
                    congr 2; omega
                  · simp only [Gh.join] at hj
                    split at hj
                    · exact k3 (hFF b' (.inr (.inl ⟨j, hj⟩)))
                    · exact k4 _ hj
                · exact ⟨sz, r1, by rw [shs_len]; exact r2, .inr r3⟩
              | _ => exact Owned.plain (by simp [sh, plain])
            | itr s p =>
              simp only [sh]
              obtain ⟨b', r1, r2, k1, k2, k3, k4⟩ := ho
              refine ⟨b', r1, r2, ?_, k2, fun hf => k3 (hFF b' (.inl hf)), fun j hj => ?_⟩
              · simp only [Gh.join, hown b' k3, k1]
                congr 2; omega
              · simp only [Gh.join] at hj
                split at hj
                · exact k3 (hFF b' (.inr (.inl ⟨j, hj⟩)))
                · exact k4 _ hj
            | omp b ks vs =>
              simp only [sh]
              obtain ⟨b', r1, r2, k1, k2, k3, k4⟩ := ho
              refine ⟨b', r1, r2, ?_, k2, fun hf => k3 (hFF b' (.inl hf)), fun j hj => ?_⟩
              · simp only [Gh.join, hown b' k3, k1]
                congr 2; omega
              · simp only [Gh.join] at hj
                split at hj
                · exact k3 (hFF b' (.inr (.inl ⟨j, hj⟩)))
                · exact k4 _ hj
            | stk e' u c =>
              simp only [sh]
              obtain ⟨r1, ⟨r3, r4⟩ | r3⟩ := ho
              · refine ⟨r1, .inl ⟨r3, fun b' hb' => ?_⟩⟩
                obtain ⟨k1, k2, k3, k4⟩ := r4 b' hb'
                refine ⟨?_, k2, fun hf => k3 (hFF b' (.inl hf)), fun j hj => ?_⟩
                · simp only [Gh.join, hown b' k3, k1]
                  congr 2; omega
                · simp only [Gh.join] at hj
                  split at hj
                  · exact k3 (hFF b' (.inr (.inl ⟨j, hj⟩)))
                  · exact k4 _ hj
              · exact ⟨r1, .inr r3⟩
            | _ => exact Owned.plain (by simp [sh, plain])
  · intro i j b hi hj
    simp only [Gh.join] at hi hj
    split at hi <;> split at hj
    · exact hs.inj i j b hi hj
    · exact absurd (.inr (.inl ⟨i, hi⟩)) (hfar _ b hj)
    · exact absurd (.inr (.inl ⟨j, hj⟩)) (hfar _ b hi)
    · have := hs1.inj _ _ b hi hj; omega
  · intro i b hi
    simp only [Gh.join] at hi
    split at hi
    · have := hs.dom i b hi; have := hev.size; simp; omega
    · have := hs1.dom _ b hi; simp [shH]; omega
  · intro b hb; exact Nat.lt_of_lt_of_le (hs.flt b hb) hev.size
  · intro b x hb
    simp only [Gh.join] at hb
    split at hb
    · next y hy => exact Nat.lt_of_lt_of_le (hs.olt b _ hy) hev.size
    · split at hb
      · next hy => exact hs1.olt b _ hy
      · exact hs1.olt b x hb
  · intro i hi
    by_cases hid : i < h.length
    · rw [List.getElem?_append_left hid] at hi
      simp only [Gh.join, if_pos hid]; exact hs.hole i hi
    · rw [List.getElem?_append_right (by omega), shH, List.getElem?_map] at hi
      simp only [Gh.join, if_neg hid]
      cases hl1 : h1[i - h.length]? with
      | none => rw [hl1] at hi; cases hi
      | some o =>
        cases o with
        | none => exact hs1.hole _ hl1
        | some x => rw [hl1] at hi; simp at hi
  · obtain ⟨q1, q2, q3, q4⟩ := hev.Fb b (.inl hb)
    refine ⟨q1, q2, ?_, fun i hi => ?_⟩
    · simp only [Gh.join]
      split
      · next y hy => exact hy.symm
      · next hy => rw [q3, hy]; rfl
    · simp only [Gh.join] at hi
      split at hi
      · exact hi
      · have := q4 _ hi; cases this
theorem ACalls.shift {P : Program} {f : FuncId} {args : List AV} {R : AV → Hp → Prop} (ha : free.frees args = true) (hc : ACalls P f args [] R) (h : Hp) : ACalls P f args h (fun a h' => ∃ a0 h0, R a0 h0 ∧ a = sh h.length a0 ∧ h' = h ++ shH h.length h0) := by
  refine ⟨hc.1, fun g w vargs hs hns hr hpl => ?_⟩
  refine (hc.2 g.bare w vargs hs.bare (fun b k h => by cases h) (RepL.free (g := g) (g' := g.bare) (fun _ _ _ h => h) (fun _ _ h => h) hr ha) hpl).mono ?_
  rintro e w1 ⟨x, a, h1, g1, rfl, r1, r2, r3, r4, r5, r6⟩
  obtain ⟨s1, s2⟩ := hs.join r1 r2
  refine ⟨x, _, _, g.join g1 h.length, rfl, s2, s1, fun b k hk => ?_, r4.sh, plain_sh _ r5, a, h1, r6, rfl, rfl⟩
  simp only [Gh.join] at hk
  split at hk
  · next y hy => simp only [Option.some.injEq] at hk; subst hk; exact hns b k hy
  · split at hk
    · cases hk
    · exact r3 b k hk
def only (k : Nat) : AV → Bool
  | .ptr i _ => decide (i = k)
  | .hs i _ => decide (i = k)
  | .hsc i _ _ => decide (i = k)
  | .fp l | .lst _ _ l | .agg l | .tup l | .fn _ l | .fnb _ l => onlys l
  | _ => true
where onlys : List AV → Bool
  | [] => true
  | a :: l => only k a && onlys l
mutual
def rn : AV → AV
  | .ptr _ o => .ptr 0 o
  | .hs _ m => .hs 0 m
  | .hsc _ m c => .hsc 0 m c
  | .fp l => .fp (rns l)
  | .lst f m l => .lst f m (rns l)
  | .agg l => .agg (rns l)
  | .tup l => .tup (rns l)
  | .fn f l => .fn f (rns l)
  | .fnb f l => .fnb f (rns l)
  | a => a
def rns : List AV → List AV
  | [] => []
  | a :: l => rn a :: rns l
end
theorem plain_rn (a : AV) (h : plain a = true) : plain (rn a) = true := by
  cases a with
  | lst f m l => cases f <;> first | (simp [plain] at h; done) | simp [rn, plain]
  | itr s p => simp [plain] at h
  | omp b ks vs => simp [plain] at h
  | stk e o l => simp [plain] at h
  | _ => simp [rn, plain]
theorem plains_rn : ∀ {l : List AV}, plains l → plains (rns l)
  | [], _ => by intro a ha; simp [rns] at ha
  | a :: l, h => by
    intro b hb
    simp only [rns, List.mem_cons] at hb
    rcases hb with rfl | hb
    · exact plain_rn a (h a (by simp))
    · exact plains_rn (fun x hx => h x (by simp [hx])) b hb
def Gh.one (g : Gh) (k : Nat) : Gh := { g with io := fun i => if i = 0 then g.io k else none }
mutual
theorem Rep.one {g : Gh} {k : Nat} : ∀ {v : Value} {a : AV}, Rep g v a → only k a = true → Rep (g.one k) v (rn a)
  | _, _, .bool b, _ => by simp only [rn]; exact .bool b
  | _, _, .int i m, _ => by simp only [rn]; exact .int i m
  | _, _, .str s, _ => by simp only [rn]; exact .str s
  | _, _, .nilp, _ => by simp only [rn]; exact .nilp
  | _, _, .ptr id off b h, ho => by
    have : id = k := by simpa [only] using ho
    subst this
    simp only [rn]; exact .ptr 0 off b (by simp only [Gh.one, if_true]; exact h)
  | _, _, .fp b off vs l h hp hr, ho => by simp only [rn]; exact .fp b off vs _ h (plains_rn hp) (RepL.one hr (by simpa [only] using ho))
  | _, _, .lst b off m c f vs l h hp h1 h2 hr, ho => by simp only [rn]; exact .lst b off m c f vs _ h (plains_rn hp) h1 h2 (RepL.one hr (by simpa [only] using ho))
  | _, _, .lst0 a c f h, _ => by simp only [rn, rns]; exact .lst0 a c f h
  | _, _, .hs id b m c h h1, ho => by
    have : id = k := by simpa [only] using ho
    subst this
    simp only [rn]; exact .hs 0 b m c (by simp only [Gh.one, if_true]; exact h) h1
  | _, _, .hsc id b m c h h1, ho => by
    have : id = k := by simpa [only] using ho
    subst this
    simp only [rn]; exact .hsc 0 b m c (by simp only [Gh.one, if_true]; exact h) h1
  | _, _, .agg vs l h hp hr, ho => by simp only [rn]; exact .agg vs _ h (plains_rn hp) (RepL.one hr (by simpa [only] using ho))
  | _, _, .tup vs l hp hr, ho => by simp only [rn]; exact .tup vs _ (plains_rn hp) (RepL.one hr (by simpa [only] using ho))
  | _, _, .fn f vs l hp hr, ho => by simp only [rn]; exact .fn f vs _ (plains_rn hp) (RepL.one hr (by simpa [only] using ho))
  | _, _, .fnb f vs l hp hr, ho => by simp only [rn]; exact .fnb f vs _ (plains_rn hp) (RepL.one hr (by simpa [only] using ho))
  | _, _, .nilf, _ => by simp only [rn]; exact .nilf
  | _, _, .opq v h h', _ => by simp only [rn]; exact .opq v h h'
  | _, _, .itr b s p, _ => by simp only [rn]; exact .itr b s p
  | _, _, .omp b ks vs, _ => by simp only [rn]; exact .omp b ks vs
  | _, _, .mp b, _ => by simp only [rn]; exact .mp b
  | _, _, .fmp b obj ks vs h1 h2, _ => by simp only [rn]; exact .fmp b obj ks vs h1 h2
  | _, _, .stk a c e o l h1 h2 h3, _ => by simp only [rn]; exact .stk a c e o l h1 h2 h3
  | _, _, .raw a m c h1 h2, _ => by simp only [rn]; exact .raw a m c h1 h2
  | _, _, .rawp b i m c, _ => by simp only [rn]; exact .rawp b i m c
  | _, _, .frn v Q S W0 h1 h2 h3 h4, _ => by simp only [rn]; exact .frn v Q S W0 h1 h2 h3 h4
theorem RepL.one {g : Gh} {k : Nat} : ∀ {vs : List Value} {l : List AV}, RepL g vs l → only.onlys k l = true → RepL (g.one k) vs (rns l)
  | _, _, .nil, _ => by simp only [rns]; exact .nil
  | _, _, .cons h hr, ho => by
    simp only [only.onlys, Bool.and_eq_true] at ho
    simp only [rns]; exact .cons (Rep.one h ho.1) (RepL.one hr ho.2)
end
theorem ACalls.one {P : Program} {f : FuncId} {args : List AV} {R : AV → Hp → Prop}
    (hc : ACalls P f args [] (fun a h' => ∃ k l, h'[k]? = some (some (false, l)) ∧ only k a = true ∧ free.frees l = true ∧ plains l ∧ R (rn a) [some (false, l)])) : ACalls P f args [] R := by
  refine ⟨hc.1, fun g w vargs hs hns hr hpl => (hc.2 g w vargs hs hns hr hpl).mono ?_⟩
  rintro e w1 ⟨x, a, h', g', rfl, ev, hs', hns', hx, hpa, k, l, hk, ho, hfl, hpll, hR⟩
  have nodom : ∀ i b, g.io i ≠ some b := fun i b hi => absurd (hs.dom i b hi).1 (by simp)
  obtain ⟨b, arr, e, p1, p2, p3, p4, p5, p6, p7, p8, p9⟩ := hs'.obj k false l hk
  refine ⟨x, _, _, g'.one k, rfl, ?_, ?_, hns', Rep.one hx ho, plain_rn _ hpa, hR⟩
  · refine ⟨⟨ev.le.C, fun i b hi => absurd hi (nodom i b), ev.le.X⟩, ev.F, fun b' hb' => ?_, ev.os, ev.tape, ev.output, ev.size, ev.Fx⟩
    obtain ⟨q1, q2, q3, q4⟩ := ev.Fb b' hb'
    refine ⟨q1, q2, q3, fun i hi => ?_⟩
    simp only [Gh.one] at hi
    split at hi
    · exact absurd (q4 _ hi) (nodom _ _)
    · cases hi
  · refine ⟨hs'.prot, fun id s l' hl' => ?_, fun i j b' hi hj => ?_, fun i b' hi => ?_, hs'.flt, hs'.olt, fun i hi => ?_, fun b o hx => ⟨(hs'.fro b o hx).1, (hs'.fro b o hx).2.1, fun i hi => by simp only [Gh.one] at hi; split at hi; exact (hs'.fro b o hx).2.2 _ hi; cases hi⟩⟩
    · cases id with
      | zero =>
        simp only [List.getElem?_cons_zero, Option.some.injEq, Prod.mk.injEq] at hl'
        obtain ⟨rfl, rfl⟩ := hl'
        refine ⟨b, arr, e, by simp only [Gh.one, if_true]; exact p1, p2, RepL.free (g := g') (g' := g'.one k) (fun _ _ _ h => h) (fun _ _ h => h) p3 hfl, p4, fun i v a _ ha => Owned.plain (hpll a (List.mem_of_getElem? ha)), p6, p7, p8, p9⟩
      | succ id => simp at hl'
    · simp only [Gh.one] at hi hj
      split at hi
      · split at hj
        · omega
        · cases hj
      · cases hi
    · simp only [Gh.one] at hi
      split at hi
      · next h0 => subst h0; exact ⟨by simp, (hs'.dom k b' hi).2⟩
      · cases hi
    · cases i with
      | zero => simp at hi
      | succ i => simp at hi
end Go.Proofs.Ytlfnepcglnjogaa
