/- awake of the laws on sets: what each call comes to. -/
import Derived.Test.YtajpibdchgflnaaSu
namespace Go.Proofs.Ytajpibdchgflnaa
set_option linter.unusedSimpArgs false
set_option linter.unusedVariables false
open Go.RowKit Go.Lib

def wA : ByteArray := atomW 8193
def wB : ByteArray := atomW 8194
def wAB : ByteArray := ⟨#[32, 1, 32, 2]⟩
def wBB : ByteArray := ⟨#[32, 2, 32, 2]⟩
def wDB : ByteArray := ⟨#[0, 1, 32, 2]⟩
theorem k_app : wA ++ wB = wAB := by apply ByteArray.ext; apply Array.ext'; simp [wA, wB, wAB, atomW]
theorem k_app2 : wB ++ wB = wBB := by apply ByteArray.ext; apply Array.ext'; simp [wB, wBB, atomW]
theorem k_of : ofE [wAB, wA, wA] = ([wA, wAB], 0) := by kernel_rfl
theorem k_quote : quoteE [wA, wB] [wB] = ([wAB, wBB], 0) := by kernel_rfl
theorem k_for : forE [wA] [wB] = ([wDB, wAB], 0) := by kernel_rfl
theorem k_as : asE [wA, wAB] 8193 = ([], 1) := by kernel_rfl
theorem k_and : andE [wA] [wB] = ([wA, wB], 0) := by kernel_rfl
theorem k_none : ofE [] = ([], 3) := by kernel_rfl
theorem k_may : setMay [wA, wAB] = true := by kernel_rfl
theorem k_may0 : setMay [] = false := by kernel_rfl
theorem k_has : hasW [wA, wAB] wAB = true := by kernel_rfl
theorem k_within : withinE [wA] [wA, wAB] = true := by kernel_rfl
theorem k_same : withinE [wA, wAB] [wAB, wBB] = false := by kernel_rfl
theorem k_heavy : heavyE [wA, wAB] = 2 := by kernel_rfl
theorem q_a : PCalls Try.prog 39 [.lst .ro 1 [.int .u16 8193]] (.str wA) := by
  have := p_rof [8193] (by decide) (by decide)
  rw [atomBytes_one] at this
  exact this
theorem q_b : PCalls Try.prog 39 [.lst .ro 1 [.int .u16 8194]] (.str wB) := by
  have := p_rof [8194] (by decide) (by decide)
  rw [atomBytes_one] at this
  exact this
theorem q_db : PCalls Try.prog 39 [.lst .ro 2 [.int .u16 1, .int .u16 8194]] (.str wDB) := by
  have := p_rof [1, 8194] (by decide) (by decide)
  exact this
theorem sz_k : wA.size = 2 ∧ wB.size = 2 ∧ wAB.size = 4 ∧ wBB.size = 4 ∧ wDB.size = 4 := ⟨rfl, rfl, rfl, rfl, rfl⟩
theorem q_of : PCalls Try.prog 18 [.lst .ro 3 [.str wAB, .str wA, .str wA]] (.tup [.lst .ro 2 [.str wA, .str wAB], .int .i64 0]) := by
  have := p_sof [wAB, wA, wA] (by decide) (by obtain ⟨h1, h2, h3, h4, h5⟩ := sz_k; intro x hx; simp at hx; rcases hx with rfl | rfl <;> omega)
  rw [k_of] at this; exact this
theorem q_quote : PCalls Try.prog 25 [.lst .ro 2 [.str wA, .str wB], .lst .ro 1 [.str wB]] (.tup [.lst .ro 2 [.str wAB, .str wBB], .int .i64 0]) := by
  have := p_squote [wA, wB] [wB] (by decide) (by decide) (by obtain ⟨h1, h2, h3, h4, h5⟩ := sz_k; intro x hx; simp at hx; rcases hx with rfl | rfl <;> omega) (by obtain ⟨h1, h2, h3, h4, h5⟩ := sz_k; intro x hx; simp at hx; subst hx; omega)
  rw [k_quote] at this; exact this
theorem q_for : PCalls Try.prog 27 [.lst .ro 1 [.str wA], .lst .ro 1 [.str wB]] (.tup [.lst .ro 2 [.str wDB, .str wAB], .int .i64 0]) := by
  have := p_sfor [wA] [wB] (by decide) (by decide) (by obtain ⟨h1, h2, h3, h4, h5⟩ := sz_k; intro x hx; simp at hx; subst hx; omega) (by obtain ⟨h1, h2, h3, h4, h5⟩ := sz_k; intro x hx; simp at hx; subst hx; omega)
  rw [k_for] at this; exact this
theorem q_and : PCalls Try.prog 23 [.lst .ro 1 [.str wA], .lst .ro 1 [.str wB]] (.tup [.lst .ro 2 [.str wA, .str wB], .int .i64 0]) := by
  have := p_sand [wA] [wB] (by decide) (by decide) (by obtain ⟨h1, h2, h3, h4, h5⟩ := sz_k; intro x hx; simp at hx; subst hx; omega) (by obtain ⟨h1, h2, h3, h4, h5⟩ := sz_k; intro x hx; simp at hx; subst hx; omega)
  rw [k_and] at this; exact this
theorem q_as : PCalls Try.prog 29 [.lst .ro 2 [.str wA, .str wAB], .int .u16 8193] (.tup [.lst .ro 0 [], .int .i64 1]) := by
  have := p_sas [wA, wAB] 8193 (by decide) (by decide) (by obtain ⟨h1, h2, h3, h4, h5⟩ := sz_k; intro x hx; simp at hx; rcases hx with rfl | rfl <;> omega)
  rw [k_as] at this; exact this
theorem q_none : PCalls Try.prog 18 [.lst .ro 0 []] (.tup [.lst .ro 0 [], .int .i64 3]) := by
  have := p_sof [] (by decide) (by simp)
  rw [k_none] at this; exact this
theorem q_may : PCalls Try.prog 21 [.lst .ro 2 [.str wA, .str wAB]] (.bool true) := by
  have := p_smay [wA, wAB] (by decide) (by obtain ⟨h1, h2, h3, h4, h5⟩ := sz_k; intro x hx; simp at hx; rcases hx with rfl | rfl <;> omega)
  rw [k_may] at this; exact this
theorem q_may0 : PCalls Try.prog 21 [.lst .ro 0 []] (.bool false) := by
  have := p_smay [] (by decide) (by simp)
  rw [k_may0] at this; exact this
theorem q_has : PCalls Try.prog 31 [.lst .ro 2 [.str wA, .str wAB], .str wAB] (.bool true) := by
  have := p_shas [wA, wAB] wAB (by decide)
  rw [k_has] at this; exact this
theorem q_within : PCalls Try.prog 33 [.lst .ro 1 [.str wA], .lst .ro 2 [.str wA, .str wAB]] (.bool true) := by
  have := p_within [wA] [wA, wAB] (by decide) (by decide) (by obtain ⟨h1, h2, h3, h4, h5⟩ := sz_k; unfold maxLen; intro x hx; simp at hx; subst hx; omega) (by obtain ⟨h1, h2, h3, h4, h5⟩ := sz_k; unfold maxLen; intro x hx; simp at hx; rcases hx with rfl | rfl <;> omega)
  rw [k_within] at this; exact this
theorem q_same : PCalls Try.prog 35 [.lst .ro 2 [.str wA, .str wAB], .lst .ro 2 [.str wAB, .str wBB]] (.bool false) := by
  have := p_same [wA, wAB] [wAB, wBB] (by decide) (by decide) (by obtain ⟨h1, h2, h3, h4, h5⟩ := sz_k; unfold maxLen; intro x hx; simp at hx; rcases hx with rfl | rfl <;> omega) (by obtain ⟨h1, h2, h3, h4, h5⟩ := sz_k; unfold maxLen; intro x hx; simp at hx; rcases hx with rfl | rfl <;> omega)
  rw [k_same] at this; exact this
theorem q_heavy : PCalls Try.prog 37 [.lst .ro 2 [.str wA, .str wAB]] (.int .i64 2) := by
  have := p_sheavy [wA, wAB] (by decide) (by obtain ⟨h1, h2, h3, h4, h5⟩ := sz_k; intro x hx; simp at hx; rcases hx with rfl | rfl <;> omega)
  rw [k_heavy] at this; exact this
theorem q_eq (x y : ByteArray) : PCalls Try.prog 20 [.lst .ro 2 [.str x, .str y], .lst .ro 2 [.str x, .str y]] (.bool true) := by
  have := p_requal [x, y] [x, y] (by simp)
  rw [decide_eq_true rfl] at this; exact this
theorem q_none' : PCalls Try.prog 18 [.lst .clip 0 []] (.tup [.lst .ro 0 [], .int .i64 3]) := PCalls.ro (args := [.lst .clip 0 []]) q_none
theorem q_may0' : PCalls Try.prog 21 [.lst .clip 0 []] (.bool false) := PCalls.ro (args := [.lst .clip 0 []]) q_may0
set_option maxRecDepth 100000 in
set_option maxHeartbeats 4000000 in
theorem p_awake : PCalls Try.prog 15 [] (.bool true) := by
  refine pcalls_of (by first | rfl | simp [free, free.frees, frees_str, frees_u8, frees_u16]) (by first | rfl | simp [free, free.frees, frees_str, frees_u8, frees_u16]) (acalls_of mixed J_law03_awake_ok (Nat.le_of_ble_eq_true rfl) ?_); simp only [J_law03_awake, wk,if_true,if_false,forall_const,implies_true,ne_eq,eq_self,Nat.reduceEqDiff,Nat.reduceAdd,Nat.reduceMul,Nat.reduceSub,Nat.reduceLeDiff,Nat.reduceLT,Int.reduceEq,Int.reduceLT,Int.reduceLE,Int.reduceAdd,Int.reduceSub,Int.reduceMul,Int.reduceNeg,Int.reduceNe,reduceCtorEq,Int.reduceToNat,↓reduceIte]
  refine PCalls.use (q_a) ?_; simp only [wk,if_true,if_false,forall_const,implies_true,ne_eq,eq_self,Nat.reduceEqDiff,Nat.reduceAdd,Nat.reduceMul,Nat.reduceSub,Nat.reduceLeDiff,Nat.reduceLT,Int.reduceEq,Int.reduceLT,Int.reduceLE,Int.reduceAdd,Int.reduceSub,Int.reduceMul,Int.reduceNeg,Int.reduceNe,reduceCtorEq,Int.reduceToNat,↓reduceIte]
  refine PCalls.use (q_b) ?_; simp only [wk,if_true,if_false,forall_const,implies_true,ne_eq,eq_self,Nat.reduceEqDiff,Nat.reduceAdd,Nat.reduceMul,Nat.reduceSub,Nat.reduceLeDiff,Nat.reduceLT,Int.reduceEq,Int.reduceLT,Int.reduceLE,Int.reduceAdd,Int.reduceSub,Int.reduceMul,Int.reduceNeg,Int.reduceNe,reduceCtorEq,Int.reduceToNat,↓reduceIte]
  refine ⟨by decide, ?_⟩
  rw [k_app]
  refine PCalls.use (q_of) ?_; simp only [wk,if_true,if_false,forall_const,implies_true,ne_eq,eq_self,Nat.reduceEqDiff,Nat.reduceAdd,Nat.reduceMul,Nat.reduceSub,Nat.reduceLeDiff,Nat.reduceLT,Int.reduceEq,Int.reduceLT,Int.reduceLE,Int.reduceAdd,Int.reduceSub,Int.reduceMul,Int.reduceNeg,Int.reduceNe,reduceCtorEq,Int.reduceToNat,↓reduceIte]
  refine PCalls.use (q_quote) ?_; simp only [wk,if_true,if_false,forall_const,implies_true,ne_eq,eq_self,Nat.reduceEqDiff,Nat.reduceAdd,Nat.reduceMul,Nat.reduceSub,Nat.reduceLeDiff,Nat.reduceLT,Int.reduceEq,Int.reduceLT,Int.reduceLE,Int.reduceAdd,Int.reduceSub,Int.reduceMul,Int.reduceNeg,Int.reduceNe,reduceCtorEq,Int.reduceToNat,↓reduceIte]
  refine PCalls.use (q_for) ?_; simp only [wk,if_true,if_false,forall_const,implies_true,ne_eq,eq_self,Nat.reduceEqDiff,Nat.reduceAdd,Nat.reduceMul,Nat.reduceSub,Nat.reduceLeDiff,Nat.reduceLT,Int.reduceEq,Int.reduceLT,Int.reduceLE,Int.reduceAdd,Int.reduceSub,Int.reduceMul,Int.reduceNeg,Int.reduceNe,reduceCtorEq,Int.reduceToNat,↓reduceIte]
  refine PCalls.use (q_as) ?_; simp only [wk,if_true,if_false,forall_const,implies_true,ne_eq,eq_self,Nat.reduceEqDiff,Nat.reduceAdd,Nat.reduceMul,Nat.reduceSub,Nat.reduceLeDiff,Nat.reduceLT,Int.reduceEq,Int.reduceLT,Int.reduceLE,Int.reduceAdd,Int.reduceSub,Int.reduceMul,Int.reduceNeg,Int.reduceNe,reduceCtorEq,Int.reduceToNat,↓reduceIte]
  refine PCalls.use (q_and) ?_; simp only [wk,if_true,if_false,forall_const,implies_true,ne_eq,eq_self,Nat.reduceEqDiff,Nat.reduceAdd,Nat.reduceMul,Nat.reduceSub,Nat.reduceLeDiff,Nat.reduceLT,Int.reduceEq,Int.reduceLT,Int.reduceLE,Int.reduceAdd,Int.reduceSub,Int.reduceMul,Int.reduceNeg,Int.reduceNe,reduceCtorEq,Int.reduceToNat,↓reduceIte]
  refine PCalls.use (q_none') ?_; simp only [wk,if_true,if_false,forall_const,implies_true,ne_eq,eq_self,Nat.reduceEqDiff,Nat.reduceAdd,Nat.reduceMul,Nat.reduceSub,Nat.reduceLeDiff,Nat.reduceLT,Int.reduceEq,Int.reduceLT,Int.reduceLE,Int.reduceAdd,Int.reduceSub,Int.reduceMul,Int.reduceNeg,Int.reduceNe,reduceCtorEq,Int.reduceToNat,↓reduceIte]
  refine PCalls.use (q_eq wA wAB) ?_; simp only [wk,if_true,if_false,forall_const,implies_true,ne_eq,eq_self,Nat.reduceEqDiff,Nat.reduceAdd,Nat.reduceMul,Nat.reduceSub,Nat.reduceLeDiff,Nat.reduceLT,Int.reduceEq,Int.reduceLT,Int.reduceLE,Int.reduceAdd,Int.reduceSub,Int.reduceMul,Int.reduceNeg,Int.reduceNe,reduceCtorEq,Int.reduceToNat,↓reduceIte]
  refine ⟨by decide, ?_⟩
  rw [k_app2]
  refine PCalls.use (q_eq wAB wBB) ?_; simp only [wk,if_true,if_false,forall_const,implies_true,ne_eq,eq_self,Nat.reduceEqDiff,Nat.reduceAdd,Nat.reduceMul,Nat.reduceSub,Nat.reduceLeDiff,Nat.reduceLT,Int.reduceEq,Int.reduceLT,Int.reduceLE,Int.reduceAdd,Int.reduceSub,Int.reduceMul,Int.reduceNeg,Int.reduceNe,reduceCtorEq,Int.reduceToNat,↓reduceIte]
  refine PCalls.use (q_db) ?_; simp only [wk,if_true,if_false,forall_const,implies_true,ne_eq,eq_self,Nat.reduceEqDiff,Nat.reduceAdd,Nat.reduceMul,Nat.reduceSub,Nat.reduceLeDiff,Nat.reduceLT,Int.reduceEq,Int.reduceLT,Int.reduceLE,Int.reduceAdd,Int.reduceSub,Int.reduceMul,Int.reduceNeg,Int.reduceNe,reduceCtorEq,Int.reduceToNat,↓reduceIte]
  refine PCalls.use (q_eq wDB wAB) ?_; simp only [wk,if_true,if_false,forall_const,implies_true,ne_eq,eq_self,Nat.reduceEqDiff,Nat.reduceAdd,Nat.reduceMul,Nat.reduceSub,Nat.reduceLeDiff,Nat.reduceLT,Int.reduceEq,Int.reduceLT,Int.reduceLE,Int.reduceAdd,Int.reduceSub,Int.reduceMul,Int.reduceNeg,Int.reduceNe,reduceCtorEq,Int.reduceToNat,↓reduceIte]
  refine PCalls.use (q_eq wA wB) ?_; simp only [wk,if_true,if_false,forall_const,implies_true,ne_eq,eq_self,Nat.reduceEqDiff,Nat.reduceAdd,Nat.reduceMul,Nat.reduceSub,Nat.reduceLeDiff,Nat.reduceLT,Int.reduceEq,Int.reduceLT,Int.reduceLE,Int.reduceAdd,Int.reduceSub,Int.reduceMul,Int.reduceNeg,Int.reduceNe,reduceCtorEq,Int.reduceToNat,↓reduceIte]
  refine PCalls.use (q_may) ?_; simp only [wk,if_true,if_false,forall_const,implies_true,ne_eq,eq_self,Nat.reduceEqDiff,Nat.reduceAdd,Nat.reduceMul,Nat.reduceSub,Nat.reduceLeDiff,Nat.reduceLT,Int.reduceEq,Int.reduceLT,Int.reduceLE,Int.reduceAdd,Int.reduceSub,Int.reduceMul,Int.reduceNeg,Int.reduceNe,reduceCtorEq,Int.reduceToNat,↓reduceIte]
  refine PCalls.use (q_may0') ?_; simp only [wk,if_true,if_false,forall_const,implies_true,ne_eq,eq_self,Nat.reduceEqDiff,Nat.reduceAdd,Nat.reduceMul,Nat.reduceSub,Nat.reduceLeDiff,Nat.reduceLT,Int.reduceEq,Int.reduceLT,Int.reduceLE,Int.reduceAdd,Int.reduceSub,Int.reduceMul,Int.reduceNeg,Int.reduceNe,reduceCtorEq,Int.reduceToNat,↓reduceIte]
  refine PCalls.use (q_has) ?_; simp only [wk,if_true,if_false,forall_const,implies_true,ne_eq,eq_self,Nat.reduceEqDiff,Nat.reduceAdd,Nat.reduceMul,Nat.reduceSub,Nat.reduceLeDiff,Nat.reduceLT,Int.reduceEq,Int.reduceLT,Int.reduceLE,Int.reduceAdd,Int.reduceSub,Int.reduceMul,Int.reduceNeg,Int.reduceNe,reduceCtorEq,Int.reduceToNat,↓reduceIte]
  refine PCalls.use (q_within) ?_; simp only [wk,if_true,if_false,forall_const,implies_true,ne_eq,eq_self,Nat.reduceEqDiff,Nat.reduceAdd,Nat.reduceMul,Nat.reduceSub,Nat.reduceLeDiff,Nat.reduceLT,Int.reduceEq,Int.reduceLT,Int.reduceLE,Int.reduceAdd,Int.reduceSub,Int.reduceMul,Int.reduceNeg,Int.reduceNe,reduceCtorEq,Int.reduceToNat,↓reduceIte]
  refine PCalls.use (q_same) ?_; simp only [wk,if_true,if_false,forall_const,implies_true,ne_eq,eq_self,Nat.reduceEqDiff,Nat.reduceAdd,Nat.reduceMul,Nat.reduceSub,Nat.reduceLeDiff,Nat.reduceLT,Int.reduceEq,Int.reduceLT,Int.reduceLE,Int.reduceAdd,Int.reduceSub,Int.reduceMul,Int.reduceNeg,Int.reduceNe,reduceCtorEq,Int.reduceToNat,↓reduceIte]
  refine PCalls.use (q_heavy) ?_; simp only [wk,if_true,if_false,forall_const,implies_true,ne_eq,eq_self,Nat.reduceEqDiff,Nat.reduceAdd,Nat.reduceMul,Nat.reduceSub,Nat.reduceLeDiff,Nat.reduceLT,Int.reduceEq,Int.reduceLT,Int.reduceLE,Int.reduceAdd,Int.reduceSub,Int.reduceMul,Int.reduceNeg,Int.reduceNe,reduceCtorEq,Int.reduceToNat,↓reduceIte]
end Go.Proofs.Ytajpibdchgflnaa
