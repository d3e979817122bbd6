/- Texts of one proof, laid together: Vd Ve Mo. -/
import Derived.Test.YtpiofcjkekpboaaMA20
import Derived.Test.YtpiofcjkekpboaaMA19
import Derived.Test.YtpiofcjkekpboaaMA15
import Derived.Test.YtpiofcjkekpboaaMA17

/- set.Quote and set.As as calls that make an object. -/
-- fast
namespace Go.Proofs.Ytpiofcjkekpboaa
set_option linter.unusedSimpArgs false
set_option linter.unusedVariables false
open Go.RowKit Go.Lib

set_option maxRecDepth 100000 in
set_option maxHeartbeats 2000000 in
theorem a_squote (a b : List ByteArray) (ha : a.length ≤ 10000) (hb : b.length ≤ 10000) (hsa : ∀ x ∈ a, x.size ≤ 1000000) (hsb : ∀ x ∈ b, x.size ≤ 1000000) : ACalls Try.prog 35 [.lst .ro a.length (a.map .str), .lst .ro b.length (b.map .str)] [] (NewO (quoteE a b)) := by
  refine acalls_of mixed J_set_Quote_ok (Nat.le_of_ble_eq_true rfl) ?_; simp only [J_set_Quote, wk,if_true,if_false,forall_const,implies_true,ne_eq,eq_self,Nat.reduceEqDiff,Nat.reduceAdd,Nat.reduceMul,Nat.reduceSub,Nat.reduceLeDiff,Nat.reduceLT,Int.reduceEq,Int.reduceLT,Int.reduceLE,Int.reduceAdd,Int.reduceSub,Int.reduceMul,Int.reduceNeg,Int.reduceNe,reduceCtorEq,Int.reduceToNat,↓reduceIte]
  refine PCalls.use (p_smay a (by omega) (fun x hx => by have := hsa x hx; omega)) ?_; simp only [wk,if_true,if_false,forall_const,implies_true,ne_eq,eq_self,Nat.reduceEqDiff,Nat.reduceAdd,Nat.reduceMul,Nat.reduceSub,Nat.reduceLeDiff,Nat.reduceLT,Int.reduceEq,Int.reduceLT,Int.reduceLE,Int.reduceAdd,Int.reduceSub,Int.reduceMul,Int.reduceNeg,Int.reduceNe,reduceCtorEq,Int.reduceToNat,↓reduceIte]
  refine ⟨fun hm => ?_, fun hm => by unfold quoteE; rw [if_pos (.inl hm)]; exact .inl ⟨by decide, rfl, rfl⟩⟩
  refine PCalls.use (p_smay b (by omega) (fun x hx => by have := hsb x hx; omega)) ?_; simp only [wk,if_true,if_false,forall_const,implies_true,ne_eq,eq_self,Nat.reduceEqDiff,Nat.reduceAdd,Nat.reduceMul,Nat.reduceSub,Nat.reduceLeDiff,Nat.reduceLT,Int.reduceEq,Int.reduceLT,Int.reduceLE,Int.reduceAdd,Int.reduceSub,Int.reduceMul,Int.reduceNeg,Int.reduceNe,reduceCtorEq,Int.reduceToNat,↓reduceIte]
  refine ⟨fun hm2 => by unfold quoteE; rw [if_pos (.inr hm2)]; exact .inl ⟨by decide, rfl, rfl⟩, fun hm2 => ?_⟩
  have g1 := setMay_small hm
  have g2 := setMay_small hm2
  refine PCalls.use (p_collect a b g1.1 g2.1 hsa hsb) ?_; simp only [wk,if_true,if_false,forall_const,implies_true,ne_eq,eq_self,Nat.reduceEqDiff,Nat.reduceAdd,Nat.reduceMul,Nat.reduceSub,Nat.reduceLeDiff,Nat.reduceLT,Int.reduceEq,Int.reduceLT,Int.reduceLE,Int.reduceAdd,Int.reduceSub,Int.reduceMul,Int.reduceNeg,Int.reduceNe,reduceCtorEq,Int.reduceToNat,↓reduceIte]
  have hpl : (prodW a b).length ≤ 272 := by
    have := prodTo_len (a := a) (b := b) (i := a.length) (k := 0) (by omega) (by omega)
    rwa [prodTo_zero, List.take_length] at this
  have hps : ∀ w ∈ prodW a b, w.size ≤ 32 := by
    intro w hw
    obtain ⟨x, hx, y, hy, rfl⟩ := mem_prodW.1 hw
    have := g1.2 x hx; have := g2.2 y hy
    rw [wsize_app]; omega
  refine W_loop (fun n fr h => ∃ i : Nat, i ≤ (prodW a b).length ∧ n = (prodW a b).length - i ∧ fr = [(6, .lst .ro (prodW a b).length ((prodW a b).map .str)), (20, .lst .ro (prodW a b).length ((prodW a b).map .str)), (21, .int .i64 (prodW a b).length), (22, .int .i64 i)] ∧ (∀ w ∈ (prodW a b).take i, w.size / 2 ≤ 8) ∧ h = []) (prodW a b).length ⟨0, by omega, by omega, rfl, by simp, rfl⟩ ?_
  rintro n fr h ⟨i, hi, rfl, rfl, hfit, rfl⟩
  simp only [J_set_Quote_j2, wk,if_true,if_false,forall_const,implies_true,ne_eq,eq_self,Nat.reduceEqDiff,Nat.reduceAdd,Nat.reduceMul,Nat.reduceSub,Nat.reduceLeDiff,Nat.reduceLT,Int.reduceEq,Int.reduceLT,Int.reduceLE,Int.reduceAdd,Int.reduceSub,Int.reduceMul,Int.reduceNeg,Int.reduceNe,reduceCtorEq,Int.reduceToNat,↓reduceIte]
  refine ⟨fun hlt => ?_, fun hge => ?_⟩
  · have hil : i < (prodW a b).length := by omega
    have hda : ((prodW a b).map AV.str).drop (i : Int).toNat = .str (prodW a b)[i] :: ((prodW a b).map AV.str).drop (i + 1) := by rw [show (i : Int).toNat = i by omega, drop_str hil]
    refine ⟨⟨by omega, by omega⟩, ?_⟩
    simp only [hda, wk,if_true,if_false,forall_const,implies_true,ne_eq,eq_self,Nat.reduceEqDiff,Nat.reduceAdd,Nat.reduceMul,Nat.reduceSub,Nat.reduceLeDiff,Nat.reduceLT,Int.reduceEq,Int.reduceLT,Int.reduceLE,Int.reduceAdd,Int.reduceSub,Int.reduceMul,Int.reduceNeg,Int.reduceNe,reduceCtorEq,Int.reduceToNat,↓reduceIte]
    have z := hps _ (List.getElem_mem hil)
    refine PCalls.use (p_wlen (prodW a b)[i] (by omega)) ?_; simp only [wk,if_true,if_false,forall_const,implies_true,ne_eq,eq_self,Nat.reduceEqDiff,Nat.reduceAdd,Nat.reduceMul,Nat.reduceSub,Nat.reduceLeDiff,Nat.reduceLT,Int.reduceEq,Int.reduceLT,Int.reduceLE,Int.reduceAdd,Int.reduceSub,Int.reduceMul,Int.reduceNeg,Int.reduceNe,reduceCtorEq,Int.reduceToNat,↓reduceIte]
    refine ⟨fun h8 => ?_, fun h8 => ?_⟩
    · have : quoteE a b = ([], 4) := by
        unfold quoteE
        rw [if_neg (by simp [hm, hm2]), if_pos]
        rw [List.any_eq_true]
        exact ⟨_, List.getElem_mem hil, by simp; omega⟩
      rw [this]; exact .inl ⟨by decide, rfl, rfl⟩
    · refine ⟨inR_of (by omega) (by omega), (prodW a b).length - (i + 1), by omega, i + 1, by omega, rfl, rfl, fun w hw => ?_⟩
      rw [List.take_succ_eq_append_getElem hil, List.mem_append] at hw
      rcases hw with hw | hw
      · exact hfit w hw
      · simp at hw; subst hw; omega
  · rw [List.take_of_length_le (by omega)] at hfit
    have e : quoteE a b = ofE (prodW a b) := by
      unfold quoteE
      rw [if_neg (by simp [hm, hm2]), if_neg]
      rw [List.any_eq_true]
      rintro ⟨w, hw, h1⟩
      have := hfit w hw
      simp only [decide_eq_true_eq] at h1
      omega
    rw [e]
    simp only [J_set_Quote_j1, wk,if_true,if_false,forall_const,implies_true,ne_eq,eq_self,Nat.reduceEqDiff,Nat.reduceAdd,Nat.reduceMul,Nat.reduceSub,Nat.reduceLeDiff,Nat.reduceLT,Int.reduceEq,Int.reduceLT,Int.reduceLE,Int.reduceAdd,Int.reduceSub,Int.reduceMul,Int.reduceNeg,Int.reduceNe,reduceCtorEq,Int.reduceToNat,↓reduceIte]
    refine ACalls.use (a_sof (prodW a b) (by omega) (fun w hw => by have := hps w hw; omega)) ?_
    rintro v h' (⟨h1, rfl, rfl⟩ | ⟨h1, strs, rfl, rfl, h2⟩)
    · simp only [wk,if_true,if_false,forall_const,implies_true,ne_eq,eq_self,Nat.reduceEqDiff,Nat.reduceAdd,Nat.reduceMul,Nat.reduceSub,Nat.reduceLeDiff,Nat.reduceLT,Int.reduceEq,Int.reduceLT,Int.reduceLE,Int.reduceAdd,Int.reduceSub,Int.reduceMul,Int.reduceNeg,Int.reduceNe,reduceCtorEq,Int.reduceToNat,↓reduceIte]
      exact .inl ⟨h1, rfl, rfl⟩
    · simp only [wk,if_true,if_false,forall_const,implies_true,ne_eq,eq_self,Nat.reduceEqDiff,Nat.reduceAdd,Nat.reduceMul,Nat.reduceSub,Nat.reduceLeDiff,Nat.reduceLT,Int.reduceEq,Int.reduceLT,Int.reduceLE,Int.reduceAdd,Int.reduceSub,Int.reduceMul,Int.reduceNeg,Int.reduceNe,reduceCtorEq,Int.reduceToNat,↓reduceIte]
      exact .inr ⟨h1, strs, rfl, rfl, h2⟩
set_option maxRecDepth 100000 in
set_option maxHeartbeats 2000000 in
theorem a_sas (a : List ByteArray) (r : Nat) (hr : r < 65536) (ha : a.length ≤ 10000) (hsa : ∀ x ∈ a, x.size ≤ 1000000) : ACalls Try.prog 39 [.lst .ro a.length (a.map .str), .int .u16 r] [] (NewO (asE a r)) := by
  refine acalls_of mixed J_set_As_ok (Nat.le_of_ble_eq_true rfl) ?_; simp only [J_set_As, wk,if_true,if_false,forall_const,implies_true,ne_eq,eq_self,Nat.reduceEqDiff,Nat.reduceAdd,Nat.reduceMul,Nat.reduceSub,Nat.reduceLeDiff,Nat.reduceLT,Int.reduceEq,Int.reduceLT,Int.reduceLE,Int.reduceAdd,Int.reduceSub,Int.reduceMul,Int.reduceNeg,Int.reduceNe,reduceCtorEq,Int.reduceToNat,↓reduceIte]
  refine PCalls.use (p_smay a (by omega) (fun x hx => by have := hsa x hx; omega)) ?_; simp only [wk,if_true,if_false,forall_const,implies_true,ne_eq,eq_self,Nat.reduceEqDiff,Nat.reduceAdd,Nat.reduceMul,Nat.reduceSub,Nat.reduceLeDiff,Nat.reduceLT,Int.reduceEq,Int.reduceLT,Int.reduceLE,Int.reduceAdd,Int.reduceSub,Int.reduceMul,Int.reduceNeg,Int.reduceNe,reduceCtorEq,Int.reduceToNat,↓reduceIte]
  refine ⟨fun hm => by unfold asE; rw [if_pos hm]; exact .inl ⟨by decide, rfl, rfl⟩, fun hm => ?_⟩
  have hw : IntKind.wrap .i64 (r : Int) = r := by rw [IntKind.wrap_i64]; omega
  have hd : (r : Int).tdiv 8192 = ((r / 8192 : Nat) : Int) := by rw [Int.tdiv_eq_ediv_of_nonneg (by omega)]; omega
  rw [hw, hd]
  refine ⟨inR_of (by omega) (by omega), fun h1 => ?_, fun h1 => ?_⟩
  · unfold asE; rw [if_neg (by simp [hm]), if_neg (by omega)]; exact .inl ⟨by decide, rfl, rfl⟩
  · refine PCalls.use (p_wof [r] (by simp) (by simpa using hr)) ?_; simp only [wk,if_true,if_false,forall_const,implies_true,ne_eq,eq_self,Nat.reduceEqDiff,Nat.reduceAdd,Nat.reduceMul,Nat.reduceSub,Nat.reduceLeDiff,Nat.reduceLT,Int.reduceEq,Int.reduceLT,Int.reduceLE,Int.reduceAdd,Int.reduceSub,Int.reduceMul,Int.reduceNeg,Int.reduceNe,reduceCtorEq,Int.reduceToNat,↓reduceIte]
    rw [atomBytes_one]
    refine ACalls.use (a_squote a [atomW r] ha (by simp) hsa (by intro x hx; simp at hx; subst hx; have : (atomW r).size = 2 := rfl; omega)) ?_
    unfold asE; rw [if_neg (by simp [hm]), if_pos (by omega)]
    rintro v h' (⟨h1, rfl, rfl⟩ | ⟨h1, strs, rfl, rfl, h2⟩)
    · simp only [wk,if_true,if_false,forall_const,implies_true,ne_eq,eq_self,Nat.reduceEqDiff,Nat.reduceAdd,Nat.reduceMul,Nat.reduceSub,Nat.reduceLeDiff,Nat.reduceLT,Int.reduceEq,Int.reduceLT,Int.reduceLE,Int.reduceAdd,Int.reduceSub,Int.reduceMul,Int.reduceNeg,Int.reduceNe,reduceCtorEq,Int.reduceToNat,↓reduceIte]
      exact .inl ⟨h1, rfl, rfl⟩
    · simp only [wk,if_true,if_false,forall_const,implies_true,ne_eq,eq_self,Nat.reduceEqDiff,Nat.reduceAdd,Nat.reduceMul,Nat.reduceSub,Nat.reduceLeDiff,Nat.reduceLT,Int.reduceEq,Int.reduceLT,Int.reduceLE,Int.reduceAdd,Int.reduceSub,Int.reduceMul,Int.reduceNeg,Int.reduceNe,reduceCtorEq,Int.reduceToNat,↓reduceIte]
      exact .inr ⟨h1, strs, rfl, rfl, h2⟩
end Go.Proofs.Ytpiofcjkekpboaa

/- SetMakes, over the abstract code. -/
-- fast
namespace Go.Proofs.Ytpiofcjkekpboaa
set_option linter.unusedSimpArgs false
set_option linter.unusedVariables false
open Go.RowKit Go.Lib

theorem quoteE_snd (a b : List ByteArray) (h : (quoteE a b).2 ≠ 0) : (quoteE a b).1 = [] := by
  unfold quoteE at h ⊢
  split
  · rfl
  · next h1 =>
    rw [if_neg h1] at h
    split
    · rfl
    · next h2 =>
      rw [if_neg h2] at h
      exact ofE_snd _ h
theorem asE_snd (a : List ByteArray) (r : Nat) (h : (asE a r).2 ≠ 0) : (asE a r).1 = [] := by
  unfold asE at h ⊢
  split
  · rfl
  · next h1 =>
    rw [if_neg h1] at h
    split
    · next h2 =>
      rw [if_pos h2] at h
      exact quoteE_snd _ _ h
    · rfl
theorem ofE_len (l : List ByteArray) : (ofE l).1.length ≤ 16 := by
  unfold ofE
  split
  · simp
  · split
    · next h => exact h.2
    · simp
theorem andE_len (a b : List ByteArray) : (andE a b).1.length ≤ 16 := by
  unfold andE
  split
  · simp
  · exact ofE_len _
theorem quoteE_len (a b : List ByteArray) : (quoteE a b).1.length ≤ 16 := by
  unfold quoteE
  split
  · simp
  · split
    · simp
    · exact ofE_len _
theorem forE_len (a b : List ByteArray) : (forE a b).1.length ≤ 16 := by
  unfold forE
  split
  · split
    · exact andE_len _ _
    · simp
  · simp
theorem asE_len (a : List ByteArray) (r : Nat) : (asE a r).1.length ≤ 16 := by
  unfold asE
  split
  · simp
  · split
    · exact quoteE_len _ _
    · simp
set_option maxRecDepth 100000 in
theorem p_own03 (a : List ByteArray) (ha : a.length ≤ 1000000) : PCalls Try.prog 27 [.lst .ro a.length (a.map .str)] (.lst .ro a.length (a.map .str)) := by
  refine pcalls_of (by simp [free, free.frees, frees_str]) (by simp [free, free.frees, frees_str]) (acalls_of mixed J_law03_own_ok (Nat.le_of_ble_eq_true rfl) ?_); simp only [J_law03_own, wk,if_true,if_false,forall_const,implies_true,ne_eq,eq_self,Nat.reduceEqDiff,Nat.reduceAdd,Nat.reduceMul,Nat.reduceSub,Nat.reduceLeDiff,Nat.reduceLT,Int.reduceEq,Int.reduceLT,Int.reduceLE,Int.reduceAdd,Int.reduceSub,Int.reduceMul,Int.reduceNeg,Int.reduceNe,reduceCtorEq,Int.reduceToNat,↓reduceIte]
  exact ⟨by simp, by omega, by omega⟩
set_option maxRecDepth 100000 in
set_option maxHeartbeats 2000000 in
theorem makes_loop (a b : List ByteArray) (ka : a.length ≤ 9223372036854775807) (kb : b.length ≤ 9223372036854775807) (n : Nat) (hn : n ≤ 16) (v : AV) (h : Hp) (hv : n = 0 ∨ v = .hsc 0 n n ∧ ∃ cells, h = [some (false, cells)] ∧ n ≤ cells.length) :
    W Try.prog (.loop [0, 1, 7, 8, 9, 135, 136] J_law03_SetMakes_j2) [(0, .lst .ro a.length (a.map .str)), (1, .lst .ro b.length (b.map .str)), (7, .lst .ro a.length (a.map .str)), (8, .lst .ro b.length (b.map .str)), (9, v), (135, .int .i64 n), (136, .int .i64 0)] h (kblock 0 (kseq Try.prog J_law03_SetMakes_j1 (kret [.t 6] fun v _ => v = .bool true))) := by
  have ea := p_requal a a ka
  have eb := p_requal b b kb
  rw [decide_eq_true rfl] at ea eb
  refine W_loop (fun q fr h' => ∃ i : Nat, i ≤ n ∧ q = n - i ∧ fr = [(0, .lst .ro a.length (a.map .str)), (1, .lst .ro b.length (b.map .str)), (7, .lst .ro a.length (a.map .str)), (8, .lst .ro b.length (b.map .str)), (9, v), (135, .int .i64 n), (136, .int .i64 i)] ∧ (n = 0 ∨ v = .hsc 0 n n ∧ ∃ cells, h' = [some (false, cells)] ∧ n ≤ cells.length)) n ⟨0, by omega, by omega, rfl, hv⟩ ?_
  rintro q fr h' ⟨i, hi, rfl, rfl, hv⟩
  simp only [J_law03_SetMakes_j2, wk,if_true,if_false,forall_const,implies_true,ne_eq,eq_self,Nat.reduceEqDiff,Nat.reduceAdd,Nat.reduceMul,Nat.reduceSub,Nat.reduceLeDiff,Nat.reduceLT,Int.reduceEq,Int.reduceLT,Int.reduceLE,Int.reduceAdd,Int.reduceSub,Int.reduceMul,Int.reduceNeg,Int.reduceNe,reduceCtorEq,Int.reduceToNat,↓reduceIte]
  refine ⟨fun hlt => ?_, fun hge => ?_⟩
  · have hil : i < n := by omega
    rcases hv with h0 | ⟨rfl, cells, rfl, hc⟩
    · omega
    have hin : ((0 ≤ (i : Int)) ∧ (i : Int) < (n : Int)) = True := by simp; omega
    have hlc : i < cells.length := by omega
    have hd : cells.drop i = cells[i] :: cells.drop (i + 1) := List.drop_eq_getElem_cons hlc
    simp only [hin, Int.toNat_natCast, hd, wk,if_true,if_false,forall_const,implies_true,ne_eq,eq_self,Nat.reduceEqDiff,Nat.reduceAdd,Nat.reduceMul,Nat.reduceSub,Nat.reduceLeDiff,Nat.reduceLT,Int.reduceEq,Int.reduceLT,Int.reduceLE,Int.reduceAdd,Int.reduceSub,Int.reduceMul,Int.reduceNeg,Int.reduceNe,reduceCtorEq,Int.reduceToNat,↓reduceIte]
    exact ⟨by omega, inR_of (by omega) (by omega), n - (i + 1), by omega, i + 1, by omega, rfl, by simp, .inr ⟨_, rfl, by simpa using hc⟩⟩
  · simp only [J_law03_SetMakes_j1, wk,if_true,if_false,forall_const,implies_true,ne_eq,eq_self,Nat.reduceEqDiff,Nat.reduceAdd,Nat.reduceMul,Nat.reduceSub,Nat.reduceLeDiff,Nat.reduceLT,Int.reduceEq,Int.reduceLT,Int.reduceLE,Int.reduceAdd,Int.reduceSub,Int.reduceMul,Int.reduceNeg,Int.reduceNe,reduceCtorEq,Int.reduceToNat,↓reduceIte]
    refine PCalls.use ea ?_
    simp only [wk,if_true,if_false,forall_const,implies_true,ne_eq,eq_self,Nat.reduceEqDiff,Nat.reduceAdd,Nat.reduceMul,Nat.reduceSub,Nat.reduceLeDiff,Nat.reduceLT,Int.reduceEq,Int.reduceLT,Int.reduceLE,Int.reduceAdd,Int.reduceSub,Int.reduceMul,Int.reduceNeg,Int.reduceNe,reduceCtorEq,Int.reduceToNat,↓reduceIte]
    refine PCalls.use eb ?_
    simp only [wk,if_true,if_false,forall_const,implies_true,ne_eq,eq_self,Nat.reduceEqDiff,Nat.reduceAdd,Nat.reduceMul,Nat.reduceSub,Nat.reduceLeDiff,Nat.reduceLT,Int.reduceEq,Int.reduceLT,Int.reduceLE,Int.reduceAdd,Int.reduceSub,Int.reduceMul,Int.reduceNeg,Int.reduceNe,reduceCtorEq,Int.reduceToNat,↓reduceIte]
set_option maxRecDepth 100000 in
set_option maxHeartbeats 2000000 in
theorem a_makes (a b : List ByteArray) (r : Nat) (hr : r < 65536) (ka : a.length ≤ 9223372036854775807) (kb : b.length ≤ 9223372036854775807) : ACalls Try.prog 5 [vSt a, vSt b, .int .u16 r] [] fun v _ => v = .bool true := by
  unfold vSt
  refine acalls_of mixed J_law03_SetMakes_ok (Nat.le_of_ble_eq_true rfl) ?_; simp only [J_law03_SetMakes, wk,if_true,if_false,forall_const,implies_true,ne_eq,eq_self,Nat.reduceEqDiff,Nat.reduceAdd,Nat.reduceMul,Nat.reduceSub,Nat.reduceLeDiff,Nat.reduceLT,Int.reduceEq,Int.reduceLT,Int.reduceLE,Int.reduceAdd,Int.reduceSub,Int.reduceMul,Int.reduceNeg,Int.reduceNe,reduceCtorEq,Int.reduceToNat,↓reduceIte]
  refine PCalls.use (p_awake) ?_; simp only [wk,if_true,if_false,forall_const,implies_true,ne_eq,eq_self,Nat.reduceEqDiff,Nat.reduceAdd,Nat.reduceMul,Nat.reduceSub,Nat.reduceLeDiff,Nat.reduceLT,Int.reduceEq,Int.reduceLT,Int.reduceLE,Int.reduceAdd,Int.reduceSub,Int.reduceMul,Int.reduceNeg,Int.reduceNe,reduceCtorEq,Int.reduceToNat,↓reduceIte]
  have ql := p_large [a, b] (by simp) (by intro s hs; simp at hs; rcases hs with rfl | rfl <;> assumption)
  simp only [List.length_cons, List.length_nil, List.map_cons, List.map_nil, vSt] at ql
  refine PCalls.use (ql) ?_; simp only [wk,if_true,if_false,forall_const,implies_true,ne_eq,eq_self,Nat.reduceEqDiff,Nat.reduceAdd,Nat.reduceMul,Nat.reduceSub,Nat.reduceLeDiff,Nat.reduceLT,Int.reduceEq,Int.reduceLT,Int.reduceLE,Int.reduceAdd,Int.reduceSub,Int.reduceMul,Int.reduceNeg,Int.reduceNe,reduceCtorEq,Int.reduceToNat,↓reduceIte]
  intro hno
  have sa : smallS a := largeS_no.1 hno a (by simp)
  have sb : smallS b := largeS_no.1 hno b (by simp)
  have na := sa.1
  have nb := sb.1
  have za : ∀ x ∈ a, x.size ≤ 1000000 := fun x hx => by have := sa.2 x hx; omega
  have zb : ∀ x ∈ b, x.size ≤ 1000000 := fun x hx => by have := sb.2 x hx; omega
  have eqs : ∀ l : List ByteArray, l.length ≤ 9223372036854775807 → PCalls Try.prog 30 [.lst .ro l.length (l.map .str), .lst .ro l.length (l.map .str)] (.bool true) := fun l hl => by
    have := p_requal l l hl
    rwa [decide_eq_true rfl] at this
  refine PCalls.use (p_own03 a (by omega)) ?_; simp only [wk,if_true,if_false,forall_const,implies_true,ne_eq,eq_self,Nat.reduceEqDiff,Nat.reduceAdd,Nat.reduceMul,Nat.reduceSub,Nat.reduceLeDiff,Nat.reduceLT,Int.reduceEq,Int.reduceLT,Int.reduceLE,Int.reduceAdd,Int.reduceSub,Int.reduceMul,Int.reduceNeg,Int.reduceNe,reduceCtorEq,Int.reduceToNat,↓reduceIte]
  refine PCalls.use (p_own03 b (by omega)) ?_; simp only [wk,if_true,if_false,forall_const,implies_true,ne_eq,eq_self,Nat.reduceEqDiff,Nat.reduceAdd,Nat.reduceMul,Nat.reduceSub,Nat.reduceLeDiff,Nat.reduceLT,Int.reduceEq,Int.reduceLT,Int.reduceLE,Int.reduceAdd,Int.reduceSub,Int.reduceMul,Int.reduceNeg,Int.reduceNe,reduceCtorEq,Int.reduceToNat,↓reduceIte]
  have q1 := p_sof a (by omega) (fun x hx => by have := za x hx; omega)
  have q2 := p_rsof a (by omega) za
  have e1 := eqs (ofE a).1 (by have := ofE_len a; omega)
  have q3 := p_smay a (by omega) (fun x hx => by have := za x hx; omega)
  have q4 := p_rsmay a (by omega) (fun x hx => by have := za x hx; omega)
  have q5 := p_sand a b (by omega) (by omega) za zb
  have q6 := p_rand a b (by omega) (by omega) za zb
  have e2 := eqs (andE a b).1 (by have := andE_len a b; omega)
  have q7 := p_squote a b (by omega) (by omega) za zb
  have q8 := p_rquote a b (by omega) (by omega) za zb
  have e3 := eqs (quoteE a b).1 (by have := quoteE_len a b; omega)
  have q9 := p_sfor a b (by omega) (by omega) za zb
  have q10 := p_rfor a b (by omega) (by omega) za zb
  have e4 := eqs (forE a b).1 (by have := forE_len a b; omega)
  have q11 := a_sas a r hr (by omega) za
  have q12 := p_ras a r hr (by omega) za
  have l5 := asE_len a r
  have e5 := p_requal (asE a r).1 (asE a r).1 (by omega)
  rw [decide_eq_true rfl] at e5
  have hsnd := asE_snd a r
  have ea := eqs a ka
  have eb := eqs b kb
  simp only [vSet] at q1 q2 q5 q6 q7 q8 q9 q10 q12
  refine PCalls.use (q1) ?_; simp only [wk,if_true,if_false,forall_const,implies_true,ne_eq,eq_self,Nat.reduceEqDiff,Nat.reduceAdd,Nat.reduceMul,Nat.reduceSub,Nat.reduceLeDiff,Nat.reduceLT,Int.reduceEq,Int.reduceLT,Int.reduceLE,Int.reduceAdd,Int.reduceSub,Int.reduceMul,Int.reduceNeg,Int.reduceNe,reduceCtorEq,Int.reduceToNat,↓reduceIte]
  refine PCalls.use (q2) ?_; simp only [wk,if_true,if_false,forall_const,implies_true,ne_eq,eq_self,Nat.reduceEqDiff,Nat.reduceAdd,Nat.reduceMul,Nat.reduceSub,Nat.reduceLeDiff,Nat.reduceLT,Int.reduceEq,Int.reduceLT,Int.reduceLE,Int.reduceAdd,Int.reduceSub,Int.reduceMul,Int.reduceNeg,Int.reduceNe,reduceCtorEq,Int.reduceToNat,↓reduceIte]
  refine PCalls.use (e1) ?_; simp only [wk,if_true,if_false,forall_const,implies_true,ne_eq,eq_self,Nat.reduceEqDiff,Nat.reduceAdd,Nat.reduceMul,Nat.reduceSub,Nat.reduceLeDiff,Nat.reduceLT,Int.reduceEq,Int.reduceLT,Int.reduceLE,Int.reduceAdd,Int.reduceSub,Int.reduceMul,Int.reduceNeg,Int.reduceNe,reduceCtorEq,Int.reduceToNat,↓reduceIte]
  refine PCalls.use (q3) ?_; simp only [wk,if_true,if_false,forall_const,implies_true,ne_eq,eq_self,Nat.reduceEqDiff,Nat.reduceAdd,Nat.reduceMul,Nat.reduceSub,Nat.reduceLeDiff,Nat.reduceLT,Int.reduceEq,Int.reduceLT,Int.reduceLE,Int.reduceAdd,Int.reduceSub,Int.reduceMul,Int.reduceNeg,Int.reduceNe,reduceCtorEq,Int.reduceToNat,↓reduceIte]
  refine PCalls.use (q4) ?_; simp only [wk,if_true,if_false,forall_const,implies_true,ne_eq,eq_self,Nat.reduceEqDiff,Nat.reduceAdd,Nat.reduceMul,Nat.reduceSub,Nat.reduceLeDiff,Nat.reduceLT,Int.reduceEq,Int.reduceLT,Int.reduceLE,Int.reduceAdd,Int.reduceSub,Int.reduceMul,Int.reduceNeg,Int.reduceNe,reduceCtorEq,Int.reduceToNat,↓reduceIte]
  refine PCalls.use (q5) ?_; simp only [wk,if_true,if_false,forall_const,implies_true,ne_eq,eq_self,Nat.reduceEqDiff,Nat.reduceAdd,Nat.reduceMul,Nat.reduceSub,Nat.reduceLeDiff,Nat.reduceLT,Int.reduceEq,Int.reduceLT,Int.reduceLE,Int.reduceAdd,Int.reduceSub,Int.reduceMul,Int.reduceNeg,Int.reduceNe,reduceCtorEq,Int.reduceToNat,↓reduceIte]
  refine PCalls.use (q6) ?_; simp only [wk,if_true,if_false,forall_const,implies_true,ne_eq,eq_self,Nat.reduceEqDiff,Nat.reduceAdd,Nat.reduceMul,Nat.reduceSub,Nat.reduceLeDiff,Nat.reduceLT,Int.reduceEq,Int.reduceLT,Int.reduceLE,Int.reduceAdd,Int.reduceSub,Int.reduceMul,Int.reduceNeg,Int.reduceNe,reduceCtorEq,Int.reduceToNat,↓reduceIte]
  refine PCalls.use (e2) ?_; simp only [wk,if_true,if_false,forall_const,implies_true,ne_eq,eq_self,Nat.reduceEqDiff,Nat.reduceAdd,Nat.reduceMul,Nat.reduceSub,Nat.reduceLeDiff,Nat.reduceLT,Int.reduceEq,Int.reduceLT,Int.reduceLE,Int.reduceAdd,Int.reduceSub,Int.reduceMul,Int.reduceNeg,Int.reduceNe,reduceCtorEq,Int.reduceToNat,↓reduceIte]
  refine PCalls.use (q7) ?_; simp only [wk,if_true,if_false,forall_const,implies_true,ne_eq,eq_self,Nat.reduceEqDiff,Nat.reduceAdd,Nat.reduceMul,Nat.reduceSub,Nat.reduceLeDiff,Nat.reduceLT,Int.reduceEq,Int.reduceLT,Int.reduceLE,Int.reduceAdd,Int.reduceSub,Int.reduceMul,Int.reduceNeg,Int.reduceNe,reduceCtorEq,Int.reduceToNat,↓reduceIte]
  refine PCalls.use (q8) ?_; simp only [wk,if_true,if_false,forall_const,implies_true,ne_eq,eq_self,Nat.reduceEqDiff,Nat.reduceAdd,Nat.reduceMul,Nat.reduceSub,Nat.reduceLeDiff,Nat.reduceLT,Int.reduceEq,Int.reduceLT,Int.reduceLE,Int.reduceAdd,Int.reduceSub,Int.reduceMul,Int.reduceNeg,Int.reduceNe,reduceCtorEq,Int.reduceToNat,↓reduceIte]
  refine PCalls.use (e3) ?_; simp only [wk,if_true,if_false,forall_const,implies_true,ne_eq,eq_self,Nat.reduceEqDiff,Nat.reduceAdd,Nat.reduceMul,Nat.reduceSub,Nat.reduceLeDiff,Nat.reduceLT,Int.reduceEq,Int.reduceLT,Int.reduceLE,Int.reduceAdd,Int.reduceSub,Int.reduceMul,Int.reduceNeg,Int.reduceNe,reduceCtorEq,Int.reduceToNat,↓reduceIte]
  refine PCalls.use (q9) ?_; simp only [wk,if_true,if_false,forall_const,implies_true,ne_eq,eq_self,Nat.reduceEqDiff,Nat.reduceAdd,Nat.reduceMul,Nat.reduceSub,Nat.reduceLeDiff,Nat.reduceLT,Int.reduceEq,Int.reduceLT,Int.reduceLE,Int.reduceAdd,Int.reduceSub,Int.reduceMul,Int.reduceNeg,Int.reduceNe,reduceCtorEq,Int.reduceToNat,↓reduceIte]
  refine PCalls.use (q10) ?_; simp only [wk,if_true,if_false,forall_const,implies_true,ne_eq,eq_self,Nat.reduceEqDiff,Nat.reduceAdd,Nat.reduceMul,Nat.reduceSub,Nat.reduceLeDiff,Nat.reduceLT,Int.reduceEq,Int.reduceLT,Int.reduceLE,Int.reduceAdd,Int.reduceSub,Int.reduceMul,Int.reduceNeg,Int.reduceNe,reduceCtorEq,Int.reduceToNat,↓reduceIte]
  refine PCalls.use (e4) ?_; simp only [wk,if_true,if_false,forall_const,implies_true,ne_eq,eq_self,Nat.reduceEqDiff,Nat.reduceAdd,Nat.reduceMul,Nat.reduceSub,Nat.reduceLeDiff,Nat.reduceLT,Int.reduceEq,Int.reduceLT,Int.reduceLE,Int.reduceAdd,Int.reduceSub,Int.reduceMul,Int.reduceNeg,Int.reduceNe,reduceCtorEq,Int.reduceToNat,↓reduceIte]
  refine ACalls.use q11 ?_
  generalize asE a r = R at q12 l5 e5 hsnd
  obtain ⟨rl, re⟩ := R
  simp only at q12 l5 e5 hsnd
  rintro v h' (⟨h1, rfl, rfl⟩ | ⟨h1, strs, rfl, rfl, h2⟩)
  · have h3 := hsnd h1
    subst h3
    refine PCalls.use (q12) ?_; simp only [wk,if_true,if_false,forall_const,implies_true,ne_eq,eq_self,Nat.reduceEqDiff,Nat.reduceAdd,Nat.reduceMul,Nat.reduceSub,Nat.reduceLeDiff,Nat.reduceLT,Int.reduceEq,Int.reduceLT,Int.reduceLE,Int.reduceAdd,Int.reduceSub,Int.reduceMul,Int.reduceNeg,Int.reduceNe,reduceCtorEq,Int.reduceToNat,↓reduceIte]
    refine ACalls.use (PCalls.lend e5 rfl (.cons (.ro .clip 0 [] rfl) (.cons (.same _ rfl) .nil))) ?_
    rintro _ _ ⟨rfl, rfl⟩
    simp only [wk,if_true,if_false,forall_const,implies_true,ne_eq,eq_self,Nat.reduceEqDiff,Nat.reduceAdd,Nat.reduceMul,Nat.reduceSub,Nat.reduceLeDiff,Nat.reduceLT,Int.reduceEq,Int.reduceLT,Int.reduceLE,Int.reduceAdd,Int.reduceSub,Int.reduceMul,Int.reduceNeg,Int.reduceNe,reduceCtorEq,Int.reduceToNat,↓reduceIte]
    exact makes_loop a b ka kb 0 (by omega) _ _ (.inl rfl)
  · subst h1
    refine PCalls.use (q12) ?_; simp only [wk,if_true,if_false,forall_const,implies_true,ne_eq,eq_self,Nat.reduceEqDiff,Nat.reduceAdd,Nat.reduceMul,Nat.reduceSub,Nat.reduceLeDiff,Nat.reduceLT,Int.reduceEq,Int.reduceLT,Int.reduceLE,Int.reduceAdd,Int.reduceSub,Int.reduceMul,Int.reduceNeg,Int.reduceNe,reduceCtorEq,Int.reduceToNat,↓reduceIte]
    have hsl : rl.length ≤ strs.length := by
      have := congrArg List.length h2
      rw [List.length_take] at this
      simp only at this
      omega
    have hlnd : Lnd [some (false, strs.map AV.str)] (.hsc 0 rl.length rl.length) (.lst .ro rl.length (rl.map .str)) := by
      have := Lnd.hsc (h := [some (false, strs.map AV.str)]) 0 rl.length rl.length rl.length false (strs.map .str) rfl
      rw [← List.map_take, show strs.take rl.length = rl from h2] at this
      exact this (frees_str _) (plains_strs _)
    refine ACalls.use (PCalls.lend e5 rfl (.cons hlnd (.cons (.same _ (by simp [free, frees_str])) .nil))) ?_
    rintro _ _ ⟨rfl, rfl⟩
    simp only [wk,if_true,if_false,forall_const,implies_true,ne_eq,eq_self,Nat.reduceEqDiff,Nat.reduceAdd,Nat.reduceMul,Nat.reduceSub,Nat.reduceLeDiff,Nat.reduceLT,Int.reduceEq,Int.reduceLT,Int.reduceLE,Int.reduceAdd,Int.reduceSub,Int.reduceMul,Int.reduceNeg,Int.reduceNe,reduceCtorEq,Int.reduceToNat,↓reduceIte]
    exact makes_loop a b ka kb rl.length (by omega) _ _ (.inr ⟨rfl, _, rfl, by simpa using hsl⟩)
end Go.Proofs.Ytpiofcjkekpboaa

/- Opening a set that came in. -/
namespace Go.Proofs.Ytpiofcjkekpboaa
set_option linter.unusedSimpArgs false
set_option linter.unusedVariables false
open Go.RowKit Go.Lib Go.ChangeShapes Go.WideShapes Go.ChangeAt

theorem chk_set : chkSh Try.prog 3 56 [.slice [.str]] = true := by kernel_rfl
set_option maxRecDepth 100000 in
theorem open_set {H : Type} {enc : TypeId × Value → H} {W : World} {base : Nat} {v : Value} {d : DataW H} {p : List MemPlace} (hv : Value.okWide Try.prog W .any base 56 v) (h : DataW.Trod enc Try.prog W 0 (fun _ => true) true 56 v d p) :
    ∃ l : List ByteArray, l.length ≤ 9223372036854775807 ∧ Rep (gW W) v (vSt l) := by
  obtain ⟨a, hr, hs⟩ := open_arg1 (n := 3) (sh := .slice [.str]) chk_set hv h (by rw [Try.underlying56]; intro fs hf; cases hf) (by rw [Try.underlying56]; intro k e hf; cases hf)
  obtain ⟨l, hl, rfl, _⟩ := sh_strs hs
  exact ⟨l, hl, hr⟩
end Go.Proofs.Ytpiofcjkekpboaa
