/- And, Quote, As, For of package set. -/
import Derived.Test.YtajpibdchgflnaaSn
import Derived.Test.YtajpibdchgflnaaSw
import Derived.Test.YtajpibdchgflnaaSa
namespace Go.Proofs.Ytajpibdchgflnaa
set_option linter.unusedSimpArgs false
set_option linter.unusedVariables false
open Go.RowKit Go.Lib

theorem setMay_ne {l : List ByteArray} (h : setMay l = true) : l ≠ [] := by
  rintro rfl
  have := (setMay_words h).1.1
  simp at this
theorem p_sand (a b : List ByteArray) (ha : a.length ≤ 10000) (hb : b.length ≤ 10000) (hsa : ∀ x ∈ a, x.size ≤ 1000000) (hsb : ∀ x ∈ b, x.size ≤ 1000000) : PCalls Try.prog 23 [.lst .ro a.length (a.map .str), .lst .ro b.length (b.map .str)] (vSet (andE a b)) := by
  refine pcalls_of (by simp [free, free.frees, frees_str]) (free_vSet _) (ACalls.weak (acalls_of mixed J_set_And_ok (Nat.le_of_ble_eq_true rfl) ?_)); simp only [J_set_And, wk,if_true,if_false,forall_const,implies_true,ne_eq,eq_self,Nat.reduceEqDiff,Nat.reduceAdd,Nat.reduceMul,Nat.reduceSub,Nat.reduceLeDiff,Nat.reduceLT,Int.reduceEq,Int.reduceLT,Int.reduceLE,Int.reduceAdd,Int.reduceSub,Int.reduceMul,Int.reduceNeg,Int.reduceNe,reduceCtorEq,Int.reduceToNat,↓reduceIte]
  refine PCalls.use (p_smay a (by omega) (fun x hx => by have := hsa x hx; omega)) ?_; simp only [wk,if_true,if_false,forall_const,implies_true,ne_eq,eq_self,Nat.reduceEqDiff,Nat.reduceAdd,Nat.reduceMul,Nat.reduceSub,Nat.reduceLeDiff,Nat.reduceLT,Int.reduceEq,Int.reduceLT,Int.reduceLE,Int.reduceAdd,Int.reduceSub,Int.reduceMul,Int.reduceNeg,Int.reduceNe,reduceCtorEq,Int.reduceToNat,↓reduceIte]
  refine ⟨fun hm => ?_, fun hm => by unfold andE; rw [if_pos (.inl hm)]; rfl⟩
  refine PCalls.use (p_smay b (by omega) (fun x hx => by have := hsb x hx; omega)) ?_; simp only [wk,if_true,if_false,forall_const,implies_true,ne_eq,eq_self,Nat.reduceEqDiff,Nat.reduceAdd,Nat.reduceMul,Nat.reduceSub,Nat.reduceLeDiff,Nat.reduceLT,Int.reduceEq,Int.reduceLT,Int.reduceLE,Int.reduceAdd,Int.reduceSub,Int.reduceMul,Int.reduceNeg,Int.reduceNe,reduceCtorEq,Int.reduceToNat,↓reduceIte]
  refine ⟨fun hm2 => by unfold andE; rw [if_pos (.inr hm2)]; rfl, fun hm2 => ?_⟩
  have g1 := setMay_small hm
  have g2 := setMay_small hm2
  refine PCalls.use (p_concat a b (setMay_ne hm) (setMay_ne hm2) (by omega) (by omega)) ?_; simp only [wk,if_true,if_false,forall_const,implies_true,ne_eq,eq_self,Nat.reduceEqDiff,Nat.reduceAdd,Nat.reduceMul,Nat.reduceSub,Nat.reduceLeDiff,Nat.reduceLT,Int.reduceEq,Int.reduceLT,Int.reduceLE,Int.reduceAdd,Int.reduceSub,Int.reduceMul,Int.reduceNeg,Int.reduceNe,reduceCtorEq,Int.reduceToNat,↓reduceIte]
  refine PCalls.use (p_sof (a ++ b) (by simp; omega) (fun x hx => by rcases List.mem_append.1 hx with h | h; exact (by have := hsa x h; omega); exact (by have := hsb x h; omega))) ?_; simp only [wk,if_true,if_false,forall_const,implies_true,ne_eq,eq_self,Nat.reduceEqDiff,Nat.reduceAdd,Nat.reduceMul,Nat.reduceSub,Nat.reduceLeDiff,Nat.reduceLT,Int.reduceEq,Int.reduceLT,Int.reduceLE,Int.reduceAdd,Int.reduceSub,Int.reduceMul,Int.reduceNeg,Int.reduceNe,reduceCtorEq,Int.reduceToNat,↓reduceIte]
  unfold andE
  rw [if_neg (by simp [hm, hm2])]
  simp only [vSet, rod_tup, ro_ro, ro_int, wk,if_true,if_false,forall_const,implies_true,ne_eq,eq_self,Nat.reduceEqDiff,Nat.reduceAdd,Nat.reduceMul,Nat.reduceSub,Nat.reduceLeDiff,Nat.reduceLT,Int.reduceEq,Int.reduceLT,Int.reduceLE,Int.reduceAdd,Int.reduceSub,Int.reduceMul,Int.reduceNeg,Int.reduceNe,reduceCtorEq,Int.reduceToNat,↓reduceIte]
theorem p_quote1 (x y : ByteArray) (h : x.size + y.size ≤ 9223372036854775807) : PCalls Try.prog 68 [.str x, .str y] (.str (x ++ y)) := by
  refine pcalls_of (by first | rfl | simp [free, free.frees, frees_str, frees_u8, frees_u16]) (by first | rfl | simp [free, free.frees, frees_str, frees_u8, frees_u16]) (acalls_of mixed J_set_Quote_1_ok (Nat.le_of_ble_eq_true rfl) ?_); simp only [J_set_Quote_1, wk,if_true,if_false,forall_const,implies_true,ne_eq,eq_self,Nat.reduceEqDiff,Nat.reduceAdd,Nat.reduceMul,Nat.reduceSub,Nat.reduceLeDiff,Nat.reduceLT,Int.reduceEq,Int.reduceLT,Int.reduceLE,Int.reduceAdd,Int.reduceSub,Int.reduceMul,Int.reduceNeg,Int.reduceNe,reduceCtorEq,Int.reduceToNat,↓reduceIte]
  exact h
set_option maxRecDepth 100000 in
set_option maxHeartbeats 2000000 in
theorem p_collect (a b : List ByteArray) (ha : a.length ≤ 16) (hb : b.length ≤ 16) (hsa : ∀ x ∈ a, x.size ≤ 1000000) (hsb : ∀ x ∈ b, x.size ≤ 1000000) :
    PCalls Try.prog 67 [.lst .ro a.length (a.map .str), .lst .ro b.length (b.map .str), .fn 68 []] (.lst .ro (prodW a b).length ((prodW a b).map .str)) := by
  refine pcalls_of (by simp [free, free.frees, frees_str]) (by simp only [free]; exact frees_str _) (ACalls.weak (acalls_of mixed J_set_collect_api_Word_api_Word_ok (Nat.le_of_ble_eq_true rfl) ?_)); simp only [J_set_collect_api_Word_api_Word, wk,if_true,if_false,forall_const,implies_true,ne_eq,eq_self,Nat.reduceEqDiff,Nat.reduceAdd,Nat.reduceMul,Nat.reduceSub,Nat.reduceLeDiff,Nat.reduceLT,Int.reduceEq,Int.reduceLT,Int.reduceLE,Int.reduceAdd,Int.reduceSub,Int.reduceMul,Int.reduceNeg,Int.reduceNe,reduceCtorEq,Int.reduceToNat,↓reduceIte]
  have hmul : a.length * b.length ≤ 256 := Nat.le_trans (Nat.mul_le_mul ha hb) (by decide)
  have hmul' : (a.length : Int) * (b.length : Int) = ((a.length * b.length : Nat) : Int) := by simp
  rw [hmul']
  refine ⟨inR_of (by omega) (by omega), ⟨by omega, by omega, by omega⟩, ?_⟩
  refine W_loop (fun n fr h => ∃ i : Nat, i ≤ a.length ∧ n = a.length - i ∧ h = [] ∧ fr = [(1, .lst .ro b.length (b.map .str)), (2, .fn 68 []), (7, .lst (.own 36) (prodTo a b i 0).length ((prodTo a b i 0).map .str)), (18, .lst .ro a.length (a.map .str)), (19, .int .i64 a.length), (20, .int .i64 i)]) a.length ⟨0, by omega, by omega, rfl, by simp [prodTo_zero, prodW]; rfl⟩ ?_
  rintro n fr h ⟨i, hi, rfl, rfl, rfl⟩
  simp only [J_set_collect_api_Word_api_Word_j4, wk,if_true,if_false,forall_const,implies_true,ne_eq,eq_self,Nat.reduceEqDiff,Nat.reduceAdd,Nat.reduceMul,Nat.reduceSub,Nat.reduceLeDiff,Nat.reduceLT,Int.reduceEq,Int.reduceLT,Int.reduceLE,Int.reduceAdd,Int.reduceSub,Int.reduceMul,Int.reduceNeg,Int.reduceNe,reduceCtorEq,Int.reduceToNat,↓reduceIte]
  refine ⟨fun hlt => ?_, fun hge => ?_⟩
  · have hil : i < a.length := by omega
    have hda : (a.map AV.str).drop (i : Int).toNat = .str a[i] :: (a.map AV.str).drop (i + 1) := by rw [show (i : Int).toNat = i by omega, drop_str hil]
    refine ⟨⟨by omega, by omega⟩, ?_⟩
    simp only [hda, wk,if_true,if_false,forall_const,implies_true,ne_eq,eq_self,Nat.reduceEqDiff,Nat.reduceAdd,Nat.reduceMul,Nat.reduceSub,Nat.reduceLeDiff,Nat.reduceLT,Int.reduceEq,Int.reduceLT,Int.reduceLE,Int.reduceAdd,Int.reduceSub,Int.reduceMul,Int.reduceNeg,Int.reduceNe,reduceCtorEq,Int.reduceToNat,↓reduceIte]
    refine W_loop (fun n fr h => ∃ k : Nat, k ≤ b.length ∧ n = b.length - k ∧ h = [] ∧ fr = [(1, .lst .ro b.length (b.map .str)), (2, .fn 68 []), (7, .lst (.own 36) (prodTo a b i k).length ((prodTo a b i k).map .str)), (9, .str a[i]), (18, .lst .ro a.length (a.map .str)), (19, .int .i64 a.length), (20, .int .i64 i), (24, .lst .ro b.length (b.map .str)), (25, .int .i64 b.length), (26, .int .i64 k)]) b.length ⟨0, by omega, by omega, rfl, rfl⟩ ?_
    rintro n fr h ⟨k, hk, rfl, rfl, rfl⟩
    simp only [J_set_collect_api_Word_api_Word_j3, wk,if_true,if_false,forall_const,implies_true,ne_eq,eq_self,Nat.reduceEqDiff,Nat.reduceAdd,Nat.reduceMul,Nat.reduceSub,Nat.reduceLeDiff,Nat.reduceLT,Int.reduceEq,Int.reduceLT,Int.reduceLE,Int.reduceAdd,Int.reduceSub,Int.reduceMul,Int.reduceNeg,Int.reduceNe,reduceCtorEq,Int.reduceToNat,↓reduceIte]
    refine ⟨fun hlt2 => ?_, fun hge2 => ?_⟩
    · have hkl : k < b.length := by omega
      have hdb : (b.map AV.str).drop (k : Int).toNat = .str b[k] :: (b.map AV.str).drop (k + 1) := by rw [show (k : Int).toNat = k by omega, drop_str hkl]
      have hplen := prodTo_len (a := a) (b := b) (i := i) (k := k) (by omega) (by omega)
      refine ⟨⟨by omega, by omega⟩, ?_⟩
      simp only [hdb, wk,if_true,if_false,forall_const,implies_true,ne_eq,eq_self,Nat.reduceEqDiff,Nat.reduceAdd,Nat.reduceMul,Nat.reduceSub,Nat.reduceLeDiff,Nat.reduceLT,Int.reduceEq,Int.reduceLT,Int.reduceLE,Int.reduceAdd,Int.reduceSub,Int.reduceMul,Int.reduceNeg,Int.reduceNe,reduceCtorEq,Int.reduceToNat,↓reduceIte]
      have z1 := hsa a[i] (List.getElem_mem hil)
      have z2 := hsb b[k] (List.getElem_mem hkl)
      refine PCalls.use (p_quote1 a[i] b[k] (by omega)) ?_; simp only [wk,if_true,if_false,forall_const,implies_true,ne_eq,eq_self,Nat.reduceEqDiff,Nat.reduceAdd,Nat.reduceMul,Nat.reduceSub,Nat.reduceLeDiff,Nat.reduceLT,Int.reduceEq,Int.reduceLT,Int.reduceLE,Int.reduceAdd,Int.reduceSub,Int.reduceMul,Int.reduceNeg,Int.reduceNe,reduceCtorEq,Int.reduceToNat,↓reduceIte]
      refine ⟨⟨by omega, by omega⟩, inR_of (by omega) (by omega), b.length - (k + 1), by omega, k + 1, by omega, rfl, ?_⟩
      rw [prodTo_succ hil hkl]; simp
    · obtain rfl : k = b.length := by omega
      simp only [J_set_collect_api_Word_api_Word_j2, wk,if_true,if_false,forall_const,implies_true,ne_eq,eq_self,Nat.reduceEqDiff,Nat.reduceAdd,Nat.reduceMul,Nat.reduceSub,Nat.reduceLeDiff,Nat.reduceLT,Int.reduceEq,Int.reduceLT,Int.reduceLE,Int.reduceAdd,Int.reduceSub,Int.reduceMul,Int.reduceNeg,Int.reduceNe,reduceCtorEq,Int.reduceToNat,↓reduceIte]
      refine ⟨inR_of (by omega) (by omega), a.length - (i + 1), by omega, i + 1, by omega, rfl, ?_⟩
      rw [prodTo_zero, ← prodTo_next hil]
      rfl
  · obtain rfl : i = a.length := by omega
    rw [prodTo_zero, List.take_length]
    simp only [J_set_collect_api_Word_api_Word_j1, wk,if_true,if_false,forall_const,implies_true,ne_eq,eq_self,Nat.reduceEqDiff,Nat.reduceAdd,Nat.reduceMul,Nat.reduceSub,Nat.reduceLeDiff,Nat.reduceLT,Int.reduceEq,Int.reduceLT,Int.reduceLE,Int.reduceAdd,Int.reduceSub,Int.reduceMul,Int.reduceNeg,Int.reduceNe,reduceCtorEq,Int.reduceToNat,↓reduceIte]
    exact ro_ro _ _
theorem wsize_app {x y : ByteArray} : (x ++ y).size = x.size + y.size := ByteArray.size_append
set_option maxRecDepth 100000 in
set_option maxHeartbeats 2000000 in
theorem p_squote (a b : List ByteArray) (ha : a.length ≤ 10000) (hb : b.length ≤ 10000) (hsa : ∀ x ∈ a, x.size ≤ 1000000) (hsb : ∀ x ∈ b, x.size ≤ 1000000) : PCalls Try.prog 25 [.lst .ro a.length (a.map .str), .lst .ro b.length (b.map .str)] (vSet (quoteE a b)) := by
  refine pcalls_of (by simp [free, free.frees, frees_str]) (free_vSet _) (ACalls.weak (acalls_of mixed J_set_Quote_ok (Nat.le_of_ble_eq_true rfl) ?_)); simp only [J_set_Quote, wk,if_true,if_false,forall_const,implies_true,ne_eq,eq_self,Nat.reduceEqDiff,Nat.reduceAdd,Nat.reduceMul,Nat.reduceSub,Nat.reduceLeDiff,Nat.reduceLT,Int.reduceEq,Int.reduceLT,Int.reduceLE,Int.reduceAdd,Int.reduceSub,Int.reduceMul,Int.reduceNeg,Int.reduceNe,reduceCtorEq,Int.reduceToNat,↓reduceIte]
  refine PCalls.use (p_smay a (by omega) (fun x hx => by have := hsa x hx; omega)) ?_; simp only [wk,if_true,if_false,forall_const,implies_true,ne_eq,eq_self,Nat.reduceEqDiff,Nat.reduceAdd,Nat.reduceMul,Nat.reduceSub,Nat.reduceLeDiff,Nat.reduceLT,Int.reduceEq,Int.reduceLT,Int.reduceLE,Int.reduceAdd,Int.reduceSub,Int.reduceMul,Int.reduceNeg,Int.reduceNe,reduceCtorEq,Int.reduceToNat,↓reduceIte]
  refine ⟨fun hm => ?_, fun hm => by unfold quoteE; rw [if_pos (.inl hm)]; rfl⟩
  refine PCalls.use (p_smay b (by omega) (fun x hx => by have := hsb x hx; omega)) ?_; simp only [wk,if_true,if_false,forall_const,implies_true,ne_eq,eq_self,Nat.reduceEqDiff,Nat.reduceAdd,Nat.reduceMul,Nat.reduceSub,Nat.reduceLeDiff,Nat.reduceLT,Int.reduceEq,Int.reduceLT,Int.reduceLE,Int.reduceAdd,Int.reduceSub,Int.reduceMul,Int.reduceNeg,Int.reduceNe,reduceCtorEq,Int.reduceToNat,↓reduceIte]
  refine ⟨fun hm2 => by unfold quoteE; rw [if_pos (.inr hm2)]; rfl, fun hm2 => ?_⟩
  have g1 := setMay_small hm
  have g2 := setMay_small hm2
  refine PCalls.use (p_collect a b g1.1 g2.1 hsa hsb) ?_; simp only [wk,if_true,if_false,forall_const,implies_true,ne_eq,eq_self,Nat.reduceEqDiff,Nat.reduceAdd,Nat.reduceMul,Nat.reduceSub,Nat.reduceLeDiff,Nat.reduceLT,Int.reduceEq,Int.reduceLT,Int.reduceLE,Int.reduceAdd,Int.reduceSub,Int.reduceMul,Int.reduceNeg,Int.reduceNe,reduceCtorEq,Int.reduceToNat,↓reduceIte]
  have hpl : (prodW a b).length ≤ 272 := by
    have := prodTo_len (a := a) (b := b) (i := a.length) (k := 0) (by omega) (by omega)
    rwa [prodTo_zero, List.take_length] at this
  have hps : ∀ w ∈ prodW a b, w.size ≤ 32 := by
    intro w hw
    obtain ⟨x, hx, y, hy, rfl⟩ := mem_prodW.1 hw
    have := g1.2 x hx; have := g2.2 y hy
    rw [wsize_app]; omega
  refine W_loop (fun n fr h => ∃ i : Nat, i ≤ (prodW a b).length ∧ n = (prodW a b).length - i ∧ fr = [(6, .lst .ro (prodW a b).length ((prodW a b).map .str)), (20, .lst .ro (prodW a b).length ((prodW a b).map .str)), (21, .int .i64 (prodW a b).length), (22, .int .i64 i)] ∧ ∀ w ∈ (prodW a b).take i, w.size / 2 ≤ 8) (prodW a b).length ⟨0, by omega, by omega, rfl, by simp⟩ ?_
  rintro n fr h ⟨i, hi, rfl, rfl, hfit⟩
  simp only [J_set_Quote_j2, wk,if_true,if_false,forall_const,implies_true,ne_eq,eq_self,Nat.reduceEqDiff,Nat.reduceAdd,Nat.reduceMul,Nat.reduceSub,Nat.reduceLeDiff,Nat.reduceLT,Int.reduceEq,Int.reduceLT,Int.reduceLE,Int.reduceAdd,Int.reduceSub,Int.reduceMul,Int.reduceNeg,Int.reduceNe,reduceCtorEq,Int.reduceToNat,↓reduceIte]
  refine ⟨fun hlt => ?_, fun hge => ?_⟩
  · have hil : i < (prodW a b).length := by omega
    have hda : ((prodW a b).map AV.str).drop (i : Int).toNat = .str (prodW a b)[i] :: ((prodW a b).map AV.str).drop (i + 1) := by rw [show (i : Int).toNat = i by omega, drop_str hil]
    refine ⟨⟨by omega, by omega⟩, ?_⟩
    simp only [hda, wk,if_true,if_false,forall_const,implies_true,ne_eq,eq_self,Nat.reduceEqDiff,Nat.reduceAdd,Nat.reduceMul,Nat.reduceSub,Nat.reduceLeDiff,Nat.reduceLT,Int.reduceEq,Int.reduceLT,Int.reduceLE,Int.reduceAdd,Int.reduceSub,Int.reduceMul,Int.reduceNeg,Int.reduceNe,reduceCtorEq,Int.reduceToNat,↓reduceIte]
    have z := hps _ (List.getElem_mem hil)
    refine PCalls.use (p_wlen (prodW a b)[i] (by omega)) ?_; simp only [wk,if_true,if_false,forall_const,implies_true,ne_eq,eq_self,Nat.reduceEqDiff,Nat.reduceAdd,Nat.reduceMul,Nat.reduceSub,Nat.reduceLeDiff,Nat.reduceLT,Int.reduceEq,Int.reduceLT,Int.reduceLE,Int.reduceAdd,Int.reduceSub,Int.reduceMul,Int.reduceNeg,Int.reduceNe,reduceCtorEq,Int.reduceToNat,↓reduceIte]
    refine ⟨fun h8 => ?_, fun h8 => ?_⟩
    · have : quoteE a b = ([], 4) := by
        unfold quoteE
        rw [if_neg (by simp [hm, hm2]), if_pos]
        rw [List.any_eq_true]
        exact ⟨_, List.getElem_mem hil, by simp; omega⟩
      rw [this]; rfl
    · refine ⟨inR_of (by omega) (by omega), (prodW a b).length - (i + 1), by omega, i + 1, by omega, rfl, rfl, fun w hw => ?_⟩
      rw [List.take_succ_eq_append_getElem hil, List.mem_append] at hw
      rcases hw with hw | hw
      · exact hfit w hw
      · simp at hw; subst hw; omega
  · rw [List.take_of_length_le (by omega)] at hfit
    simp only [J_set_Quote_j1, wk,if_true,if_false,forall_const,implies_true,ne_eq,eq_self,Nat.reduceEqDiff,Nat.reduceAdd,Nat.reduceMul,Nat.reduceSub,Nat.reduceLeDiff,Nat.reduceLT,Int.reduceEq,Int.reduceLT,Int.reduceLE,Int.reduceAdd,Int.reduceSub,Int.reduceMul,Int.reduceNeg,Int.reduceNe,reduceCtorEq,Int.reduceToNat,↓reduceIte]
    refine PCalls.use (p_sof (prodW a b) (by omega) (fun w hw => by have := hps w hw; omega)) ?_; simp only [wk,if_true,if_false,forall_const,implies_true,ne_eq,eq_self,Nat.reduceEqDiff,Nat.reduceAdd,Nat.reduceMul,Nat.reduceSub,Nat.reduceLeDiff,Nat.reduceLT,Int.reduceEq,Int.reduceLT,Int.reduceLE,Int.reduceAdd,Int.reduceSub,Int.reduceMul,Int.reduceNeg,Int.reduceNe,reduceCtorEq,Int.reduceToNat,↓reduceIte]
    have e : quoteE a b = ofE (prodW a b) := by
      unfold quoteE
      rw [if_neg (by simp [hm, hm2]), if_neg]
      rw [List.any_eq_true]
      rintro ⟨w, hw, h1⟩
      have := hfit w hw
      simp only [decide_eq_true_eq] at h1
      omega
    rw [e]
    simp only [vSet, rod_tup, ro_ro, ro_int, wk,if_true,if_false,forall_const,implies_true,ne_eq,eq_self,Nat.reduceEqDiff,Nat.reduceAdd,Nat.reduceMul,Nat.reduceSub,Nat.reduceLeDiff,Nat.reduceLT,Int.reduceEq,Int.reduceLT,Int.reduceLE,Int.reduceAdd,Int.reduceSub,Int.reduceMul,Int.reduceNeg,Int.reduceNe,reduceCtorEq,Int.reduceToNat,↓reduceIte]
theorem p_sas (a : List ByteArray) (r : Nat) (hr : r < 65536) (ha : a.length ≤ 10000) (hsa : ∀ x ∈ a, x.size ≤ 1000000) : PCalls Try.prog 29 [.lst .ro a.length (a.map .str), .int .u16 r] (vSet (asE a r)) := by
  refine pcalls_of (by simp [free, free.frees, frees_str]) (free_vSet _) (ACalls.weak (acalls_of mixed J_set_As_ok (Nat.le_of_ble_eq_true rfl) ?_)); simp only [J_set_As, wk,if_true,if_false,forall_const,implies_true,ne_eq,eq_self,Nat.reduceEqDiff,Nat.reduceAdd,Nat.reduceMul,Nat.reduceSub,Nat.reduceLeDiff,Nat.reduceLT,Int.reduceEq,Int.reduceLT,Int.reduceLE,Int.reduceAdd,Int.reduceSub,Int.reduceMul,Int.reduceNeg,Int.reduceNe,reduceCtorEq,Int.reduceToNat,↓reduceIte]
  refine PCalls.use (p_smay a (by omega) (fun x hx => by have := hsa x hx; omega)) ?_; simp only [wk,if_true,if_false,forall_const,implies_true,ne_eq,eq_self,Nat.reduceEqDiff,Nat.reduceAdd,Nat.reduceMul,Nat.reduceSub,Nat.reduceLeDiff,Nat.reduceLT,Int.reduceEq,Int.reduceLT,Int.reduceLE,Int.reduceAdd,Int.reduceSub,Int.reduceMul,Int.reduceNeg,Int.reduceNe,reduceCtorEq,Int.reduceToNat,↓reduceIte]
  refine ⟨fun hm => by unfold asE; rw [if_pos hm]; rfl, fun hm => ?_⟩
  have hw : IntKind.wrap .i64 (r : Int) = r := by rw [IntKind.wrap_i64]; omega
  have hd : (r : Int).tdiv 8192 = ((r / 8192 : Nat) : Int) := by rw [Int.tdiv_eq_ediv_of_nonneg (by omega)]; omega
  rw [hw, hd]
  refine ⟨inR_of (by omega) (by omega), fun h1 => ?_, fun h1 => ?_⟩
  · unfold asE; rw [if_neg (by simp [hm]), if_neg (by omega)]; rfl
  · refine PCalls.use (p_wof [r] (by simp) (by simpa using hr)) ?_; simp only [wk,if_true,if_false,forall_const,implies_true,ne_eq,eq_self,Nat.reduceEqDiff,Nat.reduceAdd,Nat.reduceMul,Nat.reduceSub,Nat.reduceLeDiff,Nat.reduceLT,Int.reduceEq,Int.reduceLT,Int.reduceLE,Int.reduceAdd,Int.reduceSub,Int.reduceMul,Int.reduceNeg,Int.reduceNe,reduceCtorEq,Int.reduceToNat,↓reduceIte]
    rw [atomBytes_one]
    refine PCalls.use (p_squote a [atomW r] ha (by simp) hsa (by intro x hx; simp at hx; subst hx; have : (atomW r).size = 2 := rfl; omega)) ?_; simp only [wk,if_true,if_false,forall_const,implies_true,ne_eq,eq_self,Nat.reduceEqDiff,Nat.reduceAdd,Nat.reduceMul,Nat.reduceSub,Nat.reduceLeDiff,Nat.reduceLT,Int.reduceEq,Int.reduceLT,Int.reduceLE,Int.reduceAdd,Int.reduceSub,Int.reduceMul,Int.reduceNeg,Int.reduceNe,reduceCtorEq,Int.reduceToNat,↓reduceIte]
    unfold asE; rw [if_neg (by simp [hm]), if_pos (by omega)]
    simp only [vSet, rod_tup, ro_ro, ro_int, wk,if_true,if_false,forall_const,implies_true,ne_eq,eq_self,Nat.reduceEqDiff,Nat.reduceAdd,Nat.reduceMul,Nat.reduceSub,Nat.reduceLeDiff,Nat.reduceLT,Int.reduceEq,Int.reduceLT,Int.reduceLE,Int.reduceAdd,Int.reduceSub,Int.reduceMul,Int.reduceNeg,Int.reduceNe,reduceCtorEq,Int.reduceToNat,↓reduceIte]
theorem p_sfor (a b : List ByteArray) (ha : a.length ≤ 10000) (hb : b.length ≤ 10000) (hsa : ∀ x ∈ a, x.size ≤ 1000000) (hsb : ∀ x ∈ b, x.size ≤ 1000000) : PCalls Try.prog 27 [.lst .ro a.length (a.map .str), .lst .ro b.length (b.map .str)] (vSet (forE a b)) := by
  refine pcalls_of (by simp [free, free.frees, frees_str]) (free_vSet _) (ACalls.weak (acalls_of mixed J_set_For_ok (Nat.le_of_ble_eq_true rfl) ?_)); simp only [J_set_For, wk,if_true,if_false,forall_const,implies_true,ne_eq,eq_self,Nat.reduceEqDiff,Nat.reduceAdd,Nat.reduceMul,Nat.reduceSub,Nat.reduceLeDiff,Nat.reduceLT,Int.reduceEq,Int.reduceLT,Int.reduceLE,Int.reduceAdd,Int.reduceSub,Int.reduceMul,Int.reduceNeg,Int.reduceNe,reduceCtorEq,Int.reduceToNat,↓reduceIte]
  refine PCalls.use (p_squote a b ha hb hsa hsb) ?_; simp only [wk,if_true,if_false,forall_const,implies_true,ne_eq,eq_self,Nat.reduceEqDiff,Nat.reduceAdd,Nat.reduceMul,Nat.reduceSub,Nat.reduceLeDiff,Nat.reduceLT,Int.reduceEq,Int.reduceLT,Int.reduceLE,Int.reduceAdd,Int.reduceSub,Int.reduceMul,Int.reduceNeg,Int.reduceNe,reduceCtorEq,Int.reduceToNat,↓reduceIte]
  simp only [vSet, wk,if_true,if_false,forall_const,implies_true,ne_eq,eq_self,Nat.reduceEqDiff,Nat.reduceAdd,Nat.reduceMul,Nat.reduceSub,Nat.reduceLeDiff,Nat.reduceLT,Int.reduceEq,Int.reduceLT,Int.reduceLE,Int.reduceAdd,Int.reduceSub,Int.reduceMul,Int.reduceNeg,Int.reduceNe,reduceCtorEq,Int.reduceToNat,↓reduceIte]
  refine ⟨fun hne => ?_, fun h0 => ?_⟩
  · unfold forE; rw [if_neg hne]; rfl
  · refine PCalls.use (p_wof [1] (by simp) (by simp)) ?_; simp only [wk,if_true,if_false,forall_const,implies_true,ne_eq,eq_self,Nat.reduceEqDiff,Nat.reduceAdd,Nat.reduceMul,Nat.reduceSub,Nat.reduceLeDiff,Nat.reduceLT,Int.reduceEq,Int.reduceLT,Int.reduceLE,Int.reduceAdd,Int.reduceSub,Int.reduceMul,Int.reduceNeg,Int.reduceNe,reduceCtorEq,Int.reduceToNat,↓reduceIte]
    rw [atomBytes_one]
    refine PCalls.use (p_squote [atomW 1] b (by simp) hb (by intro x hx; simp at hx; subst hx; have : (atomW 1).size = 2 := rfl; omega) hsb) ?_; simp only [wk,if_true,if_false,forall_const,implies_true,ne_eq,eq_self,Nat.reduceEqDiff,Nat.reduceAdd,Nat.reduceMul,Nat.reduceSub,Nat.reduceLeDiff,Nat.reduceLT,Int.reduceEq,Int.reduceLT,Int.reduceLE,Int.reduceAdd,Int.reduceSub,Int.reduceMul,Int.reduceNeg,Int.reduceNe,reduceCtorEq,Int.reduceToNat,↓reduceIte]
    simp only [vSet, wk,if_true,if_false,forall_const,implies_true,ne_eq,eq_self,Nat.reduceEqDiff,Nat.reduceAdd,Nat.reduceMul,Nat.reduceSub,Nat.reduceLeDiff,Nat.reduceLT,Int.reduceEq,Int.reduceLT,Int.reduceLE,Int.reduceAdd,Int.reduceSub,Int.reduceMul,Int.reduceNeg,Int.reduceNe,reduceCtorEq,Int.reduceToNat,↓reduceIte]
    refine ⟨fun hne => ?_, fun h1 => ?_⟩
    · unfold forE; rw [if_pos h0, if_neg hne]; rfl
    · have g1 := setMay_small (quoteE_good h0)
      have g2 := setMay_small (quoteE_good h1)
      refine PCalls.use (p_sand (quoteE a b).1 (quoteE [atomW 1] b).1 (by omega) (by omega) (fun x hx => by have := g1.2 x hx; omega) (fun x hx => by have := g2.2 x hx; omega)) ?_; simp only [wk,if_true,if_false,forall_const,implies_true,ne_eq,eq_self,Nat.reduceEqDiff,Nat.reduceAdd,Nat.reduceMul,Nat.reduceSub,Nat.reduceLeDiff,Nat.reduceLT,Int.reduceEq,Int.reduceLT,Int.reduceLE,Int.reduceAdd,Int.reduceSub,Int.reduceMul,Int.reduceNeg,Int.reduceNe,reduceCtorEq,Int.reduceToNat,↓reduceIte]
      unfold forE; rw [if_pos h0, if_pos h1]
      simp only [vSet, rod_tup, ro_ro, ro_int, wk,if_true,if_false,forall_const,implies_true,ne_eq,eq_self,Nat.reduceEqDiff,Nat.reduceAdd,Nat.reduceMul,Nat.reduceSub,Nat.reduceLeDiff,Nat.reduceLT,Int.reduceEq,Int.reduceLT,Int.reduceLE,Int.reduceAdd,Int.reduceSub,Int.reduceMul,Int.reduceNeg,Int.reduceNe,reduceCtorEq,Int.reduceToNat,↓reduceIte]
end Go.Proofs.Ytajpibdchgflnaa
