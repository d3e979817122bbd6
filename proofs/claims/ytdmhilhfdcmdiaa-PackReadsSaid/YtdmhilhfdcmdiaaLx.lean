/- PackReads over the abstract code. -/
import Derived.Test.YtdmhilhfdcmdiaaPr
import Derived.Test.YtdmhilhfdcmdiaaAk
-- fast
namespace Go.Proofs.Ytdmhilhfdcmdiaa
set_option linter.unusedSimpArgs false
set_option linter.unusedVariables false
open Go.RowKit Go.Lib

theorem item_at {l : List Item} {i : Nat} (h : i < l.length) : 5 ≤ ((itemsAV l).drop ((i : Int).toNat * 5)).length ∧ ((itemsAV l).drop ((i : Int).toNat * 5)).take 5 = itemAV l[i] := by
  rw [show (i : Int).toNat = i by omega, items_drop h, List.length_append]
  exact ⟨by simp [itemAV], by simp [itemAV]⟩
theorem item_deg (x : Item) : (itemAV x).map deg = itemAV x := rfl
theorem stO_pair {α : Type} (R : Option (α × Nat)) (q q' : Nat) : ∃ b x y, stO R q = (b, x) ∧ stO R q' = (b, y) ∧ (b = false → x = y) ∧ (x = q ∨ ∃ z, R = some (z, x)) ∧ (y = q' ∨ ∃ z, R = some (z, y)) := by
  cases R with
  | none => exact ⟨true, q, q', rfl, rfl, fun h => (nomatch h), .inl rfl, .inl rfl⟩
  | some x => obtain ⟨a, p⟩ := x; exact ⟨false, p, p, rfl, rfl, fun _ => rfl, .inr ⟨a, rfl⟩, .inr ⟨a, rfl⟩⟩
theorem vI_int (R : Option (Nat × Nat)) : ∃ z, vI R = .int .i64 z := by cases R <;> exact ⟨_, rfl⟩
theorem vL_lst (R : Option (List ByteArray × Nat)) : ∃ f l, vL R = .lst f l.length (l.map .str) ∧ (f = .ro ∨ f = .clip) ∧ (∀ x q, R = some (x, q) → x = l) ∧ (R = none → l = []) := by
  cases R with
  | none => exact ⟨.clip, [], rfl, .inr rfl, fun _ _ h => (nomatch h), fun _ => rfl⟩
  | some x => exact ⟨.ro, x.1, rfl, .inl rfl, fun _ _ h => by cases h; rfl, fun h => (nomatch h)⟩
theorem p_requal' (f : Fl) (hf : f = .ro ∨ f = .clip) (a : List ByteArray) (ha : a.length ≤ 9223372036854775807) : PCalls Try.prog 32 [.lst f a.length (a.map .str), .lst f a.length (a.map .str)] (.bool true) := by
  refine PCalls.ro ?_
  have := p_requal a a ha
  rw [decide_eq_true rfl] at this
  rcases hf with rfl | rfl <;> exact this
set_option maxRecDepth 100000 in
set_option maxHeartbeats 4000000 in
theorem a_reads (S : ByteArray) (l : List Item) (hl : l.length ≤ 9223372036854775807) : ACalls Try.prog 4 [.str S, .lst .ro l.length (itemsAV l)] [] (fun a _ => a = .bool true) := by
  refine acalls_of mixed J_law07_PackReads_ok (Nat.le_of_ble_eq_true rfl) ?_; simp only [J_law07_PackReads, wk,if_true,if_false,forall_const,implies_true,ne_eq,eq_self,Nat.reduceEqDiff,Nat.reduceAdd,Nat.reduceMul,Nat.reduceSub,Nat.reduceLeDiff,Nat.reduceLT,Int.reduceEq,Int.reduceLT,Int.reduceLE,Int.reduceAdd,Int.reduceSub,Int.reduceMul,Int.reduceNeg,Int.reduceNe,reduceCtorEq,Int.reduceToNat,↓reduceIte]
  refine PCalls.use (p_awake) ?_; simp only [wk,if_true,if_false,forall_const,implies_true,ne_eq,eq_self,Nat.reduceEqDiff,Nat.reduceAdd,Nat.reduceMul,Nat.reduceSub,Nat.reduceLeDiff,Nat.reduceLT,Int.reduceEq,Int.reduceLT,Int.reduceLE,Int.reduceAdd,Int.reduceSub,Int.reduceMul,Int.reduceNeg,Int.reduceNe,reduceCtorEq,Int.reduceToNat,↓reduceIte]
  intro hsz
  refine ACalls.use (a_from S) ?_; rintro _ _ ⟨rfl, rfl⟩; simp only [wk,if_true,if_false,forall_const,implies_true,ne_eq,eq_self,Nat.reduceEqDiff,Nat.reduceAdd,Nat.reduceMul,Nat.reduceSub,Nat.reduceLeDiff,Nat.reduceLT,Int.reduceEq,Int.reduceLT,Int.reduceLE,Int.reduceAdd,Int.reduceSub,Int.reduceMul,Int.reduceNeg,Int.reduceNe,reduceCtorEq,Int.reduceToNat,↓reduceIte]
  refine W_loop (fun n fr h => ∃ (i p p' : Nat) (bad : Bool) (rest : Hp), i ≤ l.length ∧ i ≤ 100 ∧ n = 100 - i ∧ p ≤ S.size ∧ p' ≤ S.size ∧ (bad = false → p = p') ∧ fr = [(1, .lst .ro l.length (itemsAV l)), (5, .ptr 0 0), (6, .ptr 1 0), (7, .int .i64 i)] ∧ h = iObj S (bad, p) :: jObj S (bad, p') :: rest) 100 ⟨0, 0, 0, false, [], by omega, by omega, rfl, by omega, by omega, fun _ => rfl, rfl, rfl⟩ ?_
  rintro n fr h ⟨i, p, p', bad, rest, hi, hi100, rfl, hp, hp', hpp, rfl, rfl⟩
  have hleft : ∀ {b : Bool} {x y : Nat}, (b = false → x = y) → (if b = true then (0 : Int) else ((S.size - x : Nat) : Int)) = (if b = true then (0 : Int) else ((S.size - y : Nat) : Int)) := by
    intro b x y h
    cases b with
    | true => rfl
    | false => rw [h rfl]
  have hend : ∀ Q, (∀ fr h, ev fr (.t 4) = some (.bool true) → Q .ret fr h) → ∀ fr0, restr [5, 6] fr0 = [(5, .ptr 0 0), (6, .ptr 1 0)] → W Try.prog J_law07_PackReads_j1 fr0 (iObj S (bad, p) :: jObj S (bad, p') :: rest) Q := by
    intro Q hQ fr0 hf0
    simp only [J_law07_PackReads_j1, W_keep]
    rw [hf0]
    simp only [wk,if_true,if_false,forall_const,implies_true,ne_eq,eq_self,Nat.reduceEqDiff,Nat.reduceAdd,Nat.reduceMul,Nat.reduceSub,Nat.reduceLeDiff,Nat.reduceLT,Int.reduceEq,Int.reduceLT,Int.reduceLE,Int.reduceAdd,Int.reduceSub,Int.reduceMul,Int.reduceNeg,Int.reduceNe,reduceCtorEq,Int.reduceToNat,↓reduceIte]
    refine ACalls.use (a_idone (S := S) (s := (bad, p)) rfl (by omega) hp) ?_; rintro _ _ ⟨rfl, rfl⟩; simp only [wk,if_true,if_false,forall_const,implies_true,ne_eq,eq_self,Nat.reduceEqDiff,Nat.reduceAdd,Nat.reduceMul,Nat.reduceSub,Nat.reduceLeDiff,Nat.reduceLT,Int.reduceEq,Int.reduceLT,Int.reduceLE,Int.reduceAdd,Int.reduceSub,Int.reduceMul,Int.reduceNeg,Int.reduceNe,reduceCtorEq,Int.reduceToNat,↓reduceIte]
    refine ACalls.use (r_idone (S := S) (s := (bad, p')) rfl (by omega) hp') ?_; rintro _ _ ⟨rfl, rfl⟩; simp only [wk,if_true,if_false,forall_const,implies_true,ne_eq,eq_self,Nat.reduceEqDiff,Nat.reduceAdd,Nat.reduceMul,Nat.reduceSub,Nat.reduceLeDiff,Nat.reduceLT,Int.reduceEq,Int.reduceLT,Int.reduceLE,Int.reduceAdd,Int.reduceSub,Int.reduceMul,Int.reduceNeg,Int.reduceNe,reduceCtorEq,Int.reduceToNat,↓reduceIte]
    have e : (bad || decide (p' < S.size)) = (bad || decide (p < S.size)) := by cases bad with
      | true => rfl
      | false => rw [hpp rfl]
    rw [e]
    simp only [wk,if_true,if_false,forall_const,implies_true,ne_eq,eq_self,Nat.reduceEqDiff,Nat.reduceAdd,Nat.reduceMul,Nat.reduceSub,Nat.reduceLeDiff,Nat.reduceLT,Int.reduceEq,Int.reduceLT,Int.reduceLE,Int.reduceAdd,Int.reduceSub,Int.reduceMul,Int.reduceNeg,Int.reduceNe,reduceCtorEq,Int.reduceToNat,↓reduceIte]
    refine ACalls.use (a_left (S := S) (s := (bad || decide (p < S.size), p)) rfl (by omega) hp) ?_; rintro _ _ ⟨rfl, rfl⟩; simp only [wk,if_true,if_false,forall_const,implies_true,ne_eq,eq_self,Nat.reduceEqDiff,Nat.reduceAdd,Nat.reduceMul,Nat.reduceSub,Nat.reduceLeDiff,Nat.reduceLT,Int.reduceEq,Int.reduceLT,Int.reduceLE,Int.reduceAdd,Int.reduceSub,Int.reduceMul,Int.reduceNeg,Int.reduceNe,reduceCtorEq,Int.reduceToNat,↓reduceIte]
    refine ACalls.use (r_left (S := S) (s := (bad || decide (p < S.size), p')) rfl (by omega) hp') ?_; rintro _ _ ⟨rfl, rfl⟩; simp only [wk,if_true,if_false,forall_const,implies_true,ne_eq,eq_self,Nat.reduceEqDiff,Nat.reduceAdd,Nat.reduceMul,Nat.reduceSub,Nat.reduceLeDiff,Nat.reduceLT,Int.reduceEq,Int.reduceLT,Int.reduceLE,Int.reduceAdd,Int.reduceSub,Int.reduceMul,Int.reduceNeg,Int.reduceNe,reduceCtorEq,Int.reduceToNat,↓reduceIte]
    rw [hleft (b := bad || decide (p < S.size)) (x := p) (y := p') (fun hb => hpp (by cases bad; rfl; cases hb))]
    simp only [wk,if_true,if_false,forall_const,implies_true,ne_eq,eq_self,Nat.reduceEqDiff,Nat.reduceAdd,Nat.reduceMul,Nat.reduceSub,Nat.reduceLeDiff,Nat.reduceLT,Int.reduceEq,Int.reduceLT,Int.reduceLE,Int.reduceAdd,Int.reduceSub,Int.reduceMul,Int.reduceNeg,Int.reduceNe,reduceCtorEq,Int.reduceToNat,↓reduceIte]
    exact hQ _ _ (by rfl)
  by_cases hc : i < l.length ∧ i < 100
  · obtain ⟨hil, h100⟩ := hc
    have hit := item_at hil
    have h0 : (0 ≤ (i : Int)) = True := eq_true (by omega)
    have hlt' : ((i : Int) < (l.length : Int)) = True := eq_true (by omega)
    have h100' : ((i : Int) < 100) = True := eq_true (by omega)
    have hgo : ∀ (b : Bool) (x y : Nat) (r : Hp) (Q : Exit → Fr → Hp → Prop), x ≤ S.size → y ≤ S.size → (b = false → x = y) → (∀ fr, restr [1, 5, 6, 7] fr = [(1, .lst .ro l.length (itemsAV l)), (5, .ptr 0 0), (6, .ptr 1 0), (7, .int .i64 i)] → Q .normal fr (iObj S (b, x) :: jObj S (b, y) :: r)) → ∀ fr0, restr [1, 5, 6, 7] fr0 = [(1, .lst .ro l.length (itemsAV l)), (5, .ptr 0 0), (6, .ptr 1 0), (7, .int .i64 i)] → W Try.prog J_law07_PackReads_j2 fr0 (iObj S (b, x) :: jObj S (b, y) :: r) Q := by
      intro b x y r Q hx hy hxy hQ fr0 hf0
      simp only [J_law07_PackReads_j2, W_keep]
      rw [hf0]
      simp only [wk,if_true,if_false,forall_const,implies_true,ne_eq,eq_self,Nat.reduceEqDiff,Nat.reduceAdd,Nat.reduceMul,Nat.reduceSub,Nat.reduceLeDiff,Nat.reduceLT,Int.reduceEq,Int.reduceLT,Int.reduceLE,Int.reduceAdd,Int.reduceSub,Int.reduceMul,Int.reduceNeg,Int.reduceNe,reduceCtorEq,Int.reduceToNat,↓reduceIte]
      refine ACalls.use (a_left (S := S) (s := (b, x)) rfl (by omega) hx) ?_; rintro _ _ ⟨rfl, rfl⟩; simp only [wk,if_true,if_false,forall_const,implies_true,ne_eq,eq_self,Nat.reduceEqDiff,Nat.reduceAdd,Nat.reduceMul,Nat.reduceSub,Nat.reduceLeDiff,Nat.reduceLT,Int.reduceEq,Int.reduceLT,Int.reduceLE,Int.reduceAdd,Int.reduceSub,Int.reduceMul,Int.reduceNeg,Int.reduceNe,reduceCtorEq,Int.reduceToNat,↓reduceIte]
      refine ACalls.use (r_left (S := S) (s := (b, y)) rfl (by omega) hy) ?_; rintro _ _ ⟨rfl, rfl⟩; simp only [wk,if_true,if_false,forall_const,implies_true,ne_eq,eq_self,Nat.reduceEqDiff,Nat.reduceAdd,Nat.reduceMul,Nat.reduceSub,Nat.reduceLeDiff,Nat.reduceLT,Int.reduceEq,Int.reduceLT,Int.reduceLE,Int.reduceAdd,Int.reduceSub,Int.reduceMul,Int.reduceNeg,Int.reduceNe,reduceCtorEq,Int.reduceToNat,↓reduceIte]
      rw [hleft hxy]
      simp only [wk,if_true,if_false,forall_const,implies_true,ne_eq,eq_self,Nat.reduceEqDiff,Nat.reduceAdd,Nat.reduceMul,Nat.reduceSub,Nat.reduceLeDiff,Nat.reduceLT,Int.reduceEq,Int.reduceLT,Int.reduceLE,Int.reduceAdd,Int.reduceSub,Int.reduceMul,Int.reduceNeg,Int.reduceNe,reduceCtorEq,Int.reduceToNat,↓reduceIte]
      exact hQ _ (by rfl)
    simp only [J_law07_PackReads_j3, h0, hlt', h100', hit, item_deg, itemAV, wk,if_true,if_false,forall_const,implies_true,ne_eq,eq_self,Nat.reduceEqDiff,Nat.reduceAdd,Nat.reduceMul,Nat.reduceSub,Nat.reduceLeDiff,Nat.reduceLT,Int.reduceEq,Int.reduceLT,Int.reduceLE,Int.reduceAdd,Int.reduceSub,Int.reduceMul,Int.reduceNeg,Int.reduceNe,reduceCtorEq,Int.reduceToNat,↓reduceIte]
    have hR : ∀ {α : Type} (f : Nat → Option (α × Nat)), (if bad = true then none else f p') = (if bad = true then none else f p) := by
      intro α f
      cases bad with
      | true => rfl
      | false => rw [hpp rfl]
    refine ⟨fun hk => ?_, fun hk => ⟨fun hk1 => ?_, fun hk1 => ⟨fun hk2 => ?_, fun hk2 => ⟨fun hk3 => ?_, fun hk3 => ?_⟩⟩⟩⟩
    · obtain ⟨z, hz⟩ := vI_int (if bad = true then none else rNum S l[i].n p)
      refine ⟨_, _, a_inum (S := S) (s := (bad, p)) l[i].n rfl (by omega) hp, seal_set rfl, ?_⟩
      simp only [hz, wk,if_true,if_false,forall_const,implies_true,ne_eq,eq_self,Nat.reduceEqDiff,Nat.reduceAdd,Nat.reduceMul,Nat.reduceSub,Nat.reduceLeDiff,Nat.reduceLT,Int.reduceEq,Int.reduceLT,Int.reduceLE,Int.reduceAdd,Int.reduceSub,Int.reduceMul,Int.reduceNeg,Int.reduceNe,reduceCtorEq,Int.reduceToNat,↓reduceIte]
      refine ⟨_, _, r_inum (S := S) (s := (bad, p')) l[i].n rfl (by omega) hp', seal_set rfl, ?_⟩
      simp only [hR, hz, wk,if_true,if_false,forall_const,implies_true,ne_eq,eq_self,Nat.reduceEqDiff,Nat.reduceAdd,Nat.reduceMul,Nat.reduceSub,Nat.reduceLeDiff,Nat.reduceLT,Int.reduceEq,Int.reduceLT,Int.reduceLE,Int.reduceAdd,Int.reduceSub,Int.reduceMul,Int.reduceNeg,Int.reduceNe,reduceCtorEq,Int.reduceToNat,↓reduceIte]
      obtain ⟨b, x, y, e1, e2, hxy, hx, hy⟩ := stO_pair (if bad = true then none else rNum S l[i].n p) p (jStop S (bad, p'))
      have hle : ∀ z q, (if bad = true then none else rNum S l[i].n p) = some (z, q) → q ≤ S.size := by
        intro z q h
        split at h
        · cases h
        · exact (rNum_le h hp).2.1
      have hxs : x ≤ S.size := by rcases hx with rfl | ⟨z, h⟩; exact hp; exact hle _ _ h
      have hys : y ≤ S.size := by rcases hy with rfl | ⟨z, h⟩; exact jStop_le hp'; exact hle _ _ h
      rw [e1, e2]
      refine hgo b x y _ _ hxs hys hxy (fun fr hf => ?_) _ rfl
      simp only [kblock_normal, kseq_normal, W_keep]
      rw [hf]
      simp only [wk,if_true,if_false,forall_const,implies_true,ne_eq,eq_self,Nat.reduceEqDiff,Nat.reduceAdd,Nat.reduceMul,Nat.reduceSub,Nat.reduceLeDiff,Nat.reduceLT,Int.reduceEq,Int.reduceLT,Int.reduceLE,Int.reduceAdd,Int.reduceSub,Int.reduceMul,Int.reduceNeg,Int.reduceNe,reduceCtorEq,Int.reduceToNat,↓reduceIte]
      exact ⟨inR_of (by omega) (by omega), 100 - (i + 1), by omega, i + 1, x, y, b, _, by omega, by omega, rfl, hxs, hys, hxy, rfl, rfl⟩
    · -- a text
      obtain ⟨m, hm⟩ : ∃ m, m = (if (1099511627776 : Int) < (if l[i].n < -9 then -9 else l[i].n) then 1099511627776 else (if l[i].n < -9 then -9 else l[i].n)) := ⟨_, rfl⟩
      simp only [← hm]
      obtain ⟨z, hz, _⟩ := vS_str (if bad = true then none else rText S m p)
      obtain ⟨q1, hq1, c1⟩ := a_itext (h := iObj S (bad, p) :: jObj S (bad, p') :: (rest ++ [some (true, itemAV l[i])])) (id := 0) (S := S) (s := (bad, p)) m rfl (by omega) hp
      refine ACalls.use (c1) ?_; rintro _ _ ⟨rfl, rfl⟩; simp only [wk,if_true,if_false,forall_const,implies_true,ne_eq,eq_self,Nat.reduceEqDiff,Nat.reduceAdd,Nat.reduceMul,Nat.reduceSub,Nat.reduceLeDiff,Nat.reduceLT,Int.reduceEq,Int.reduceLT,Int.reduceLE,Int.reduceAdd,Int.reduceSub,Int.reduceMul,Int.reduceNeg,Int.reduceNe,reduceCtorEq,Int.reduceToNat,↓reduceIte]
      simp only [hz, wk,if_true,if_false,forall_const,implies_true,ne_eq,eq_self,Nat.reduceEqDiff,Nat.reduceAdd,Nat.reduceMul,Nat.reduceSub,Nat.reduceLeDiff,Nat.reduceLT,Int.reduceEq,Int.reduceLT,Int.reduceLE,Int.reduceAdd,Int.reduceSub,Int.reduceMul,Int.reduceNeg,Int.reduceNe,reduceCtorEq,Int.reduceToNat,↓reduceIte]
      refine ACalls.use (r_itext (S := S) (s := (bad, p')) m rfl (by omega) hp') ?_
      rintro _ _ ⟨rfl, q2, hq2, rfl⟩
      simp only [hR, hz, wk,if_true,if_false,forall_const,implies_true,ne_eq,eq_self,Nat.reduceEqDiff,Nat.reduceAdd,Nat.reduceMul,Nat.reduceSub,Nat.reduceLeDiff,Nat.reduceLT,Int.reduceEq,Int.reduceLT,Int.reduceLE,Int.reduceAdd,Int.reduceSub,Int.reduceMul,Int.reduceNeg,Int.reduceNe,reduceCtorEq,Int.reduceToNat,↓reduceIte]
      obtain ⟨b, x, y, e1, e2, hxy, hx, hy⟩ := stO_pair (if bad = true then none else rText S m p) q1 q2
      have hle : ∀ z q, (if bad = true then none else rText S m p) = some (z, q) → q ≤ S.size := by
        intro z q h
        split at h
        · cases h
        · unfold rText at h
          split at h
          · exact (rTake_le h).2.1
          · cases h
      have hxs : x ≤ S.size := by rcases hx with rfl | ⟨z, h⟩; exact hq1; exact hle _ _ h
      have hys : y ≤ S.size := by rcases hy with rfl | ⟨z, h⟩; exact hq2; exact hle _ _ h
      rw [e1, e2]
      refine hgo b x y _ _ hxs hys hxy (fun fr hf => ?_) _ rfl
      simp only [kblock_normal, kseq_normal, W_keep]
      rw [hf]
      simp only [wk,if_true,if_false,forall_const,implies_true,ne_eq,eq_self,Nat.reduceEqDiff,Nat.reduceAdd,Nat.reduceMul,Nat.reduceSub,Nat.reduceLeDiff,Nat.reduceLT,Int.reduceEq,Int.reduceLT,Int.reduceLE,Int.reduceAdd,Int.reduceSub,Int.reduceMul,Int.reduceNeg,Int.reduceNe,reduceCtorEq,Int.reduceToNat,↓reduceIte]
      exact ⟨inR_of (by omega) (by omega), 100 - (i + 1), by omega, i + 1, x, y, b, _, by omega, by omega, rfl, hxs, hys, hxy, rfl, rfl⟩
    · -- a word
      obtain ⟨z, hz, _⟩ := vS_str (if bad = true then none else rWord S p)
      obtain ⟨q1, hq1, c1⟩ := a_iword (h := iObj S (bad, p) :: jObj S (bad, p') :: (rest ++ [some (true, itemAV l[i])])) (id := 0) (S := S) (s := (bad, p)) rfl (by omega) hp
      refine ACalls.use (c1) ?_; rintro _ _ ⟨rfl, rfl⟩; simp only [wk,if_true,if_false,forall_const,implies_true,ne_eq,eq_self,Nat.reduceEqDiff,Nat.reduceAdd,Nat.reduceMul,Nat.reduceSub,Nat.reduceLeDiff,Nat.reduceLT,Int.reduceEq,Int.reduceLT,Int.reduceLE,Int.reduceAdd,Int.reduceSub,Int.reduceMul,Int.reduceNeg,Int.reduceNe,reduceCtorEq,Int.reduceToNat,↓reduceIte]
      simp only [hz, wk,if_true,if_false,forall_const,implies_true,ne_eq,eq_self,Nat.reduceEqDiff,Nat.reduceAdd,Nat.reduceMul,Nat.reduceSub,Nat.reduceLeDiff,Nat.reduceLT,Int.reduceEq,Int.reduceLT,Int.reduceLE,Int.reduceAdd,Int.reduceSub,Int.reduceMul,Int.reduceNeg,Int.reduceNe,reduceCtorEq,Int.reduceToNat,↓reduceIte]
      refine ACalls.use (r_iword (S := S) (s := (bad, p')) rfl (by omega) hp') ?_; rintro _ _ ⟨rfl, rfl⟩; simp only [wk,if_true,if_false,forall_const,implies_true,ne_eq,eq_self,Nat.reduceEqDiff,Nat.reduceAdd,Nat.reduceMul,Nat.reduceSub,Nat.reduceLeDiff,Nat.reduceLT,Int.reduceEq,Int.reduceLT,Int.reduceLE,Int.reduceAdd,Int.reduceSub,Int.reduceMul,Int.reduceNeg,Int.reduceNe,reduceCtorEq,Int.reduceToNat,↓reduceIte]
      simp only [hR, hz, wk,if_true,if_false,forall_const,implies_true,ne_eq,eq_self,Nat.reduceEqDiff,Nat.reduceAdd,Nat.reduceMul,Nat.reduceSub,Nat.reduceLeDiff,Nat.reduceLT,Int.reduceEq,Int.reduceLT,Int.reduceLE,Int.reduceAdd,Int.reduceSub,Int.reduceMul,Int.reduceNeg,Int.reduceNe,reduceCtorEq,Int.reduceToNat,↓reduceIte]
      obtain ⟨b, x, y, e1, e2, hxy, hx, hy⟩ := stO_pair (if bad = true then none else rWord S p) q1 p'
      have hle : ∀ z q, (if bad = true then none else rWord S p) = some (z, q) → q ≤ S.size := by
        intro z q h
        split at h
        · cases h
        · exact (rWord_le h).2.1
      have hxs : x ≤ S.size := by rcases hx with rfl | ⟨z, h⟩; exact hq1; exact hle _ _ h
      have hys : y ≤ S.size := by rcases hy with rfl | ⟨z, h⟩; exact hp'; exact hle _ _ h
      rw [e1, e2]
      refine hgo b x y _ _ hxs hys hxy (fun fr hf => ?_) _ rfl
      simp only [kblock_normal, kseq_normal, W_keep]
      rw [hf]
      simp only [wk,if_true,if_false,forall_const,implies_true,ne_eq,eq_self,Nat.reduceEqDiff,Nat.reduceAdd,Nat.reduceMul,Nat.reduceSub,Nat.reduceLeDiff,Nat.reduceLT,Int.reduceEq,Int.reduceLT,Int.reduceLE,Int.reduceAdd,Int.reduceSub,Int.reduceMul,Int.reduceNeg,Int.reduceNe,reduceCtorEq,Int.reduceToNat,↓reduceIte]
      exact ⟨inR_of (by omega) (by omega), 100 - (i + 1), by omega, i + 1, x, y, b, _, by omega, by omega, rfl, hxs, hys, hxy, rfl, rfl⟩
    · -- a set
      obtain ⟨fl, ws, hz, hfl, hws, hwn⟩ := vL_lst (if bad = true then none else rSet S p)
      refine ACalls.use (a_iset (S := S) (s := (bad, p)) rfl (by omega) hp) ?_
      rintro _ _ ⟨rfl, q1, hq1, rfl⟩
      have hwl : ws.length ≤ 9223372036854775807 := by
        cases hs : (if bad = true then none else rSet S p) with
        | none => rw [hwn hs]; simp
        | some x =>
          obtain ⟨x, q⟩ := x
          rw [← hws x q hs]
          split at hs
          · cases hs
          · unfold rSet at hs
            split at hs
            · cases hs
            · split at hs
              · next l' q' hr =>
                split at hs
                · simp only [Option.some.injEq, Prod.mk.injEq] at hs
                  have := (rWords_le (by omega) hr).1
                  have := byteAt_lt S p
                  rw [← hs.1]; omega
                · cases hs
              · cases hs
      have hle : ∀ z q, (if bad = true then none else rSet S p) = some (z, q) → q ≤ S.size := by
        intro z q h
        split at h
        · cases h
        · unfold rSet at h
          split at h
          · cases h
          · split at h
            · next l' q' hr =>
              split at h
              · simp only [Option.some.injEq, Prod.mk.injEq] at h
                have := rWords_le (by omega) hr
                omega
              · cases h
            · cases h
      have heq := p_requal' fl hfl ws hwl
      rcases hfl with rfl | rfl
      all_goals
        simp only [hz, wk,if_true,if_false,forall_const,implies_true,ne_eq,eq_self,Nat.reduceEqDiff,Nat.reduceAdd,Nat.reduceMul,Nat.reduceSub,Nat.reduceLeDiff,Nat.reduceLT,Int.reduceEq,Int.reduceLT,Int.reduceLE,Int.reduceAdd,Int.reduceSub,Int.reduceMul,Int.reduceNeg,Int.reduceNe,reduceCtorEq,Int.reduceToNat,↓reduceIte]
        refine ACalls.use (r_iset (S := S) (s := (bad, p')) rfl (by omega) hp') ?_
        rintro _ _ ⟨rfl, q2, hq2, rfl⟩
        simp only [hR, hz, wk,if_true,if_false,forall_const,implies_true,ne_eq,eq_self,Nat.reduceEqDiff,Nat.reduceAdd,Nat.reduceMul,Nat.reduceSub,Nat.reduceLeDiff,Nat.reduceLT,Int.reduceEq,Int.reduceLT,Int.reduceLE,Int.reduceAdd,Int.reduceSub,Int.reduceMul,Int.reduceNeg,Int.reduceNe,reduceCtorEq,Int.reduceToNat,↓reduceIte]
        refine PCalls.use heq ?_
        simp only [wk,if_true,if_false,forall_const,implies_true,ne_eq,eq_self,Nat.reduceEqDiff,Nat.reduceAdd,Nat.reduceMul,Nat.reduceSub,Nat.reduceLeDiff,Nat.reduceLT,Int.reduceEq,Int.reduceLT,Int.reduceLE,Int.reduceAdd,Int.reduceSub,Int.reduceMul,Int.reduceNeg,Int.reduceNe,reduceCtorEq,Int.reduceToNat,↓reduceIte]
        obtain ⟨b, x, y, e1, e2, hxy, hx, hy⟩ := stO_pair (if bad = true then none else rSet S p) q1 q2
        have hxs : x ≤ S.size := by rcases hx with rfl | ⟨z, h⟩; exact hq1; exact hle _ _ h
        have hys : y ≤ S.size := by rcases hy with rfl | ⟨z, h⟩; exact hq2; exact hle _ _ h
        rw [e1, e2]
        refine hgo b x y _ _ hxs hys hxy (fun fr hf => ?_) _ rfl
        simp only [kblock_normal, kseq_normal, W_keep]
        rw [hf]
        simp only [wk,if_true,if_false,forall_const,implies_true,ne_eq,eq_self,Nat.reduceEqDiff,Nat.reduceAdd,Nat.reduceMul,Nat.reduceSub,Nat.reduceLeDiff,Nat.reduceLT,Int.reduceEq,Int.reduceLT,Int.reduceLE,Int.reduceAdd,Int.reduceSub,Int.reduceMul,Int.reduceNeg,Int.reduceNe,reduceCtorEq,Int.reduceToNat,↓reduceIte]
        exact ⟨inR_of (by omega) (by omega), 100 - (i + 1), by omega, i + 1, x, y, b, _, by omega, by omega, rfl, hxs, hys, hxy, rfl, rfl⟩
    · refine hgo bad p p' _ _ hp hp' hpp (fun fr hf => ?_) _ rfl
      simp only [kblock_normal, kseq_normal, W_keep]
      rw [hf]
      simp only [wk,if_true,if_false,forall_const,implies_true,ne_eq,eq_self,Nat.reduceEqDiff,Nat.reduceAdd,Nat.reduceMul,Nat.reduceSub,Nat.reduceLeDiff,Nat.reduceLT,Int.reduceEq,Int.reduceLT,Int.reduceLE,Int.reduceAdd,Int.reduceSub,Int.reduceMul,Int.reduceNeg,Int.reduceNe,reduceCtorEq,Int.reduceToNat,↓reduceIte]
      exact ⟨inR_of (by omega) (by omega), 100 - (i + 1), by omega, i + 1, p, p', bad, _, by omega, by omega, rfl, hp, hp', hpp, rfl, rfl⟩
  · simp only [J_law07_PackReads_j3, wk,if_true,if_false,forall_const,implies_true,ne_eq,eq_self,Nat.reduceEqDiff,Nat.reduceAdd,Nat.reduceMul,Nat.reduceSub,Nat.reduceLeDiff,Nat.reduceLT,Int.reduceEq,Int.reduceLT,Int.reduceLE,Int.reduceAdd,Int.reduceSub,Int.reduceMul,Int.reduceNeg,Int.reduceNe,reduceCtorEq,Int.reduceToNat,↓reduceIte]
    refine ⟨fun hlt => ⟨fun h100 => absurd ⟨by omega, by omega⟩ hc, fun h100 => hend _ (fun fr h hb => ?_) _ rfl⟩, fun hge => hend _ (fun fr h hb => ?_) _ rfl⟩
    · simp only [wk,if_true,if_false,forall_const,implies_true,ne_eq,eq_self,Nat.reduceEqDiff,Nat.reduceAdd,Nat.reduceMul,Nat.reduceSub,Nat.reduceLeDiff,Nat.reduceLT,Int.reduceEq,Int.reduceLT,Int.reduceLE,Int.reduceAdd,Int.reduceSub,Int.reduceMul,Int.reduceNeg,Int.reduceNe,reduceCtorEq,Int.reduceToNat,↓reduceIte, hb]
    · simp only [wk,if_true,if_false,forall_const,implies_true,ne_eq,eq_self,Nat.reduceEqDiff,Nat.reduceAdd,Nat.reduceMul,Nat.reduceSub,Nat.reduceLeDiff,Nat.reduceLT,Int.reduceEq,Int.reduceLT,Int.reduceLE,Int.reduceAdd,Int.reduceSub,Int.reduceMul,Int.reduceNeg,Int.reduceNe,reduceCtorEq,Int.reduceToNat,↓reduceIte, hb]
end Go.Proofs.Ytdmhilhfdcmdiaa
